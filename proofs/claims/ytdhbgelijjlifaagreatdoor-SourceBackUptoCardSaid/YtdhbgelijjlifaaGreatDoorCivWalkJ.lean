/- Walks of civil's small functions. -/
import Derived.Test.YtdhbgelijjlifaaGreatDoorProg
import Derived.WalkKit
import Derived.WalkSpells
import Derived.WalkLawsBesides
import Derived.Test.YtdhbgelijjlifaaGreatDoorOwns
import Derived.Test.YtdhbgelijjlifaaGreatDoorSrcPlainB
import Derived.StillTail
set_option linter.unusedVariables false
set_option linter.unusedSimpArgs false
namespace Go.Proofs.YtdhbgelijjlifaaGreatDoor
open Go.RowKit
end Go.Proofs.YtdhbgelijjlifaaGreatDoor
namespace Go.Proofs.YtdhbgelijjlifaaGreatDoor
open Go.RowKit
theorem jan_bd (y : Int) (h : -1000000 ≤ y) (h' : y ≤ 1000000) : -500000000 ≤ Civ.jan y ∧ Civ.jan y ≤ 500000000 := by unfold Civ.jan; omega
def dnum (y m d : Int) : Int := if Civ.okD y m d = true then Civ.num y m d else 0
theorem dnum_yes (y m d : Int) (h : Civ.okD y m d = true) : dnum y m d = Civ.num y m d := if_pos h
theorem dnum_no (y m d : Int) (h : Civ.okD y m d = false) : dnum y m d = 0 := by simp [dnum, h]
theorem num_bd (y m d : Int) (hy : -1000000 ≤ y) (hy' : y ≤ 1000000) (h1 : 1 ≤ m) (h2 : m ≤ 12) (hd : 1 ≤ d) (hd' : d ≤ 31) : -500001000 ≤ Civ.num y m d ∧ Civ.num y m d ≤ 500001000 := by
 have := jan_bd y hy hy'; have := Civ.cum_bd y m h1 (by omega); have := Civ.lp_01 y
 unfold Civ.num; omega
end Go.Proofs.YtdhbgelijjlifaaGreatDoor
namespace Go.Proofs.YtdhbgelijjlifaaGreatDoor
open Go.RowKit
end Go.Proofs.YtdhbgelijjlifaaGreatDoor
namespace Go.Proofs.YtdhbgelijjlifaaGreatDoor
open Go Go.RowKit
section
variable {P : Program} {ops : Array Oper} {md : Region.Mode} {C : World → Prop} {n : Nat} {L : Array Bool → Act → Prop}
def Heads (P : Program) (md : Region.Mode) (ops : Array Oper) (C : World → Prop) (n : Nat) (L : Array Bool → Act → Prop) : Nat → Array Bool → Act → Prop
 | 0, listed, a => L listed a
 | f + 1, listed, a => Region.ready md ops listed ≠ [] ∧ ∀ i ∈ Region.ready md ops listed, i < n ∧ qOp P ops C i (Heads P md ops C n L f (listed.setIfInBounds i true)) a
theorem heads_sound {g : Nat} {Q' : Exit → Act → World → Prop} (hL : ∀ listed a w, C w → L listed a → wpAny P md ops Q' g listed a w) :
 ∀ (f : Nat) (listed : Array Bool) (a : Act) (w : World), C w → Heads P md ops C n L f listed a → wpAny P md ops Q' (f + g) listed a w := by
 intro f
 induction f with
 | zero => intro listed a w hw h; rw [Nat.zero_add]; exact hL _ _ _ hw h
 | succ f ih =>
   intro listed a w hw h
   have e : f + 1 + g = (f + g) + 1 := by omega
   rw [e]
   refine ⟨fun h0 => absurd h0 h.1, fun i hi => ?_⟩
   exact wpOp_of_qOp hw (fun a' w' hw' h' => ih _ a' w' hw' h') (h.2 i hi).2
theorem heads_first {i : Nat} {oi : Oper} {v : Value} (hi : ops[i]? = some oi) (hsel : ∀ (j : Nat) (o : Oper) cs b, ops[j]? = some o → o.op ≠ .select cs b)
 (hs : Region.sinkB md ops n = true) (hc : Region.chainB md ops n = true) (hn : n < ops.size) (hin : i < n)
 (hdone : ∀ listed a, L listed a → ∀ j ∈ Region.ready md ops listed, n ≤ j) :
 ∀ (f : Nat) (listed : Array Bool) (a : Act), HeadInv md ops n listed →
   (∀ j oj, ops[j]? = some oj → j ≠ i → listed.getD j true = false → (∀ e ∈ oj.after, Region.binds md e = true → e.on ≠ i) → oi.apart ops oj = true) →
   i ∈ Region.ready md ops listed → YieldsIn P ops C oi v a →
   Heads P md ops C n L f (listed.setIfInBounds i true) (a.put oi.dst v) → Heads P md ops C n L (f + 1) listed a := by
 have early : ∀ (listed : Array Bool), HeadInv md ops n listed → i ∈ Region.ready md ops listed → ∀ j ∈ Region.ready md ops listed, j < n := by
  intro listed inv hr j hj
  by_cases hjn : j < n
  · exact hjn
  · exact absurd hj (tail_waits hs hc hn inv _ i rfl hin (mem_ready.1 hr).1 j (by omega))
 have some_ready : ∀ (listed : Array Bool), i ∈ Region.ready md ops listed → Region.ready md ops listed ≠ [] := by
  intro listed hr h0; rw [h0] at hr; cases hr
 intro f
 induction f with
 | zero =>
   intro listed a inv _ hr hy H
   refine ⟨some_ready listed hr, fun j hj => ⟨early listed inv hr j hj, ?_⟩⟩
   by_cases hji : j = i
   · subst hji; exact hy.qOp hi H
   · have h1 := hdone _ _ H j (ready_mono hj hji)
     have h2 := early listed inv hr j hj
     omega
 | succ f ih =>
   intro listed a inv hfree hr hy H
   refine ⟨some_ready listed hr, fun j hj => ⟨early listed inv hr j hj, ?_⟩⟩
   by_cases hji : j = i
   · subst hji; exact hy.qOp hi H
   · obtain ⟨hjun, oj, hoj, hall⟩ := mem_ready.1 hj
     have hun := (mem_ready.1 hr).1
     have hapart : oi.apart ops oj = true := hfree j oj hoj hji hjun fun e he hb heq => by
      have h1 := hall e he hb
      rw [heq, getD_both hun] at h1
      cases h1
     have hq := qOp_put hoj hapart (fun cs b => hsel i oi cs b hi) (fun cs b => hsel j oj cs b hoj) hy (H.2 j (ready_mono hj hji)).2
     refine qOp_mono (fun a' h3 => ih (listed.setIfInBounds j true) a' (inv.set hj (early listed inv hr j hj)) ?_ (ready_mono hr (Ne.symm hji)) h3.1 ?_) hq
     · intro k ok hk hki hkun hno
       by_cases hjk : j = k
       · subst hjk; exact hfree j ok hk hki hjun hno
       · rw [getD_set_ne true hjk] at hkun
         exact hfree k ok hk hki hkun hno
     · rw [Array.setIfInBounds_comm _ _ hji]
       exact h3.2
theorem heads_lex {g : Nat} {K : Act → Prop} (hsel : Region.noSelect ops = true) (hs : Region.sinkB md ops n = true) (hc : Region.chainB md ops n = true) (hn : n < ops.size) :
 ∀ (l : List Oper) (k : Nat) (listed : Array Bool) (a : Act), (∀ j, j < l.length → l[j]? = ops[k + j]?) → k + l.length = n → HeadInv md ops n listed →
 Region.lexHead md ops g l.length k listed = true → wpQuiet P ops C K l a →
 Heads P md ops C n (fun listed' a' => Region.seqB md ops g n listed' = true ∧ K a') l.length listed a := by
 intro l
 induction l with
 | nil =>
   intro k listed a _ hk _ hB h
   obtain rfl : k = n := by simpa using hk
   exact ⟨hB, h⟩
 | cons o l ih =>
   intro k listed a hl hk inv hB h
   have hlen : k + (l.length + 1) = n := by simpa using hk
   have h0 : ops[k]? = some o := by have := hl 0 (by simp); simpa using this.symm
   simp only [List.length_cons, Region.lexHead, Bool.and_eq_true] at hB
   have hr : k ∈ Region.ready md ops listed := by simpa using hB.1.1
   have hq : qOp P ops C k (wpQuiet P ops C K l) a := by unfold qOp; simp only [h0]; exact h
   obtain ⟨v, hy, hK⟩ := yieldsIn_of_qOp h0 hq
   refine heads_first h0 (Region.noSelect_spec hsel) hs hc hn (by omega) (fun listed' a' hL => seqB_ready hL.1) l.length listed a inv (Region.free_spec h0 hB.1.2) hr hy ?_
   refine ih (k + 1) _ _ (fun j hj => ?_) (by omega) (inv.set hr (by omega)) hB.2 hK
   have := hl (j + 1) (by simp; omega)
   simpa [Nat.add_assoc, Nat.add_comm 1 j] using this
end
theorem wp_region_tail {P : Program} {id : Nat} {Q : Exit → Act → World → Prop} {a : Act} {w : World} {l : List Oper} (n : Nat) (C : World → Prop) (hm : P.follows .mixedOrders = true) (hB : Region.lexTailB .any l.toArray n = true)
 (hC : C { w with drawn := w.drawn + 1 })
 (h : wpQuiet P l.toArray C (fun a' => ∀ w', C w' → wpList P l.toArray Q (l.drop n) a' w') (l.take n) a) : (Code.region id l.toArray true).wp P Q a w := by
 simp only [Region.lexTailB, Bool.and_eq_true, decide_eq_true_eq] at hB
 obtain ⟨⟨⟨⟨hsel, hn⟩, hs⟩, hc⟩, hlex⟩ := hB
 have hn' : n < l.length := by simpa using hn
 have htl : (l.take n).length = n := by simp; omega
 have hdl : (l.drop n).length = l.toArray.size - n := by simp
 have inv0 : HeadInv .any l.toArray n (Array.replicate l.toArray.size false) :=
  ⟨by simp, fun j oj _ hl => (by rw [getD_replicate_false] at hl; cases hl), fun t _ ht => getD_in (by simpa using ht) (getD_replicate_false _ _)⟩
 have H := heads_lex (md := .any) (C := C) (g := l.toArray.size - n) hsel hs hc hn (l.take n) 0 _ a (fun j hj => by
  have hj' : j < n := by rw [htl] at hj; exact hj
  simp [hj']) (by simpa using htl) inv0 (by rw [htl]; exact hlex) h
 refine wp_region_any hm ?_
 have := heads_sound (Q' := Q) (g := l.toArray.size - n) (fun listed a' w' hw' hL => by
  have := wpAny_of_seq (md := .any) (Q' := Q) (l.drop n) n listed a' w' (fun j => by simp [List.getElem?_drop]) (by rw [hdl]; exact hL.1) (hL.2 w' hw')
  rwa [hdl] at this) _ _ _ _ hC H
 rw [htl, show n + (l.toArray.size - n) = l.toArray.size by omega] at this
 exact this
theorem wp_region_past_tail {P : Program} {id : Nat} {Q : Exit → Act → World → Prop} {a : Act} {w : World} {l : List Oper} (n : Nat) (hm : P.follows .mixedOrders = true) (hB : Region.lexTailB .any l.toArray n = true)
 (h : wpQuiet P l.toArray (fun w' => ∃ y : Past w, w' = y.x) (fun a' => ∀ y : Past w, wpList P l.toArray Q (l.drop n) a' y.x) (l.take n) a) : (Code.region id l.toArray true).wp P Q a w := by
 refine wp_region_tail n (fun w' => ∃ y : Past w, w' = y.x) hm hB ⟨⟨w.drew, Ext.drew (Ext.refl w)⟩, rfl⟩ ?_
 have hq : (fun a' => ∀ y : Past w, wpList P l.toArray Q (l.drop n) a' y.x) = (fun a' => ∀ w', (∃ y : Past w, w' = y.x) → wpList P l.toArray Q (l.drop n) a' w') := by
  funext a'
  apply propext
  constructor
  · rintro h _ ⟨y, rfl⟩; exact h y
  · intro h y; exact h _ ⟨y, rfl⟩
 rw [← hq]
 exact h
end Go.Proofs.YtdhbgelijjlifaaGreatDoor
namespace Go.Proofs.YtdhbgelijjlifaaGreatDoor
open Go.RowKit
end Go.Proofs.YtdhbgelijjlifaaGreatDoor
namespace Go.Proofs.YtdhbgelijjlifaaGreatDoor
open Go.RowKit
theorem dnum_bd (y m d : Int) : -100000001 ≤ dnum y m d ∧ dnum y m d ≤ 100000000 := by
 cases h : Civ.okD y m d
 · rw [dnum_no y m d h]; omega
 · rw [dnum_yes y m d h]; have := Civ.okD_yes y m d h; omega
end Go.Proofs.YtdhbgelijjlifaaGreatDoor
namespace Go.Proofs.YtdhbgelijjlifaaGreatDoor
open Go.RowKit
end Go.Proofs.YtdhbgelijjlifaaGreatDoor
namespace Go.Proofs.YtdhbgelijjlifaaGreatDoor
open Go.RowKit
end Go.Proofs.YtdhbgelijjlifaaGreatDoor
namespace Go.Proofs.YtdhbgelijjlifaaGreatDoor
open Go.RowKit
end Go.Proofs.YtdhbgelijjlifaaGreatDoor
namespace Go.Proofs.YtdhbgelijjlifaaGreatDoor
open Go.RowKit
end Go.Proofs.YtdhbgelijjlifaaGreatDoor
namespace Go.Proofs.YtdhbgelijjlifaaGreatDoor
open Go.RowKit
end Go.Proofs.YtdhbgelijjlifaaGreatDoor
