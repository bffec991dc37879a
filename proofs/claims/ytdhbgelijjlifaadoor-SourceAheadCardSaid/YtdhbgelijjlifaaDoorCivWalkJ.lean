/- Walks of civil's small functions. -/
import Derived.Test.YtdhbgelijjlifaaDoorProg
import Derived.WalkKit
import Derived.WalkSpells
import Derived.WalkLawsBesides
import Derived.Test.YtdhbgelijjlifaaDoorOwns
import Derived.Test.YtdhbgelijjlifaaDoorSrcPlainB
import Derived.StillTail
set_option linter.unusedVariables false
set_option linter.unusedSimpArgs false
namespace Go.Proofs.YtdhbgelijjlifaaDoor
open Go.RowKit

theorem down_plain (a b : Int) (hb : 1 ≤ b) : (a < a.tdiv b * b → a.tdiv b - 1 = a / b) ∧ (a.tdiv b * b ≤ a → a.tdiv b = a / b) := by
  have e1 := Int.mul_tdiv_add_tmod a b
  rw [Int.mul_comm] at e1
  exact ⟨fun h => (tmod_neg a b hb (by omega)).1, fun h => (tmod_pos a b hb (by omega)).1⟩
theorem tdiv_bd (a b : Int) (hb : 1 ≤ b) (ha : -1000000000000 ≤ a) (ha' : a ≤ 1000000000000) : -1000000000000 ≤ a.tdiv b * b ∧ a.tdiv b * b ≤ 1000000000000 ∧ -1000000000000 ≤ a.tdiv b ∧ a.tdiv b ≤ 1000000000000 := by
  have e1 := Int.mul_tdiv_add_tmod a b
  rw [Int.mul_comm] at e1
  have l2 : a.tmod b < b := Int.tmod_lt_of_pos a (show 0 < b by omega)
  have l3 : - b < a.tmod b := by
    have := Int.lt_tmod_of_pos a (show 0 < b by omega); omega
  by_cases h : 0 ≤ a
  · have h1 := Int.tmod_nonneg b h
    have h2 := Int.tdiv_nonneg h (show 0 ≤ b by omega)
    have h3 : a.tdiv b * 1 ≤ a.tdiv b * b := Int.mul_le_mul_of_nonneg_left hb h2
    omega
  · have h1 : a.tmod b ≤ 0 := by
      have := Int.tmod_nonneg b (show 0 ≤ -a by omega); rw [Int.neg_tmod] at this; omega
    have h2 : a.tdiv b ≤ 0 := by
      have := Int.tdiv_nonneg (show 0 ≤ -a by omega) (show 0 ≤ b by omega); rw [Int.neg_tdiv] at this; omega
    have h3 : a.tdiv b * b ≤ a.tdiv b * 1 := Int.mul_le_mul_of_nonpos_left h2 hb
    omega

theorem leap_t (y : Int) : Civ.leapB y = ((y.tmod 4 == 0) && ((y.tmod 100 != 0) || (y.tmod 400 == 0))) := by
  unfold Civ.leapB
  have h1 := tz y 4
  have h2 := tz y 100
  have h3 := tz y 400
  by_cases a1 : y.tmod 4 = 0
  · have b1 := h1.1 a1
    by_cases a2 : y.tmod 100 = 0
    · have b2 := h2.1 a2
      by_cases a3 : y.tmod 400 = 0
      · have b3 := h3.1 a3
        simp [a1, a2, a3, b1, b2, b3]
      · have b3 : ¬ y % 400 = 0 := fun k => a3 (h3.2 k)
        simp [a1, a2, a3, b1, b2, b3]
    · have b2 : ¬ y % 100 = 0 := fun k => a2 (h2.2 k)
      simp [a1, a2, b1, b2]
  · have b1 : ¬ y % 4 = 0 := fun k => a1 (h1.2 k)
    simp [a1, b1]
theorem leap_r (y : Int) : Civ.leapB y = (if (y.tmod 400 == 0) = true then true else if (y.tmod 100 == 0) = true then false else (y.tmod 4 == 0)) := by
  unfold Civ.leapB
  have h1 := tz y 4
  have h2 := tz y 100
  have h3 := tz y 400
  by_cases a3 : y.tmod 400 = 0
  · have := h3.1 a3
    simp [a3]; omega
  · by_cases a2 : y.tmod 100 = 0
    · have := h2.1 a2
      have b3 : ¬ y % 400 = 0 := fun k => a3 (h3.2 k)
      simp [a3, a2, b3, this]
    · have b2 : ¬ y % 100 = 0 := fun k => a2 (h2.2 k)
      simp [a3, a2, b2, ← h1]
      by_cases a1 : y.tmod 4 = 0 <;> simp [a1]

theorem lens_at (y m : Int) (h1 : 1 ≤ m) (h2 : m ≤ 12) (h3 : m ≠ 2) : ([Value.int IntKind.i64 0, Value.int IntKind.i64 31, Value.int IntKind.i64 28, Value.int IntKind.i64 31, Value.int IntKind.i64 30, Value.int IntKind.i64 31, Value.int IntKind.i64 30, Value.int IntKind.i64 31, Value.int IntKind.i64 31, Value.int IntKind.i64 30, Value.int IntKind.i64 31, Value.int IntKind.i64 30, Value.int IntKind.i64 31])[m.toNat]? = some (.int .i64 (Civ.mlen y m)) := by
  rcases Civ.m12 m h1 h2 with rfl | rfl | rfl | rfl | rfl | rfl | rfl | rfl | rfl | rfl | rfl | rfl <;> first | (simp [Civ.mlen]; done) | omega

theorem count_late (y m d : Int) (h1 : 1 ≤ m) (h2 : m ≤ 12) (h3 : m - 3 < 0) : (y - 1) / 400 * 146097 + (y - 1) % 400 * 365 + (y - 1) % 400 / 4 - (y - 1) % 400 / 100 + (153 * (m - 3 + 12) + 2) / 5 + d - 1 - 719468 = Civ.num y m d := by
  have := Civ.count_eq y m d h1 h2; rw [if_pos h3] at this; exact this
theorem count_early (y m d : Int) (h1 : 1 ≤ m) (h2 : m ≤ 12) (h3 : ¬ m - 3 < 0) : y / 400 * 146097 + y % 400 * 365 + y % 400 / 4 - y % 400 / 100 + (153 * (m - 3) + 2) / 5 + d - 1 - 719468 = Civ.num y m d := by
  have := Civ.count_eq y m d h1 h2; rw [if_neg h3] at this; exact this

end Go.Proofs.YtdhbgelijjlifaaDoor
set_option linter.unusedVariables false
set_option linter.unusedSimpArgs false
namespace Go.Proofs.YtdhbgelijjlifaaDoor
open Go.RowKit

theorem jan_bd (y : Int) (h : -1000000 ≤ y) (h' : y ≤ 1000000) : -500000000 ≤ Civ.jan y ∧ Civ.jan y ≤ 500000000 := by unfold Civ.jan; omega

theorem ret_days {a b : Int} {c d : Bool} (h : a = b) (k : c = d) : Ending.returned (.tuple #[.int .i64 a, .bool c]) = .returned (.tuple #[.int .i64 b, .bool d]) := by rw [h, k]

/-- A date's number, 0 where it is not right. -/
def dnum (y m d : Int) : Int := if Civ.okD y m d = true then Civ.num y m d else 0
theorem dnum_yes (y m d : Int) (h : Civ.okD y m d = true) : dnum y m d = Civ.num y m d := if_pos h
theorem dnum_no (y m d : Int) (h : Civ.okD y m d = false) : dnum y m d = 0 := by simp [dnum, h]
theorem num_bd (y m d : Int) (hy : -1000000 ≤ y) (hy' : y ≤ 1000000) (h1 : 1 ≤ m) (h2 : m ≤ 12) (hd : 1 ≤ d) (hd' : d ≤ 31) : -500001000 ≤ Civ.num y m d ∧ Civ.num y m d ≤ 500001000 := by
  have := jan_bd y hy hy'; have := Civ.cum_bd y m h1 (by omega); have := Civ.lp_01 y
  unfold Civ.num; omega
theorem no_year (y m d : Int) (h : y < -271821 ∨ 275760 < y) : Civ.okD y m d = false := by
  cases k : Civ.okD y m d
  · rfl
  · have := Civ.okD_year y m d k; omega
theorem no_fits (y m d : Int) (h : ¬ Civ.fits y m d) : Civ.okD y m d = false := Civ.okD_mk_no y m d fun k => h k.1

end Go.Proofs.YtdhbgelijjlifaaDoor
set_option linter.unusedVariables false
set_option linter.unusedSimpArgs false
namespace Go.Proofs.YtdhbgelijjlifaaDoor
open Go.RowKit

theorem rdays_cases (y m d : Int) : y < -280000 ∨ (decide (y < -280000) = false ∧ 280000 < y) ∨ (decide (y < -280000) = false ∧ decide (280000 < y) = false ∧ m < 1) ∨ (decide (y < -280000) = false ∧ decide (280000 < y) = false ∧ decide (m < 1) = false ∧ 12 < m)
    ∨ (decide (y < -280000) = false ∧ decide (280000 < y) = false ∧ decide (m < 1) = false ∧ decide (12 < m) = false ∧ d < 1) ∨ (decide (y < -280000) = false ∧ decide (280000 < y) = false ∧ decide (m < 1) = false ∧ decide (12 < m) = false ∧ decide (d < 1) = false ∧ Civ.mlen y m < d)
    ∨ (decide (y < -280000) = false ∧ decide (280000 < y) = false ∧ decide (m < 1) = false ∧ decide (12 < m) = false ∧ decide (d < 1) = false ∧ decide (Civ.mlen y m < d) = false) := by
  simp only [decide_eq_false_iff_not]; omega

theorem mlen_bd' (y m : Int) : -1 ≤ Civ.mlen y m ∧ Civ.mlen y m ≤ 31 := by have := Civ.mlen_bd y m; omega
theorem ret_of {a b c a' b' c' : Int} {k k' : Bool} (h1 : a = a') (h2 : b = b') (h3 : c = c') (h : k = k') : Ending.returned (.tuple #[.agg #[.int .i64 a, .int .i64 b, .int .i64 c], .bool k]) = .returned (.tuple #[.agg #[.int .i64 a', .int .i64 b', .int .i64 c'], .bool k']) := by rw [h1, h2, h3, h]

end Go.Proofs.YtdhbgelijjlifaaDoor
set_option linter.unusedVariables false
set_option linter.unusedSimpArgs false
namespace Go.Proofs.YtdhbgelijjlifaaDoor
open Go Go.RowKit

section
variable {P : Program} {ops : Array Oper} {md : Region.Mode} {C : World → Prop} {n : Nat} {L : Array Bool → Act → Prop}

/-- The head's orders: f operations of the first n are still to come; behind them L. -/
def Heads (P : Program) (md : Region.Mode) (ops : Array Oper) (C : World → Prop) (n : Nat) (L : Array Bool → Act → Prop) : Nat → Array Bool → Act → Prop
  | 0, listed, a => L listed a
  | f + 1, listed, a => Region.ready md ops listed ≠ [] ∧ ∀ i ∈ Region.ready md ops listed, i < n ∧ qOp P ops C i (Heads P md ops C n L f (listed.setIfInBounds i true)) a

theorem heads_sound {g : Nat} {Q' : Exit → Act → World → Prop} (hL : ∀ listed a w, C w → L listed a → wpAny P md ops Q' g listed a w) :
    ∀ (f : Nat) (listed : Array Bool) (a : Act) (w : World), C w → Heads P md ops C n L f listed a → wpAny P md ops Q' (f + g) listed a w := by
  intro f
  induction f with
  | zero => intro listed a w hw h; rw [Nat.zero_add]; exact hL _ _ _ hw h
  | succ f ih =>
    intro listed a w hw h
    have e : f + 1 + g = (f + g) + 1 := by omega
    rw [e]
    refine ⟨fun h0 => absurd h0 h.1, fun i hi => ?_⟩
    exact wpOp_of_qOp hw (fun a' w' hw' h' => ih _ a' w' hw' h') (h.2 i hi).2

/-- An operation of the head that may come up, and yields the same in every world of the class, may be taken first. -/
theorem heads_first {i : Nat} {oi : Oper} {v : Value} (hi : ops[i]? = some oi) (hsel : ∀ (j : Nat) (o : Oper) cs b, ops[j]? = some o → o.op ≠ .select cs b)
    (hs : Region.sinkB md ops n = true) (hc : Region.chainB md ops n = true) (hn : n < ops.size) (hin : i < n)
    (hdone : ∀ listed a, L listed a → ∀ j ∈ Region.ready md ops listed, n ≤ j) :
    ∀ (f : Nat) (listed : Array Bool) (a : Act), HeadInv md ops n listed →
      (∀ j oj, ops[j]? = some oj → j ≠ i → listed.getD j true = false → (∀ e ∈ oj.after, Region.binds md e = true → e.on ≠ i) → oi.apart ops oj = true) →
      i ∈ Region.ready md ops listed → YieldsIn P ops C oi v a →
      Heads P md ops C n L f (listed.setIfInBounds i true) (a.put oi.dst v) → Heads P md ops C n L (f + 1) listed a := by
  have early : ∀ (listed : Array Bool), HeadInv md ops n listed → i ∈ Region.ready md ops listed → ∀ j ∈ Region.ready md ops listed, j < n := by
    intro listed inv hr j hj
    by_cases hjn : j < n
    · exact hjn
    · exact absurd hj (tail_waits hs hc hn inv _ i rfl hin (mem_ready.1 hr).1 j (by omega))
  have some_ready : ∀ (listed : Array Bool), i ∈ Region.ready md ops listed → Region.ready md ops listed ≠ [] := by
    intro listed hr h0; rw [h0] at hr; cases hr
  intro f
  induction f with
  | zero =>
    intro listed a inv _ hr hy H
    refine ⟨some_ready listed hr, fun j hj => ⟨early listed inv hr j hj, ?_⟩⟩
    by_cases hji : j = i
    · subst hji; exact hy.qOp hi H
    · have h1 := hdone _ _ H j (ready_mono hj hji)
      have h2 := early listed inv hr j hj
      omega
  | succ f ih =>
    intro listed a inv hfree hr hy H
    refine ⟨some_ready listed hr, fun j hj => ⟨early listed inv hr j hj, ?_⟩⟩
    by_cases hji : j = i
    · subst hji; exact hy.qOp hi H
    · obtain ⟨hjun, oj, hoj, hall⟩ := mem_ready.1 hj
      have hun := (mem_ready.1 hr).1
      have hapart : oi.apart ops oj = true := hfree j oj hoj hji hjun fun e he hb heq => by
        have h1 := hall e he hb
        rw [heq, getD_both hun] at h1
        cases h1
      have hq := qOp_put hoj hapart (fun cs b => hsel i oi cs b hi) (fun cs b => hsel j oj cs b hoj) hy (H.2 j (ready_mono hj hji)).2
      refine qOp_mono (fun a' h3 => ih (listed.setIfInBounds j true) a' (inv.set hj (early listed inv hr j hj)) ?_ (ready_mono hr (Ne.symm hji)) h3.1 ?_) hq
      · intro k ok hk hki hkun hno
        by_cases hjk : j = k
        · subst hjk; exact hfree j ok hk hki hjun hno
        · rw [getD_set_ne true hjk] at hkun
          exact hfree k ok hk hki hkun hno
      · rw [Array.setIfInBounds_comm _ _ hji]
        exact h3.2

/-- The text's own order serves. -/
theorem heads_lex {g : Nat} {K : Act → Prop} (hsel : Region.noSelect ops = true) (hs : Region.sinkB md ops n = true) (hc : Region.chainB md ops n = true) (hn : n < ops.size) :
    ∀ (l : List Oper) (k : Nat) (listed : Array Bool) (a : Act), (∀ j, j < l.length → l[j]? = ops[k + j]?) → k + l.length = n → HeadInv md ops n listed →
    Region.lexHead md ops g l.length k listed = true → wpQuiet P ops C K l a →
    Heads P md ops C n (fun listed' a' => Region.seqB md ops g n listed' = true ∧ K a') l.length listed a := by
  intro l
  induction l with
  | nil =>
    intro k listed a _ hk _ hB h
    obtain rfl : k = n := by simpa using hk
    exact ⟨hB, h⟩
  | cons o l ih =>
    intro k listed a hl hk inv hB h
    have hlen : k + (l.length + 1) = n := by simpa using hk
    have h0 : ops[k]? = some o := by have := hl 0 (by simp); simpa using this.symm
    simp only [List.length_cons, Region.lexHead, Bool.and_eq_true] at hB
    have hr : k ∈ Region.ready md ops listed := by simpa using hB.1.1
    have hq : qOp P ops C k (wpQuiet P ops C K l) a := by unfold qOp; simp only [h0]; exact h
    obtain ⟨v, hy, hK⟩ := yieldsIn_of_qOp h0 hq
    refine heads_first h0 (Region.noSelect_spec hsel) hs hc hn (by omega) (fun listed' a' hL => seqB_ready hL.1) l.length listed a inv (Region.free_spec h0 hB.1.2) hr hy ?_
    refine ih (k + 1) _ _ (fun j hj => ?_) (by omega) (inv.set hr (by omega)) hB.2 hK
    have := hl (j + 1) (by simp; omega)
    simpa [Nat.add_assoc, Nat.add_comm 1 j] using this
end

theorem wp_region_tail {P : Program} {id : Nat} {Q : Exit → Act → World → Prop} {a : Act} {w : World} {l : List Oper} (n : Nat) (C : World → Prop) (hm : P.follows .mixedOrders = true) (hB : Region.lexTailB .any l.toArray n = true)
    (hC : C { w with drawn := w.drawn + 1 })
    (h : wpQuiet P l.toArray C (fun a' => ∀ w', C w' → wpList P l.toArray Q (l.drop n) a' w') (l.take n) a) : (Code.region id l.toArray true).wp P Q a w := by
  simp only [Region.lexTailB, Bool.and_eq_true, decide_eq_true_eq] at hB
  obtain ⟨⟨⟨⟨hsel, hn⟩, hs⟩, hc⟩, hlex⟩ := hB
  have hn' : n < l.length := by simpa using hn
  have htl : (l.take n).length = n := by simp; omega
  have hdl : (l.drop n).length = l.toArray.size - n := by simp
  have inv0 : HeadInv .any l.toArray n (Array.replicate l.toArray.size false) :=
    ⟨by simp, fun j oj _ hl => (by rw [getD_replicate_false] at hl; cases hl), fun t _ ht => getD_in (by simpa using ht) (getD_replicate_false _ _)⟩
  have H := heads_lex (md := .any) (C := C) (g := l.toArray.size - n) hsel hs hc hn (l.take n) 0 _ a (fun j hj => by
    have hj' : j < n := by rw [htl] at hj; exact hj
    simp [hj']) (by simpa using htl) inv0 (by rw [htl]; exact hlex) h
  refine wp_region_any hm ?_
  have := heads_sound (Q' := Q) (g := l.toArray.size - n) (fun listed a' w' hw' hL => by
    have := wpAny_of_seq (md := .any) (Q' := Q) (l.drop n) n listed a' w' (fun j => by simp [List.getElem?_drop]) (by rw [hdl]; exact hL.1) (hL.2 w' hw')
    rwa [hdl] at this) _ _ _ _ hC H
  rw [htl, show n + (l.toArray.size - n) = l.toArray.size by omega] at this
  exact this

/-- The same at the class of past worlds. -/
theorem wp_region_past_tail {P : Program} {id : Nat} {Q : Exit → Act → World → Prop} {a : Act} {w : World} {l : List Oper} (n : Nat) (hm : P.follows .mixedOrders = true) (hB : Region.lexTailB .any l.toArray n = true)
    (h : wpQuiet P l.toArray (fun w' => ∃ y : Past w, w' = y.x) (fun a' => ∀ y : Past w, wpList P l.toArray Q (l.drop n) a' y.x) (l.take n) a) : (Code.region id l.toArray true).wp P Q a w := by
  refine wp_region_tail n (fun w' => ∃ y : Past w, w' = y.x) hm hB ⟨⟨w.drew, Ext.drew (Ext.refl w)⟩, rfl⟩ ?_
  have hq : (fun a' => ∀ y : Past w, wpList P l.toArray Q (l.drop n) a' y.x) = (fun a' => ∀ w', (∃ y : Past w, w' = y.x) → wpList P l.toArray Q (l.drop n) a' w') := by
    funext a'
    apply propext
    constructor
    · rintro h _ ⟨y, rfl⟩; exact h y
    · intro h y; exact h _ ⟨y, rfl⟩
  rw [← hq]
  exact h
end Go.Proofs.YtdhbgelijjlifaaDoor
set_option linter.unusedVariables false
set_option linter.unusedSimpArgs false
namespace Go.Proofs.YtdhbgelijjlifaaDoor
open Go.RowKit

theorem jan_era_le (n : Int) : ∀ c, (n + 719528) / 146097 = c → Civ.jan (400 * c) ≤ n ∧ n < Civ.jan (400 * c + 400) := by
  intro c hc
  unfold Civ.jan; omega

end Go.Proofs.YtdhbgelijjlifaaDoor
set_option linter.unusedVariables false
set_option linter.unusedSimpArgs false
namespace Go.Proofs.YtdhbgelijjlifaaDoor
open Go.RowKit

/-- A date's weekday, 0 where it is not right. -/
def wday (y m d : Int) : Int := if Civ.okD y m d = true then (Civ.num y m d + 3) % 7 + 1 else 0
theorem wday_yes (y m d : Int) (h : Civ.okD y m d = true) : wday y m d = (Civ.num y m d + 3) % 7 + 1 := if_pos h
theorem wday_no (y m d : Int) (h : Civ.okD y m d = false) : wday y m d = 0 := by simp [wday, h]
theorem wday_yes' (y m d : Int) (h : Civ.okD y m d = true) : wday y m d = (dnum y m d + 3) % 7 + 1 := by rw [wday_yes y m d h, dnum_yes y m d h]
theorem dnum_bd (y m d : Int) : -100000001 ≤ dnum y m d ∧ dnum y m d ≤ 100000000 := by
  cases h : Civ.okD y m d
  · rw [dnum_no y m d h]; omega
  · rw [dnum_yes y m d h]; have := Civ.okD_yes y m d h; omega

end Go.Proofs.YtdhbgelijjlifaaDoor
set_option linter.unusedVariables false
set_option linter.unusedSimpArgs false
namespace Go.Proofs.YtdhbgelijjlifaaDoor
open Go.RowKit

/-- Any fields made a date: the month, the day, the error. -/
def max1 (a : Int) : Int := if a < 1 then 1 else a
def minB (b a : Int) : Int := if b < a then b else a
def regM (m o : Int) : Int := if o = 1 then minB 12 (max1 m) else m
def regDd (y m d o : Int) : Int := if o = 1 then minB (Civ.mlen y (regM m o)) (max1 d) else d
def regE (y m d o : Int) : Int := if o = 1 then (if Civ.okD y (regM m o) (regDd y m d o) = true then 0 else 4) else if o = 2 then (if d < 1 ∨ Civ.mlen y m < d then 5 else if Civ.okD y m d = true then 0 else 4) else 1
def regYes (y m d o a : Int) : Int := if regE y m d o = 0 then a else 0
theorem regE_bd (y m d o : Int) : 0 ≤ regE y m d o ∧ regE y m d o ≤ 5 := by
  unfold regE; repeat' split
  all_goals omega
theorem ret_reg {a b c e a' b' c' e' : Int} (h1 : a' = a) (h2 : b' = b) (h3 : c' = c) (h : e' = e) : Ending.returned (.tuple #[.agg #[.int .i64 a, .int .i64 b, .int .i64 c], .int .i64 e]) = .returned (.tuple #[.agg #[.int .i64 a', .int .i64 b', .int .i64 c'], .int .i64 e']) := by rw [h1, h2, h3, h]
theorem yes_of {y m d o : Int} (h : regE y m d o = 0) (a : Int) : regYes y m d o a = a := if_pos h
theorem no_of {y m d o : Int} (h : ¬ regE y m d o = 0) (a : Int) : regYes y m d o a = 0 := if_neg h

/-- What the call returns. -/
def RegSays (f : FuncId) (y m d o : Int) (w : World) : Prop :=
  Rets Tryd.prog f #[.int .i64 y, .int .i64 m, .int .i64 d, .int .i64 o] w (.tuple #[.agg #[.int .i64 (regYes y m d o y), .int .i64 (regYes y m d o (regM m o)), .int .i64 (regYes y m d o (regDd y m d o))], .int .i64 (regE y m d o)])

theorem regE_else (y m d o : Int) (h1 : ¬ o = 1) (h2 : ¬ o = 2) : regE y m d o = 1 := by unfold regE; rw [if_neg h1, if_neg h2]
end Go.Proofs.YtdhbgelijjlifaaDoor
set_option linter.unusedVariables false
set_option linter.unusedSimpArgs false
namespace Go.Proofs.YtdhbgelijjlifaaDoor
open Go.RowKit

theorem no4 {y m d o : Int} (h : regE y m d o = 4) (a : Int) : regYes y m d o a = 0 := no_of (by rw [h]; omega) a
theorem reg4 {e : Int} {k : Bool} (h : e = if k = true then 0 else 4) (g : (!k) = true) : e = 4 := by simp at g; rw [h, if_neg (by simp [g])]
theorem reg0 {e : Int} {k : Bool} (h : e = if k = true then 0 else 4) (g : (!k) = false) : e = 0 := by simp at g; rw [h, if_pos g]

theorem rreg2_cases (y m d : Int) : m < 1 ∨ (decide (m < 1) = false ∧ 12 < m) ∨ (decide (m < 1) = false ∧ decide (12 < m) = false ∧ d < 1) ∨ (decide (m < 1) = false ∧ decide (12 < m) = false ∧ decide (d < 1) = false ∧ Civ.mlen y m < d)
    ∨ (decide (m < 1) = false ∧ decide (12 < m) = false ∧ decide (d < 1) = false ∧ decide (Civ.mlen y m < d) = false) := by
  simp only [decide_eq_false_iff_not]; omega
theorem clip_m (m : Int) : (m < 1 ∧ minB 12 (max1 m) = 1) ∨ (1 ≤ m ∧ 12 < m ∧ minB 12 (max1 m) = 12) ∨ (1 ≤ m ∧ m ≤ 12 ∧ minB 12 (max1 m) = m) := by
  unfold minB max1; repeat' split
  all_goals omega
theorem clip_d (L d : Int) (h : 28 ≤ L) : (d < 1 ∧ minB L (max1 d) = 1) ∨ (1 ≤ d ∧ L < d ∧ minB L (max1 d) = L) ∨ (1 ≤ d ∧ d ≤ L ∧ minB L (max1 d) = d) := by
  unfold minB max1; repeat' split
  all_goals omega
end Go.Proofs.YtdhbgelijjlifaaDoor
set_option linter.unusedVariables false
set_option linter.unusedSimpArgs false
namespace Go.Proofs.YtdhbgelijjlifaaDoor
open Go.RowKit

def doy (y m d : Int) : Int := if Civ.okD y m d = true then Civ.num y m d - Civ.jan y + 1 else 0
theorem doy_yes (y m d : Int) (h : Civ.okD y m d = true) : doy y m d = Civ.num y m d - Civ.jan y + 1 := if_pos h
theorem doy_no (y m d : Int) (h : Civ.okD y m d = false) : doy y m d = 0 := by simp [doy, h]
theorem num_first (y : Int) : Civ.num y 1 1 = Civ.jan y := by unfold Civ.num; rw [Civ.cum_1]; omega
theorem rets_eq {P : Program} {f : FuncId} {args : Array Value} {w : World} {v v' : Value} (h : Rets P f args w v) (e : v = v') : Rets P f args w v' := e ▸ h
/-- What is known of a right date. -/
theorem right_bds (y m d : Int) (h : Civ.okD y m d = true) : -271821 ≤ y ∧ y ≤ 275760 ∧ 1 ≤ m ∧ m ≤ 12 ∧ 1 ≤ d ∧ d ≤ 31 ∧ -100000001 ≤ Civ.num y m d ∧ Civ.num y m d ≤ 100000000 ∧ Civ.jan y ≤ Civ.num y m d ∧ Civ.num y m d ≤ Civ.jan y + 365 := by
  obtain ⟨⟨f1, f2, f3, f4⟩, a, b⟩ := Civ.okD_yes y m d h
  have hy := Civ.okD_year y m d h
  have hm := Civ.mlen_bd y m
  have hn := Civ.num_year y m d ⟨f1, f2, f3, f4⟩
  have hl := Civ.lp_01 y
  rw [Civ.jan_succ] at hn
  omega

/-- The week's year, out of its Thursday. -/
def thY (y th : Int) : Int := if th < Civ.jan y then y - 1 else if Civ.jan (y + 1) ≤ th then y + 1 else y
def thN (y th : Int) : Int := (th - Civ.jan (thY y th)) / 7 + 1
def thurs (y m d : Int) : Int := Civ.num y m d + 4 - wday y m d
def wkY (y m d : Int) : Int := if Civ.okD y m d = true then thY y (thurs y m d) else 0
def wkN (y m d : Int) : Int := if Civ.okD y m d = true then thN y (thurs y m d) else 0
theorem wday_bd (y m d : Int) (h : Civ.okD y m d = true) : 1 ≤ wday y m d ∧ wday y m d ≤ 7 := by rw [wday_yes y m d h]; omega
theorem wk_no (y m d : Int) (h : Civ.okD y m d = false) : wkY y m d = 0 ∧ wkN y m d = 0 := by simp [wkY, wkN, h]

theorem thY_cases (y T : Int) (h0 : Civ.jan y - 7 ≤ T) (h9 : T ≤ Civ.jan y + 380) : ((T < Civ.jan y ∧ thY y T = y - 1) ∨ (Civ.jan y ≤ T ∧ Civ.jan (y + 1) ≤ T ∧ thY y T = y + 1) ∨ (Civ.jan y ≤ T ∧ T < Civ.jan (y + 1) ∧ y = thY y T)) ∧ Civ.jan (thY y T) ≤ T ∧ T < Civ.jan (thY y T) + 366 := by
  have hs := Civ.jan_succ y
  have hp := Civ.jan_succ (y - 1)
  rw [show y - 1 + 1 = y by omega] at hp
  have l0 := Civ.lp_01 y
  have l1 := Civ.lp_01 (y - 1)
  have hm := Civ.jan_mono y (y + 1) (by omega)
  unfold thY
  by_cases c1 : T < Civ.jan y
  · rw [if_pos c1]; exact ⟨.inl ⟨c1, rfl⟩, by omega, by omega⟩
  · rw [if_neg c1]
    by_cases c2 : Civ.jan (y + 1) ≤ T
    · rw [if_pos c2]; exact ⟨.inr (.inl ⟨by omega, c2, rfl⟩), by omega, by omega⟩
    · rw [if_neg c2]; exact ⟨.inr (.inr ⟨by omega, by omega, rfl⟩), by omega, by omega⟩

end Go.Proofs.YtdhbgelijjlifaaDoor
set_option linter.unusedVariables false
set_option linter.unusedSimpArgs false
namespace Go.Proofs.YtdhbgelijjlifaaDoor
open Go.RowKit

def cmpI (a b : Int) : Int := if a < b then -1 else if b < a then 1 else 0
theorem cmpI_lt {a b : Int} (h : a < b) : cmpI a b = -1 := if_pos h
theorem cmpI_gt {a b : Int} (h : b < a) : cmpI a b = 1 := by unfold cmpI; rw [if_neg (by omega), if_pos h]
theorem cmpI_eq {a b : Int} (h1 : ¬ a < b) (h2 : ¬ b < a) : cmpI a b = 0 := by unfold cmpI; rw [if_neg h1, if_neg h2]
theorem cmpI_bd (a b : Int) : -1 ≤ cmpI a b ∧ cmpI a b ≤ 1 := by
  unfold cmpI
  by_cases h1 : a < b
  · rw [if_pos h1]; omega
  · rw [if_neg h1]; by_cases h2 : b < a
    · rw [if_pos h2]; omega
    · rw [if_neg h2]; omega
/-- The first that is not 0. -/
def or3 (a b c : Int) : Int := if a ≠ 0 then a else if b ≠ 0 then b else c
theorem or3_1 {a b c : Int} (h : a ≠ 0) : or3 a b c = a := if_pos h
theorem or3_2 {a b c : Int} (h : a = 0) (k : b ≠ 0) : or3 a b c = b := by unfold or3; rw [if_neg (by omega), if_pos k]
theorem or3_3 {a b c : Int} (h : a = 0) (k : b = 0) : or3 a b c = c := by unfold or3; rw [if_neg (by omega), if_neg (by omega)]

def cmpD (y m d y' m' d' : Int) : Int := or3 (cmpI y y') (cmpI m m') (cmpI d d')
theorem cmpD_cases (y m d y' m' d' : Int) : (y = y' ∧ m = m' ∧ d = d' ∧ cmpD y m d y' m' d' = 0) ∨ (¬ (y = y' ∧ m = m' ∧ d = d') ∧ (y < y' ∨ (y = y' ∧ (m < m' ∨ (m = m' ∧ d < d')))) ∧ cmpD y m d y' m' d' = -1) ∨
    (¬ (y = y' ∧ m = m' ∧ d = d') ∧ ¬ (y < y' ∨ (y = y' ∧ (m < m' ∨ (m = m' ∧ d < d')))) ∧ cmpD y m d y' m' d' = 1) := by
  unfold cmpD
  rcases Int.lt_trichotomy y y' with h | h | h
  · rw [cmpI_lt h, or3_1 (by omega)]; exact .inr (.inl ⟨by omega, .inl h, rfl⟩)
  · subst h
    rw [cmpI_eq (by omega) (by omega)]
    rcases Int.lt_trichotomy m m' with k | k | k
    · rw [cmpI_lt k, or3_2 rfl (by omega)]; exact .inr (.inl ⟨by omega, .inr ⟨rfl, .inl k⟩, rfl⟩)
    · subst k
      rw [cmpI_eq (by omega) (by omega), or3_3 rfl rfl]
      rcases Int.lt_trichotomy d d' with l | l | l
      · rw [cmpI_lt l]; exact .inr (.inl ⟨by omega, .inr ⟨rfl, .inr ⟨rfl, l⟩⟩, rfl⟩)
      · subst l; rw [cmpI_eq (by omega) (by omega)]; exact .inl ⟨rfl, rfl, rfl, rfl⟩
      · rw [cmpI_gt l]; exact .inr (.inr ⟨by omega, by omega, rfl⟩)
    · rw [cmpI_gt k, or3_2 rfl (by omega)]; exact .inr (.inr ⟨by omega, by omega, rfl⟩)
  · rw [cmpI_gt h, or3_1 (by omega)]; exact .inr (.inr ⟨by omega, by omega, rfl⟩)

theorem cmpD_y1 {y m d y' m' d' : Int} (h : y < y') : cmpD y m d y' m' d' = -1 := by unfold cmpD; rw [cmpI_lt h, or3_1 (by omega)]
theorem cmpD_y2 {y m d y' m' d' : Int} (h : y' < y) : cmpD y m d y' m' d' = 1 := by unfold cmpD; rw [cmpI_gt h, or3_1 (by omega)]
theorem cmpD_m1 {y m d m' d' : Int} (h : m < m') : cmpD y m d y m' d' = -1 := by unfold cmpD; rw [cmpI_eq (by omega) (by omega), cmpI_lt h, or3_2 rfl (by omega)]
theorem cmpD_m2 {y m d m' d' : Int} (h : m' < m) : cmpD y m d y m' d' = 1 := by unfold cmpD; rw [cmpI_eq (by omega) (by omega), cmpI_gt h, or3_2 rfl (by omega)]
theorem cmpD_d (y m d d' : Int) : cmpD y m d y m d' = cmpI d d' := by unfold cmpD; rw [cmpI_eq (by omega) (by omega), cmpI_eq (by omega) (by omega), or3_3 rfl rfl]

end Go.Proofs.YtdhbgelijjlifaaDoor
set_option linter.unusedVariables false
set_option linter.unusedSimpArgs false
namespace Go.Proofs.YtdhbgelijjlifaaDoor
open Go.RowKit

/-- A number is a date's. -/
def inR (n : Int) : Bool := decide (-100000001 ≤ n ∧ n ≤ 100000000)
theorem inR_yes {n : Int} (h : inR n = true) : -100000001 ≤ n ∧ n ≤ 100000000 := of_decide_eq_true h
theorem inR_no {n : Int} (h : inR n = false) : n < -100000001 ∨ 100000000 < n := by have := of_decide_eq_false h; omega
theorem inR_mk {n : Int} (h1 : -100000001 ≤ n) (h2 : n ≤ 100000000) : inR n = true := decide_eq_true ⟨h1, h2⟩
theorem inR_mk_no {n : Int} (h : n < -100000001 ∨ 100000000 < n) : inR n = false := decide_eq_false (by omega)
/-- .., or 0. -/
def orZ (b : Bool) (a : Int) : Int := if b = true then a else 0
theorem orZ_yes {b : Bool} {a : Int} (h : b = true) : orZ b a = a := if_pos h
theorem orZ_no {b : Bool} {a : Int} (h : b = false) : orZ b a = 0 := by simp [orZ, h]
def addOk (y m d n : Int) : Bool := Civ.okD y m d && inR (Civ.num y m d + n)
def addE (y m d n : Int) : Int := if Civ.okD y m d = true then (if inR (Civ.num y m d + n) = true then 0 else 4) else 1
theorem addE_bd (y m d n : Int) : 0 ≤ addE y m d n ∧ addE y m d n ≤ 4 := by
  unfold addE
  by_cases h : Civ.okD y m d = true
  · rw [if_pos h]; by_cases k : inR (Civ.num y m d + n) = true
    · rw [if_pos k]; omega
    · rw [if_neg k]; omega
  · rw [if_neg h]; omega
theorem add_no {y m d n : Int} (h : Civ.okD y m d = false) : addOk y m d n = false ∧ addE y m d n = 1 := by simp [addOk, addE, h]
theorem add_out {y m d n : Int} (h : Civ.okD y m d = true) (k : inR (Civ.num y m d + n) = false) : addOk y m d n = false ∧ addE y m d n = 4 := by simp [addOk, addE, h, k]
theorem add_yes {y m d n : Int} (h : Civ.okD y m d = true) (k : inR (Civ.num y m d + n) = true) : addOk y m d n = true ∧ addE y m d n = 0 := by simp [addOk, addE, h, k]

def AddSays (f : FuncId) (y m d n : Int) (w : World) : Prop :=
  Rets Tryd.prog f #[.agg #[.int .i64 y, .int .i64 m, .int .i64 d], .int .i64 n] w (.tuple #[.agg #[.int .i64 (orZ (addOk y m d n) (Civ.dy (Civ.num y m d + n))), .int .i64 (orZ (addOk y m d n) (Civ.dm (Civ.num y m d + n))), .int .i64 (orZ (addOk y m d n) (Civ.dd (Civ.num y m d + n)))], .int .i64 (addE y m d n)])

theorem add_cases (y m d n : Int) (b : Int) (hb : 200000001 ≤ b) : Civ.okD y m d = false ∨ (Civ.okD y m d = true ∧ n < -b ∧ inR (Civ.num y m d + n) = false) ∨ (Civ.okD y m d = true ∧ decide (n < -b) = false ∧ b < n ∧ inR (Civ.num y m d + n) = false)
    ∨ (Civ.okD y m d = true ∧ decide (n < -b) = false ∧ decide (b < n) = false ∧ inR (Civ.num y m d + n) = false) ∨ (Civ.okD y m d = true ∧ decide (n < -b) = false ∧ decide (b < n) = false ∧ inR (Civ.num y m d + n) = true) := by
  cases h : Civ.okD y m d
  · exact .inl rfl
  · have hb := right_bds y m d h
    right
    by_cases c1 : n < -b
    · exact .inl ⟨rfl, c1, inR_mk_no (by omega)⟩
    · by_cases c2 : b < n
      · exact .inr (.inl ⟨rfl, decide_eq_false c1, c2, inR_mk_no (by omega)⟩)
      · cases k : inR (Civ.num y m d + n)
        · exact .inr (.inr (.inl ⟨rfl, decide_eq_false c1, decide_eq_false c2, rfl⟩))
        · exact .inr (.inr (.inr ⟨rfl, decide_eq_false c1, decide_eq_false c2, rfl⟩))

theorem neg_word : (-1 : Int) * 4294967296 = -4294967296 := by decide
end Go.Proofs.YtdhbgelijjlifaaDoor
