/- A range over a function whose iterator keeps a state of its own in cells: the contract, and the caller's law; turned from the worked law for an iterator that reads memory. -/
import Derived.RangeFuncFrom
import Derived.Test.YtdhbgelijjlifaaGreatDoorFieWalkH
import Derived.RangeFuncNested
import Derived.RangeFuncBound
import Derived.RangeFuncCalls
import Derived.RangeFuncLeaves
import Derived.RangeFuncBox
import Derived.Shelf.Abstract
import Derived.Shelf.RegionOpen
import Derived.WalkKit
import Derived.OwnWalkIn
import Derived.TacticsInMore
import Derived.LoopNIn
import Derived.LoopIn
import Derived.Maps.AppendAt
set_option linter.unusedVariables false
set_option linter.unusedSimpArgs false
namespace Go.Proofs.YtdhbgelijjlifaaGreatDoor
open Go Go.RowKit
def SeqStopsS {α : Type} (F : Fence) (n : Nat) (P : Program) (g : Nat) (lb : Array Value) (encs : α → Array Value) (Kp St : World → World → Prop) (S Sp : List α → Prop) (N : Nat) (w : World) : Prop :=
 ∀ (l : Nat) (J Jx : List α → World → Prop) (W : World), Below w.heap.size w W → AbidesFrom W.heap.size J → AbidesFrom W.heap.size Jx → (∀ s A B, J s A → St A B → J s B) →
   (∀ pre x W1, J pre W1 → pre.length < N → YieldAt F (n - 1) P l (encs x) W1 fun e W' =>
     (e = .returned (.bool true) ∧ J (pre ++ [x]) W' ∧ Kp W1 W') ∨ (e = .returned (.bool false) ∧ Jx (pre ++ [x]) W')) →
   J [] W →
   CallsIn F n P g (#[.func (.yield l) #[] #[]] ++ lb) W fun e W' => (∃ v, e = .returned v) ∧ ((∃ xs, S xs ∧ J xs W') ∨ (∃ pre, Sp pre ∧ Jx pre W'))
variable {F : Fence} {n : Nat} {P : Program}
theorem wpIn_rangeFunc_ownS {α : Type} {g : Operand} {ps : Array Tmp} {assign body : Code} {Q : Exit → Act → World → Prop} {a : Act} {w : World}
 (hro : F.round = none) (h1 : 1 ≤ n) {gf : Nat} {lb : Array Value} (hg : a.eval g = .func (.func gf) #[] lb) (hFg : F.fn gf) (eg : ∀ args w, (callFunc gf args).run P w = .ok (.enter gf args) w)
 {encs : α → Array Value} {Kp St : World → World → Prop} {S Sp : List α → Prop} {N : Nat} {w0 : World} (hseq : SeqStopsS F (n - 1) P gf lb encs Kp St S Sp N w0)
 (hKt : ∀ {A B C : World}, Kp A B → Kp B C → Kp A C) (hKb : ∀ (W : World) (l : Nat) (o o' : Obj), w.heap.size ≤ l → W.heap[l]? = some o → o.isCells = false → o.isWalk = false → Kp W (W.putObj l o')) (hb0 : Below w0.heap.size w0 w) (hps : ∀ x, (encs x).size = ps.size)
 (hSt : ∀ (A B : World) (l : Nat) (o : Obj), St A B → A.heap[l]? = some o → o.isCells = false → B.heap[l]? = some o)
 (I : List α → World → Prop) (Ix : Code → List α → World → Prop) (hI : OwnFrom w.heap.size I) (hIS : ∀ s A B, I s A → St A B → I s B) (hIx : ∀ c, OwnFrom w.heap.size (Ix c)) (h0 : I [] w) (a₁ : α → Act)
 (hassign : ∀ (l : Nat) (x : α) (W : World) (K : Act → World → Prop), K (a₁ x) W →
   assign.wpIn (F.inRound l) (n - 1 - 1) P (Exit.then K (fun _ _ _ => False)) { tmps := (ps.zip (encs x)).foldl (fun t (p, v) => t.setIfInBounds p v) a.tmps, defers := [] } W)
 (hbody : ∀ (l : Nat) (pre : List α) (x : α) (W : World), I pre W → pre.length < N → body.wpIn (F.inRound l) (n - 1 - 1) P (ownPostK Kp I Ix (pre ++ [x]) W) (a₁ x) W)
 (hdone : ∀ (D : Nat) (xs : List α) (W : World), w.heap.size ≤ D → S xs → I xs W → W.heap[D]? = some (.deferred (some [])) → Q .normal { a with defers := { target := .collected D, args := #[] } :: a.defers } W)
 (hstop : ∀ (D : Nat) (c : Code) (pre : List α) (W : World), w.heap.size ≤ D → Sp pre → Ix c pre W → W.heap[D]? = some (.deferred (some [])) → c.wpIn F n P Q { a with defers := { target := .collected D, args := #[] } :: a.defers } W) :
 (Code.rangeFunc g ps assign body).wpIn F n P Q a w := by
 refine wpIn_rangeFunc ?_
 intro fn hfn
 rw [hro]
 obtain ⟨rec, hrec⟩ : ∃ rec : LoopState → Option Code → Loop, rec = fun st pe => { state := st, pending := pe, fn, tmps := a.tmps, params := ps, assign, body, defers := w.heap.size } := ⟨_, rfl⟩
 obtain ⟨W1, hW1⟩ : ∃ W1, (w.alloc (.deferred (some []))).alloc (.loop (rec .ready none)) = W1 := ⟨_, rfl⟩
 have hL1 : W1.heap[w.heap.size + 1]? = some (.loop (rec .ready none)) := by
  rw [← hW1]; have := World.alloc_heap_new (w.alloc (.deferred (some []))) (.loop (rec .ready none)); rwa [World.size_alloc] at this
 have hK1 : W1.heap[w.heap.size]? = some (.deferred (some [])) := by
  rw [← hW1]; exact (Below.heap_alloc _ _ _ (by simp)).trans (World.alloc_heap_new w _)
 have hI1 : I [] W1 := by rw [← hW1]; exact hI.alloc _ (hI.alloc _ h0)
 have hb1 : Below w0.heap.size w0 W1 := by
  rw [← hW1]; exact hb0.trans ((((Below.refl _ w).alloc (Nat.le_refl _) _).alloc (by simp) _).mono hb0.size)
 refine ⟨w.heap.size + 1, [{ target := .collected w.heap.size, args := #[] }], W1, { target := .fn (.func gf) lb, args := #[.func (.yield (w.heap.size + 1)) #[] #[]] }, W1, gf,
  #[.func (.yield (w.heap.size + 1)) #[] #[]] ++ lb, W1, ?_, ?_, ?_, ?_, fun _ => h1, ?_⟩
 · rw [← hW1, hrec]; exact run_enterLoop_outer _ _ _ _ _
 · simp only [resolve, hg]
   simp [go_sem]
 · intro f' hf'; simp [Target.leads] at hf'; subst hf'; exact hFg
 · simp [invoke, go_sem, eg]
 · have hnw : ∀ {A B : World} {row : Option Nat}, (∀ r, row = some r → W1.heap.size ≤ r ∧ ∃ o : Obj, A.heap[r]? = some o ∧ o.isWalk = true) → (∀ r, row = some r → w.heap.size ≤ r ∧ ∃ o : Obj, A.heap[r]? = some o ∧ o.isCells = false) :=
    fun hr r e => by obtain ⟨hB, o, ho, hw⟩ := hr r e; exact ⟨by rw [← hW1] at hB; simp at hB; omega, o, ho, Obj.not_cells_of_walk hw⟩
   refine (hseq (w.heap.size + 1)
    (fun pre W => I pre W ∧ W.heap[w.heap.size + 1]? = some (.loop (rec .ready none)) ∧ W.heap[w.heap.size]? = some (.deferred (some [])))
    (fun pre W => ∃ c, Ix c pre W ∧ W.heap[w.heap.size + 1]? = some (.loop (rec .done (some c))) ∧ W.heap[w.heap.size]? = some (.deferred (some [])))
    W1 hb1
    (fun s A B row hs hg' hr => ⟨hI s A B row hs.1 hg' (hnw (B := B) hr), (grownBy_keeps hg' (fun r e => (hr r e).2) hs.2.1 rfl).trans hs.2.1, (grownBy_keeps hg' (fun r e => (hr r e).2) hs.2.2 rfl).trans hs.2.2⟩)
    (fun s A B row hs hg' hr => by
      obtain ⟨c, hc, hl, hk⟩ := hs
      exact ⟨c, hIx c s A B row hc hg' (hnw (B := B) hr), (grownBy_keeps hg' (fun r e => (hr r e).2) hl rfl).trans hl, (grownBy_keeps hg' (fun r e => (hr r e).2) hk rfl).trans hk⟩)
    (fun s A B hs hab => ⟨hIS s A B hs.1 hab, hSt A B _ _ hab hs.2.1 rfl, hSt A B _ _ hab hs.2.2 rfl⟩)
    ?_ ⟨hI1, hL1, hK1⟩).mono ?_
   · rintro pre x W ⟨hi, hl, hk⟩ hlen
     have hlt : w.heap.size + 1 < W.heap.size := (Array.getElem?_eq_some_iff.1 hl).1
     have hy := run_yield (P := P) (args := encs x) hl (by rw [hrec]; exact hps x)
     rw [hrec] at hy
     refine ⟨fn, _, assign, body, hy, roundIn_of_wpIn hfn (hassign _ x W _ ⟨_, run_beginRound hl (by rw [hrec]), ?_⟩)⟩
     have hl2 : (W.putObj (w.heap.size + 1) (.loop { rec .ready none with state := .busy })).heap[w.heap.size + 1]? = some (.loop { rec .ready none with state := .busy }) := World.putObj_heap_same hlt
     have hk2 : (W.putObj (w.heap.size + 1) (.loop { rec .ready none with state := .busy })).heap[w.heap.size]? = some (.deferred (some [])) := (World.putObj_heap_other (by omega)).trans hk
     have hw2 : Kp W (W.putObj (w.heap.size + 1) (.loop { rec .ready none with state := .busy })) := hKb _ _ _ _ (by omega) hl rfl rfl
     refine wpIn_mono (hbody _ pre x _ (hI.putObj _ hi (by omega) hl rfl) hlen) ?_
     have fin : ∀ (jump : Option Code) (W3 : World), KeepsOthers (W.putObj (w.heap.size + 1) (.loop { rec .ready none with state := .busy })) W3 →
      (Instr.endRound (w.heap.size + 1) jump).run P W3 = .ok (.bool jump.isNone) (W3.putObj (w.heap.size + 1) (.loop (rec (if jump.isNone then .ready else .done) jump))) ∧
      W3.heap[w.heap.size + 1]? = some (.loop { rec .ready none with state := .busy }) ∧
      (W3.putObj (w.heap.size + 1) (.loop (rec (if jump.isNone then .ready else .done) jump))).heap[w.heap.size + 1]? = some (.loop (rec (if jump.isNone then .ready else .done) jump)) ∧
      (W3.putObj (w.heap.size + 1) (.loop (rec (if jump.isNone then .ready else .done) jump))).heap[w.heap.size]? = some (.deferred (some [])) := fun jump W3 hk3 => by
      have hl3 := hk3.same _ _ hl2 rfl
      have := run_endRound (P := P) jump hl3
      rw [hrec] at this ⊢
      exact ⟨this, by rw [hrec] at hl3; exact hl3, World.putObj_heap_same (Array.getElem?_eq_some_iff.1 hl3).1, (World.putObj_heap_other (by omega)).trans (hk3.same _ _ hk2 rfl)⟩
     rintro e a3 W3 hp
     cases e with
     | normal =>
       obtain ⟨hk3, hkp3, hi3⟩ := hp
       obtain ⟨hr, hl3, hl4, hk4⟩ := fin none W3 hk3
       exact ⟨_, _, hr, .inl ⟨rfl, ⟨hI.putObj _ hi3 (by omega) hl3 rfl, hl4, hk4⟩, hKt (hKt hw2 hkp3) (hKb _ _ _ _ (by omega) hl3 rfl rfl)⟩⟩
     | ret =>
       obtain ⟨hk3, hi3⟩ := hp
       obtain ⟨hr, hl3, hl4, hk4⟩ := fin (some .ret) W3 hk3
       exact ⟨_, _, hr, .inr ⟨rfl, .ret, (hIx _).putObj _ hi3 (by omega) hl3 rfl, hl4, hk4⟩⟩
     | exit id =>
       obtain ⟨hk3, hi3⟩ := hp
       obtain ⟨hr, hl3, hl4, hk4⟩ := fin (some (.exit id)) W3 hk3
       exact ⟨_, _, hr, .inr ⟨rfl, .exit id, (hIx _).putObj _ hi3 (by omega) hl3 rfl, hl4, hk4⟩⟩
     | goto t =>
       obtain ⟨hk3, hi3⟩ := hp
       obtain ⟨hr, hl3, hl4, hk4⟩ := fin (some (.goto t)) W3 hk3
       exact ⟨_, _, hr, .inr ⟨rfl, .goto t, (hIx _).putObj _ hi3 (by omega) hl3 rfl, hl4, hk4⟩⟩
     | panic ch => exact hp.elim
     | outgrown => exact hp.elim
   · rintro e W2 ⟨⟨v, rfl⟩, (⟨xs, hS, hi, hl, hk⟩ | ⟨pre, hSp, c, hi, hl, hk⟩)⟩
     · exact ⟨none, _, by have := run_endLoop (P := P) hl (by rw [hrec]; simp); rw [hrec] at this; exact this, hdone _ xs _ (Nat.le_refl _) hS (hI.putObj _ hi (by omega) hl rfl) ((World.putObj_heap_other (by omega)).trans hk)⟩
     · exact ⟨some c, _, by have := run_endLoop (P := P) hl (by rw [hrec]; simp); rw [hrec] at this; exact this, hstop _ c pre _ (Nat.le_refl _) hSp ((hIx c).putObj _ hi (by omega) hl rfl) ((World.putObj_heap_other (by omega)).trans hk)⟩
end Go.Proofs.YtdhbgelijjlifaaGreatDoor
namespace Go.Proofs.YtdhbgelijjlifaaGreatDoor
open Go.RowKit
def fcutV (t : ByteArray) (q : Nat) : Value := .tuple #[.string (t.extract 0 q), .string (t.extract (q + 1) t.size), .bool (decide (q < t.size))]
set_option maxHeartbeats 1000000 in
theorem lcut_any (t : ByteArray) (q : Nat) (hq : Fie.stop Fie.nolf t 0 = q) (w : World) (hs : t.size ≤ maxLen) :
 Rets Tryz.prog 109 #[.string t, .string ⟨#[10]⟩] w (fcutV t q) := by
 have hq2 : q ≤ t.size := by rw [← hq]; exact (Fie.stop_le Fie.nolf t 0 (by omega)).2
 have hi := Fie.index_lf t
 rw [hq] at hi
 have hix : ∀ w, Calls Tryz.prog 119 #[.string t, .string ⟨#[10]⟩] w fun e w' => e = .returned (.int .i64 (if q < t.size then (q : Int) else -1)) ∧ w = w' := fun w =>
  (Tryz.stringslite_Index_one t 10 w).mono fun e w' ⟨h1, h2⟩ => ⟨by rw [h1, hi], h2.symm⟩
 unfold maxLen at hs
 clear hi hq
 by_cases c : q < t.size
 · have E : Hid (fcutV t q = .tuple #[.string (t.extract 0 q), .string (t.extract (q + 1) t.size), .bool true]) := by show _ = _; unfold fcutV; rw [decide_eq_true c]
   have hix' : ∀ w, Calls Tryz.prog 119 #[.string t, .string ⟨#[10]⟩] w fun e w' => e = .returned (.int .i64 (q : Int)) ∧ w = w' := fun w => by have := hix w; rwa [if_pos c] at this
   clear hix
   have HI := Lib.hid hix'
   clear hix'
   have hwr : IntKind.i64.wrap ((q : Int) + 1) = (q : Int) + 1 := by rw [IntKind.wrap_i64]; omega
   unfold Rets
   go_enter Tryz.func109, Tryz.ntmps109
   go_wp2_with (go_at_call 119; refine (HI.out _).mono ?_; rintro e w' ⟨rfl, rfl⟩)
   refine wp_region_past (by kernel_rfl) (by kernel_rfl) ?_
   repeat (go_big_quiet_step (fail))
   refine wpQuiet_nil ?_
   intro _
   go_wp2
   go_ret3
   exact ⟨by rw [E.out]; rfl, done⟩
 · have E : Hid (fcutV t q = .tuple #[.string t, .string ⟨#[]⟩, .bool false]) := by
    show _ = _; unfold fcutV; rw [decide_eq_false c]
    obtain rfl : q = t.size := by omega
    rw [Fie.ext_full, Fie.ext_none _ _ (by omega)]
   have hix' : ∀ w, Calls Tryz.prog 119 #[.string t, .string ⟨#[10]⟩] w fun e w' => e = .returned (.int .i64 (-1)) ∧ w = w' := fun w => by have := hix w; rwa [if_neg c] at this
   clear hix
   have HI := Lib.hid hix'
   clear hix'
   unfold Rets
   go_enter Tryz.func109, Tryz.ntmps109
   go_wp2_with (go_at_call 119; refine (HI.out _).mono ?_; rintro e w' ⟨rfl, rfl⟩)
   go_ret3
   exact ⟨by rw [E.out]; rfl, done⟩
set_option maxHeartbeats 1000000 in
theorem cut_any (t : ByteArray) (q : Nat) (hq : Fie.stop Fie.nolf t 0 = q) (w : World) (hs : t.size ≤ maxLen) :
 Rets Tryz.prog 77 #[.string t, .string ⟨#[10]⟩] w (fcutV t q) := by
 have HL := Lib.hid (lcut_any t q hq w hs)
 clear hq
 unfold Rets
 go_enter Tryz.func77, Tryz.ntmps77
 go_wp2_with (go_at_call 109; unfold fcutV at HL; refine Rets.use HL.out ?_; intro _)
 go_ret3
 exact ⟨rfl, done⟩
end Go.Proofs.YtdhbgelijjlifaaGreatDoor
namespace Go.Proofs.YtdhbgelijjlifaaGreatDoor
open Go.RowKit Go.Shelf
attribute [local go_sem] Oper.semAt_some
def lstep (Bt : Nat) (A B : World) : Prop := (∃ v, Boxed A Bt 9 v) ∧ ∃ v', B = A.setCell ⟨Bt, 0, none⟩ v'
def lkeep (Bt : Nat) (A B : World) : Prop := ∀ v, Boxed A Bt 9 v → Boxed B Bt 9 v
theorem lkeep_b {Bt : Nat} (W : World) (l : Nat) (o o' : Obj) (h : W.heap[l]? = some o) (hc : o.isCells = false) : lkeep Bt W (W.putObj l o') := fun v hv =>
 hv.kept (grownBy_putObj' W l o') (fun e => by
  cases e
  rw [show W.heap[Bt]? = _ from hv] at h; cases h; cases hc)
def lleft (Bt : Nat) (W : World) : Nat := match W.cell? ⟨Bt, 0, none⟩ with | some (.string t) => t.size | _ => 0
theorem lleft_eq {Bt : Nat} {W : World} {t : ByteArray} (h : Boxed W Bt 9 (.string t)) : lleft Bt W = t.size := by unfold lleft; rw [h.cell]
set_option maxRecDepth 100000 in
set_option maxHeartbeats 2000000 in
theorem each1_in (n : Nat) (hn : 1 ≤ n) (l Bt : Nat) (s : ByteArray) (hs : s.size ≤ maxLen) (J Jx : List ByteArray → World → Prop)
 (hJ : ∀ pre A B, J pre A → Ext A B → J pre B) (hS : ∀ pre A B, J pre A → lstep Bt A B → J pre B)
 (hY : ∀ pre x W, J pre W → pre.length < (Fie.lines s 0).length → YieldAt Fence.wide (n - 1) Tryz.prog l #[.string x] W fun e W' =>
   (e = .returned (.bool true) ∧ J (pre ++ [x]) W' ∧ lkeep Bt W W') ∨ (e = .returned (.bool false) ∧ Jx (pre ++ [x]) W'))
 (W : World) (hB : Boxed W Bt 9 (.string s)) (h0 : J [] W) :
 CallsIn Fence.wide n Tryz.prog 76 #[.func (.yield l) #[] #[], .pointer (some ⟨Bt, 0, none⟩)] W fun e W' => (∃ v, e = .returned v) ∧
  ((∃ ys, ys = Fie.lines s 0 ∧ J ys W') ∨ (∃ pre, True ∧ Jx pre W')) := by
 refine callsIn_of_wp Tryz.func76 rfl trivial ?_ rfl
 simp only [Tryz.ntmps76, List.size_toArray, List.length_cons, List.length_nil, Nat.reduceAdd, Nat.reduceSub, Array.replicate_succ, Array.replicate_zero, List.push_toArray, List.append_toArray, List.nil_append, List.cons_append]
 gi_wp2
 gi_loopw [3] (fun _ wr => ∃ (pre : List ByteArray) (k : Nat), k ≤ s.size + 1 ∧ Hid (Fie.lines s 0 = pre ++ Fie.lines s k) ∧ Boxed wr Bt 9 (.string (s.extract k s.size)) ∧ J pre wr)
  (fun _ wr => lleft Bt wr)
 case atStart =>
  exact ⟨[], 0, by omega, rfl, by rw [Fie.ext_full]; exact hB, h0⟩
 case round =>
  obtain ⟨pre, k, k1, Hl, hb, hj⟩ := hrel
  by_cases c0 : k < s.size
  · obtain ⟨q, hq⟩ : ∃ q, Fie.stop Fie.nolf (s.extract k s.size) 0 = q := ⟨_, rfl⟩
    have hqk := Fie.stop_tail0 Fie.nolf s k (by omega)
    rw [hq] at hqk
    have hle := Fie.stop_le Fie.nolf s k (by omega)
    have E : Hid (Fie.lines s 0 = (pre ++ [(s.extract k s.size).extract 0 q]) ++ Fie.lines s (k + (q + 1))) := by
     show _ = _
     rw [Hl.out, Fie.lines_more s k c0, Fie.ext_ext s k 0 q (by omega), ← hqk]
     rw [show q + k + 1 = k + (q + 1) by omega, show q + k = k + q by omega]; simp
    have T : Hid ((s.extract k s.size).extract (q + 1) (s.extract k s.size).size = s.extract (k + (q + 1)) s.size) := Fie.ext_tail s k (q + 1) (by omega)
    have hlen : pre.length < (Fie.lines s 0).length := by rw [E.out]; simp
    have hz := Fie.ext_size s k s.size (Nat.le_refl _)
    have hm : (s.extract k s.size).size ≤ maxLen := by omega
    have hzz : Hid ((s.extract (k + (q + 1)) s.size).size < (s.extract k s.size).size) := by
     show _ < _
     rcases Nat.lt_or_ge (k + (q + 1)) s.size with h | h
     · rw [Fie.ext_size _ _ _ (Nat.le_refl _)]; omega
     · rw [Fie.ext_none _ _ h]; show 0 < _; omega
    have hk2 : k + (q + 1) ≤ s.size + 1 := by omega
    have HC := fun w => Lib.hid (cut_any _ q hq w hm)
    clear hqk hle hq
    have hne : ¬ (s.extract k s.size).size = 0 := by omega
    clear hz
    generalize s.extract k s.size = t at *
    generalize hT2 : s.extract (k + (q + 1)) s.size = t2 at *
    have H2 := Lib.hid hT2
    clear hT2
    obtain ⟨e0, e1⟩ := full_list hne
    have hc := hb.cell
    unfold fcutV at HC
    gi_wp2_with (refine ⟨trivial, ?_⟩; gi_at_call 77; refine callsIn_wide.2 (Rets.use (HC _).out ?_); intro z; have hb2 : Boxed z.x Bt 9 (.string t) := hb.kept (grown_of_ext z.hb) (by simp); obtain ⟨fn, tmps, assign, body, hy, hR⟩ := hY pre (t.extract 0 q) z.x (hJ _ _ _ hj z.hb) hlen)
    refine hR.mono ?_
    rintro e W3 (⟨rfl, hJ3, hk3⟩ | ⟨rfl, hJx3⟩)
    · have hb3 := hk3 _ hb2
      have hc3 := hb3.cell
      have hf3 := hb3.frozen
      gi_wp2
      go_roundw
      case rel => exact ⟨pre ++ [t.extract 0 q], k + (q + 1), hk2, E, by rw [T.out, H2.out]; exact hb3.set _, hS _ _ _ hJ3 ⟨⟨_, hb3⟩, _, rfl⟩⟩
      case measure => rw [lleft_eq (hb3.set _), lleft_eq hb, T.out]; exact hzz.out
    · gi_wp2
      refine bodyPost_ret (results_none rfl _ _ _) rfl ?_
      exact ⟨⟨_, rfl⟩, .inr ⟨_, trivial, hJx3⟩⟩
  · have E : Hid (pre = Fie.lines s 0) := by show _ = _; rw [Hl.out, Fie.lines_end s k (by omega), List.append_nil]
    have e0 := Fie.ext_none s k (by omega)
    have hc := hb.cell
    rw [e0] at hc
    clear e0
    gi_wp2
    go_end0
    exact ⟨⟨_, rfl⟩, .inl ⟨pre, E.out, hj⟩⟩
end Go.Proofs.YtdhbgelijjlifaaGreatDoor
namespace Go.Proofs.YtdhbgelijjlifaaGreatDoor
open Go.RowKit Go.Shelf
theorem own_down {w : World} {base base' : Nat} {e : TypeId} {size : Nat} {v : Value} {n : Nat} {xs : List Value} (h : w.ownsRow base e size v n xs) (hb : base' ≤ base) : w.ownsRow base' e size v n xs := by
 refine ⟨h.1, ?_⟩
 rcases h.2 with h2 | ⟨g, cap, cur, h1, h2, h3⟩
 · exact .inl h2
 · exact .inr ⟨g, cap, cur, h1, Nat.le_trans hb h2, h3⟩
attribute [local go_sem] Oper.semAt_some
set_option maxHeartbeats 1000000 in
theorem each_in (n : Nat) (s : ByteArray) (w : World) :
 CallsIn Fence.wide n Tryz.prog 46 #[.string s] w fun e w' => e = .returned (.func (.func 76) #[] #[.pointer (some ⟨w.heap.size, 0, none⟩)]) ∧ w' = w.alloc (.cells #[.string s] 9) := by
 refine callsIn_of_wp Tryz.func46 rfl trivial ?_ rfl
 simp only [Tryz.ntmps46, List.size_toArray, List.length_cons, List.length_nil, Nat.reduceAdd, Nat.reduceSub, Array.replicate_succ, Array.replicate_zero, List.push_toArray, List.append_toArray, List.nil_append, List.cons_append]
 gi_wp2
 go_ret
 exact ⟨rfl, rfl⟩
theorem ownsRow_base {W : World} {a b : Nat} {e : TypeId} {size : Nat} {v : Value} {k : Nat} {xs : List Value} (h : W.ownsRow b e size v k xs) (hab : a ≤ b) : W.ownsRow a e size v k xs := by
 refine ⟨h.1, ?_⟩
 rcases h.2 with h2 | ⟨g, cap, cur, h1, h2, r⟩
 · exact .inl h2
 · exact .inr ⟨g, cap, cur, h1, Nat.le_trans hab h2, r⟩
theorem ownsRow_ne {W : World} {b B : Nat} {e : TypeId} {size : Nat} {v : Value} {k : Nat} {xs : List Value} (h : W.ownsRow b e size v k xs) (hB : B < b) : some B ≠ v.ownBlock := by
 rcases h.2 with ⟨rfl, _⟩ | ⟨g, cap, cur, rfl, h2, _⟩
 · simp [Value.ownBlock]
 · intro e'
   obtain rfl : B = g := by simpa [Value.ownBlock] using e'
   omega
theorem boxed_step {W w1 : World} {n₀ n2 Bo Bt : Nat} {t e te : TypeId} {size : Nat} {v v' : Value} {k m : Nat} {xs ys : List Value} {tmp : Obj}
 (hv : Boxed W Bo t v) (hte : t ≠ e) (hrow : W.ownsRow n2 e size v k xs) (hn : n₀ ≤ n2) (hn₀ : n₀ ≤ W.heap.size) (hB : n₀ ≤ Bo) (hBt : Bt < n2) (hne : Bt ≠ Bo)
 (hown' : w1.ownsRow n2 e size v' m ys) (hgrow : (W.alloc tmp).grownBy w1 v.ownBlock) :
 Boxed w1 Bo t v ∧ Boxed (w1.setCell ⟨Bo, 0, none⟩ v') Bo t v' ∧ (w1.setCell ⟨Bo, 0, none⟩ v').ownsRow n2 e size v' m ys ∧ KeepsOthers W (w1.setCell ⟨Bo, 0, none⟩ v') ∧ Below n₀ W (w1.setCell ⟨Bo, 0, none⟩ v') ∧
  (∀ u, Boxed W Bt te u → Boxed (w1.setCell ⟨Bo, 0, none⟩ v') Bt te u) := by
 obtain ⟨h1, h2, h3, h4, h5⟩ := hv.appended hte (ownsRow_base hrow hn) hn₀ hB (ownsRow_base hown' hn) hgrow
 refine ⟨h1, h2, hown'.kept (grownBy_setCell' w1 Bo v') (.inr (h1.not_row hte hown').symm), h4, h5, fun u hu => ?_⟩
 exact ((hu.alloc tmp).kept hgrow (ownsRow_ne hrow hBt)).kept (grownBy_setCell' w1 Bo v') (by simpa using hne)
theorem lines_len (s : ByteArray) : ∀ (f k : Nat), (Fie.linesN s f k).length ≤ f
 | 0, _ => by simp [Fie.linesN]
 | f + 1, k => by
   have := lines_len s f (Fie.stop Fie.nolf s k + 1)
   unfold Fie.linesN; split <;> simp <;> omega
set_option maxRecDepth 100000 in
set_option maxHeartbeats 2000000 in
theorem lines_in (n : Nat) (hn : 3 ≤ n) (s : ByteArray) (hs : s.size ≤ 1048576) (w : World) :
 CallsIn Fence.wide n Tryz.prog 24 #[.string s] w (TextsEnd w (Fie.lines s 0)) := by
 have hm : s.size ≤ maxLen := by unfold maxLen; omega
 have hN : (Fie.lines s 0).length ≤ s.size := lines_len s _ 0
 have h1 : 1 ≤ n := by omega
 obtain ⟨i0, hi, hz0, hz1, hz2⟩ := info_parts Tryz.infoText
 refine callsIn_of_wp_marks Tryz.func24 rfl trivial ?_ rfl
 simp only [Tryz.ntmps24, List.size_toArray, List.length_cons, List.length_nil, Nat.reduceAdd, Nat.reduceSub, Array.replicate_succ, Array.replicate_zero, List.push_toArray, List.append_toArray, List.nil_append, List.cons_append]
 gi_wp2_with (refine ⟨trivial, ?_⟩; gi_at_call 46; refine (each_in (n - 1) _ _).mono ?_; rintro e w' ⟨rfl, rfl⟩)
 have bO := Boxed.new w 35 (.slice none 0 0)
 have bN := Boxed.new (w.alloc (.cells #[.slice none 0 0] 35)) 9 (.string s)
 rw [World.size_alloc] at bN
 have hB0 : Below w.heap.size w ((w.alloc (.cells #[.slice none 0 0] 35)).alloc (.cells #[.string s] 9)) := ((Below.refl _ w).alloc (Nat.le_refl _) _).alloc (by simp) _
 refine wpIn_rangeFunc_ownS rfl h1 (gf := 76) (lb := #[.pointer (some ⟨w.heap.size + 1, 0, none⟩)]) rfl trivial (enters_of Tryz.func76 (by kernel_rfl) rfl)
  (encs := fun x : ByteArray => #[Value.string x]) (Kp := lkeep (w.heap.size + 1)) (St := lstep (w.heap.size + 1)) (S := fun ys => ys = Fie.lines s 0) (Sp := fun _ => True) (N := (Fie.lines s 0).length)
  (fun l J Jx W hW hJ hJx hS hY h0 => each1_in (n - 1) (by omega) l (w.heap.size + 1) s hm J Jx (fun pre A B h hx => hJ pre A B none h (grown_of_ext hx) (by simp)) hS hY W ((hW.block _ bN.lt).trans bN) h0)
  (fun h k v hv => k v (h v hv)) (fun W l o o' _ h hc _ => lkeep_b W l o o' h hc) (Below.refl _ _) (fun _ => rfl)
  (fun A B l o hab ho hc => by
    obtain ⟨⟨v, hv⟩, v', rfl⟩ := hab
    rw [Below.heap_setCell _ _ _ _ (fun e => by
     rw [e] at ho
     rw [show A.heap[w.heap.size + 1]? = _ from hv] at ho; cases ho; cases hc)]
    exact ho)
  (fun pre W => (∃ v, Boxed W w.heap.size 35 v ∧ W.ownsRow (w.heap.size + 2) 9 1 v pre.length (pre.map Value.string) ∧ True) ∧ Below w.heap.size ((w.alloc (.cells #[.slice none 0 0] 35)).alloc (.cells #[.string s] 9)) W)
  (fun _ _ _ => False)
  (OwnFrom.and (Own.from (holdsRow_own (w.heap.size + 2) w.heap.size 35 9 1 (fun pre : List ByteArray => pre.length) (fun pre => pre.map Value.string) (fun _ _ => True)) _) (ownFrom_below (by simp; omega) (by simp; omega)))
  (fun pre A B hI hab => by
    obtain ⟨⟨v, hv, hr, _⟩, hB⟩ := hI
    obtain ⟨_, v', rfl⟩ := hab
    exact ⟨⟨v, hv.kept (grownBy_setCell' A _ v') (by simp), hr.kept (grownBy_setCell' A _ v') (.inr (ownsRow_ne hr (by omega)).symm), trivial⟩, hB.setCell (p := ⟨w.heap.size + 1, 0, none⟩) (by simp) _⟩)
  (fun _ _ _ _ _ hs _ _ => hs)
  ⟨⟨_, bO.alloc _, World.ownsRow_nil _ _ _ _, trivial⟩, Below.refl _ _⟩
  (fun x => { tmps := #[.string s, undef, .slice none 0 0, .pointer (some ⟨w.heap.size, 0, none⟩), .string x, .string s, .func (.func 76) #[] #[.pointer (some ⟨w.heap.size + 1, 0, none⟩)], .string x, undef, undef, undef, undef, undef], defers := [] }) ?assign ?body ?done ?stop
 case assign =>
  intro l x W K hK
  gi_wp2
  exact hK
 case body =>
  rintro l pre x W ⟨⟨v, hv, hrow, _⟩, hB⟩ hlt
  have hc := hv.cell
  have hwz := hB.size
  simp only [World.size_alloc] at hwz
  have hpl : pre.length < 1048576 := by omega
  gi_wp2_with (gi_at_builtin; refine wpListIn_append_own _ rfl _ _ 35 rfl (w.heap.size + 2) 9 i0 (.string ByteArray.empty) 1 16 Tryz.underlying35 hi hz0 hz1 hz2 rfl (by decide) _ _ _ rfl (hrow.alloc _) ⟨W.heap.size, 0, none⟩ 1 1 [.string x] rfl rfl (cell_one_new _ _ _) (by simp [Value.oneCell']) (by unfold maxLen; omega) (by omega) (by simp; omega) ?_; intro v' w1 hown' hgrow _; obtain ⟨g', cap', rfl⟩ := ownsRow_succ hown'; obtain ⟨hv1, hv2, hr2, hk2, hb2, hbt2⟩ := boxed_step (te := 9) (Bt := w.heap.size + 1) hv (by decide) hrow (n₀ := w.heap.size) (by omega) (by omega) (Nat.le_refl _) (by omega) (by omega) hown' hgrow; have hc1 := hv1.cell; have hf1 := hv1.frozen)
  exact ⟨hk2, hbt2, ⟨_, hv2, by rw [List.length_append, List.map_append]; exact hr2, trivial⟩, hB.trans hb2⟩
 case done =>
  rintro D ys W hD rfl ⟨⟨v, hv, hrow, _⟩, hB⟩ hK
  have hc := hv.cell
  gi_wp2
  refine ⟨by simp, .inl ⟨_, _, rfl, run_takeDeferred hK, ?_⟩⟩
  have hX := (hB0.trans hB).trans (belowK_b (w := w) (Nat.le_refl _) W D _ (.deferred none) (by simp at hD; omega) hK rfl rfl)
  exact ⟨_, results_tmp rfl _ _ _, v, ⟨_, hX⟩, rfl, by have := own_down (ownsRow_putObj hrow (.deferred none) hK rfl) (base' := w.heap.size) (by omega); exact this, rfl⟩
 case stop =>
  rintro D c pre W _ _ h _
  exact h.elim
theorem lines_any (s : ByteArray) (w : World) (hs : s.size ≤ 1048576) : Calls Tryz.prog 24 #[.string s] w (TextsEnd w (Fie.lines s 0)) :=
 (callsIn_wide (n := 3)).1 (lines_in 3 (by omega) s hs w)
end Go.Proofs.YtdhbgelijjlifaaGreatDoor
