/- Walk: the lines of a text, by an iterator. -/
import Derived.Test.YtifjnegjjjpagaaFieWalkI
set_option linter.unusedVariables false
set_option linter.unusedSimpArgs false
namespace Go.Proofs.Ytifjnegjjjpagaa
open Go.RowKit Go.Shelf

attribute [local go_sem] Oper.semAt_some

def lstep (Bt : Nat) (A B : World) : Prop := (∃ v, Boxed A Bt 9 v) ∧ ∃ v', B = A.setCell ⟨Bt, 0, none⟩ v'
def lkeep (Bt : Nat) (A B : World) : Prop := ∀ v, Boxed A Bt 9 v → Boxed B Bt 9 v
theorem lkeep_b {Bt : Nat} (W : World) (l : Nat) (o o' : Obj) (h : W.heap[l]? = some o) (hc : o.isCells = false) : lkeep Bt W (W.putObj l o') := fun v hv =>
  hv.kept (grownBy_putObj' W l o') (fun e => by
    cases e
    rw [show W.heap[Bt]? = _ from hv] at h; cases h; cases hc)
def lleft (Bt : Nat) (W : World) : Nat := match W.cell? ⟨Bt, 0, none⟩ with | some (.string t) => t.size | _ => 0
theorem lleft_eq {Bt : Nat} {W : World} {t : ByteArray} (h : Boxed W Bt 9 (.string t)) : lleft Bt W = t.size := by unfold lleft; rw [h.cell]

set_option maxRecDepth 100000 in
set_option maxHeartbeats 2000000 in
theorem each1_in (n : Nat) (hn : 1 ≤ n) (l Bt : Nat) (s : ByteArray) (hs : s.size ≤ maxLen) (J Jx : List ByteArray → World → Prop)
    (hJ : ∀ pre A B, J pre A → Ext A B → J pre B) (hS : ∀ pre A B, J pre A → lstep Bt A B → J pre B)
    (hY : ∀ pre x W, J pre W → pre.length < (Fie.lines s 0).length → YieldAt Fence.wide (n - 1) Try.prog l #[.string x] W fun e W' =>
      (e = .returned (.bool true) ∧ J (pre ++ [x]) W' ∧ lkeep Bt W W') ∨ (e = .returned (.bool false) ∧ Jx (pre ++ [x]) W'))
    (W : World) (hB : Boxed W Bt 9 (.string s)) (h0 : J [] W) :
    CallsIn Fence.wide n Try.prog 28 #[.func (.yield l) #[] #[], .pointer (some ⟨Bt, 0, none⟩)] W fun e W' => (∃ v, e = .returned v) ∧
      ((∃ ys, ys = Fie.lines s 0 ∧ J ys W') ∨ (∃ pre, True ∧ Jx pre W')) := by
  refine callsIn_of_wp Try.func28 rfl trivial ?_ rfl
  simp only [Try.ntmps28, List.size_toArray, List.length_cons, List.length_nil, Nat.reduceAdd, Nat.reduceSub, Array.replicate_succ, Array.replicate_zero, List.push_toArray, List.append_toArray, List.nil_append, List.cons_append]
  gi_wp2
  gi_loopw [3] (fun _ wr => ∃ (pre : List ByteArray) (k : Nat), k ≤ s.size + 1 ∧ Hid (Fie.lines s 0 = pre ++ Fie.lines s k) ∧ Boxed wr Bt 9 (.string (s.extract k s.size)) ∧ J pre wr)
    (fun _ wr => lleft Bt wr)
  case atStart =>
    exact ⟨[], 0, by omega, rfl, by rw [Fie.ext_full]; exact hB, h0⟩
  case round =>
    obtain ⟨pre, k, k1, Hl, hb, hj⟩ := hrel
    by_cases c0 : k < s.size
    · obtain ⟨q, hq⟩ : ∃ q, Fie.stop Fie.nolf (s.extract k s.size) 0 = q := ⟨_, rfl⟩
      have hqk := Fie.stop_tail0 Fie.nolf s k (by omega)
      rw [hq] at hqk
      have hle := Fie.stop_le Fie.nolf s k (by omega)
      have E : Hid (Fie.lines s 0 = (pre ++ [(s.extract k s.size).extract 0 q]) ++ Fie.lines s (k + (q + 1))) := by
        show _ = _
        rw [Hl.out, Fie.lines_more s k c0, Fie.ext_ext s k 0 q (by omega), ← hqk]
        rw [show q + k + 1 = k + (q + 1) by omega, show q + k = k + q by omega]; simp
      have T : Hid ((s.extract k s.size).extract (q + 1) (s.extract k s.size).size = s.extract (k + (q + 1)) s.size) := Fie.ext_tail s k (q + 1) (by omega)
      have hlen : pre.length < (Fie.lines s 0).length := by rw [E.out]; simp
      have hz := Fie.ext_size s k s.size (Nat.le_refl _)
      have hm : (s.extract k s.size).size ≤ maxLen := by omega
      have hzz : Hid ((s.extract (k + (q + 1)) s.size).size < (s.extract k s.size).size) := by
        show _ < _
        rcases Nat.lt_or_ge (k + (q + 1)) s.size with h | h
        · rw [Fie.ext_size _ _ _ (Nat.le_refl _)]; omega
        · rw [Fie.ext_none _ _ h]; show 0 < _; omega
      have hk2 : k + (q + 1) ≤ s.size + 1 := by omega
      have HC := fun w => Lib.hid (cut_any _ q hq w hm)
      clear hqk hle hq
      have hne : ¬ (s.extract k s.size).size = 0 := by omega
      clear hz
      generalize s.extract k s.size = t at *
      generalize hT2 : s.extract (k + (q + 1)) s.size = t2 at *
      have H2 := Lib.hid hT2
      clear hT2
      obtain ⟨e0, e1⟩ := full_list hne
      have hc := hb.cell
      unfold cutV at HC
      gi_wp2_with (refine ⟨trivial, ?_⟩; gi_at_call 29; refine callsIn_wide.2 (Rets.use (HC _).out ?_); intro z; have hb2 : Boxed z.x Bt 9 (.string t) := hb.kept (grown_of_ext z.hb) (by simp); obtain ⟨fn, tmps, assign, body, hy, hR⟩ := hY pre (t.extract 0 q) z.x (hJ _ _ _ hj z.hb) hlen)
      refine hR.mono ?_
      rintro e W3 (⟨rfl, hJ3, hk3⟩ | ⟨rfl, hJx3⟩)
      · have hb3 := hk3 _ hb2
        have hc3 := hb3.cell
        have hf3 := hb3.frozen
        gi_wp2
        go_roundw
        case rel => exact ⟨pre ++ [t.extract 0 q], k + (q + 1), hk2, E, by rw [T.out, H2.out]; exact hb3.set _, hS _ _ _ hJ3 ⟨⟨_, hb3⟩, _, rfl⟩⟩
        case measure => rw [lleft_eq (hb3.set _), lleft_eq hb, T.out]; exact hzz.out
      · gi_wp2
        refine bodyPost_ret (results_none rfl _ _ _) rfl ?_
        exact ⟨⟨_, rfl⟩, .inr ⟨_, trivial, hJx3⟩⟩
    · have E : Hid (pre = Fie.lines s 0) := by show _ = _; rw [Hl.out, Fie.lines_end s k (by omega), List.append_nil]
      have e0 := Fie.ext_none s k (by omega)
      have hc := hb.cell
      rw [e0] at hc
      clear e0
      gi_wp2
      go_end0
      exact ⟨⟨_, rfl⟩, .inl ⟨pre, E.out, hj⟩⟩
end Go.Proofs.Ytifjnegjjjpagaa
