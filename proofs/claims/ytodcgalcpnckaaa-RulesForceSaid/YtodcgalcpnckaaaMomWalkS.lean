/- Walks of moments: the day on which a spot falls, whole. -/
import Derived.Test.YtodcgalcpnckaaaMomWalkR
import Derived.Test.YtodcgalcpnckaaaMomWalkQ
set_option linter.unusedVariables false
set_option linter.unusedSimpArgs false
namespace Go.Proofs.Ytodcgalcpnckaaa
open Go.RowKit

theorem right_whole (m k wd d t r : Int) (w : World) : Rets Try.prog 49 #[spotA m k wd d t r] w (.bool (Mom.rightB m k wd d t r)) := by
  by_cases h : Mom.headOk m k t r
  · rw [Mom.right_head h]; exact right_tail_any m k wd d t r w h
  · rw [Mom.right_head_no h]; exact right_head_any m k wd d t r w h
theorem rright_whole (m k wd d t r : Int) (w : World) : Rets Try.prog 29 #[spotA m k wd d t r] w (.bool (Mom.rightB m k wd d t r)) := by
  by_cases h : Mom.headOk m k t r
  · rw [Mom.right_head h]; exact rright_tail_any m k wd d t r w h
  · rw [Mom.right_head_no h]; exact rright_head_any m k wd d t r w h

set_option maxRecDepth 100000 in
set_option maxHeartbeats 800000 in
theorem on_no (m k wd d t r y : Int) (w : World) (h : Mom.rightB m k wd d t r = false ∨ (Mom.rightB m k wd d t r = true ∧ y < 1) ∨ (Mom.rightB m k wd d t r = true ∧ decide (y < 1) = false ∧ 300000 < y) ∨ (Mom.rightB m k wd d t r = true ∧ decide (y < 1) = false ∧ decide (300000 < y) = false ∧ Civ.okD y m 1 = false)) :
    Rets Try.prog 57 #[spotA m k wd d t r, .int .i64 y] w (.tuple #[.int .i64 0, .bool false]) := by
  have HR := fun w => Lib.hid (right_whole m k wd d t r w)
  have HD := fun w => Lib.hid (days_any y m 1 w)
  unfold Rets
  rcases h with h | ⟨h, g⟩ | ⟨h, g1, g⟩ | ⟨h, g1, g2, g⟩
  all_goals
    rw [h] at HR
    clear h
    try rw [g, dnum_no _ _ _ g] at HD
    go_enter Try.func57, Try.ntmps57
    go_wp2_with fail
    · refine Rets.use ((HR _).out) ?_
      intro _
      go_wp2_with fail
      all_goals first
        | (go_ret2; exact ⟨rfl, done⟩)
        | (refine Rets.use (HD _).out ?_; intro _; go_wp2_with fail; go_ret2; exact ⟨rfl, done⟩)
theorem fns_0 (w : World) : Sem.run Try.prog (Instr.index 84 (Value.agg #[Value.func (Fn.func 65) #[] #[], Value.func (Fn.func 66) #[] #[], Value.func (Fn.func 67) #[] #[], Value.func (Fn.func 68) #[] #[]]) (Value.int IntKind.i64 0)) w = .ok (Value.func (Fn.func 65) #[] #[]) w := by kernel_rfl
theorem fns_1 (w : World) : Sem.run Try.prog (Instr.index 84 (Value.agg #[Value.func (Fn.func 65) #[] #[], Value.func (Fn.func 66) #[] #[], Value.func (Fn.func 67) #[] #[], Value.func (Fn.func 68) #[] #[]]) (Value.int IntKind.i64 1)) w = .ok (Value.func (Fn.func 66) #[] #[]) w := by kernel_rfl
theorem fns_2 (w : World) : Sem.run Try.prog (Instr.index 84 (Value.agg #[Value.func (Fn.func 65) #[] #[], Value.func (Fn.func 66) #[] #[], Value.func (Fn.func 67) #[] #[], Value.func (Fn.func 68) #[] #[]]) (Value.int IntKind.i64 2)) w = .ok (Value.func (Fn.func 67) #[] #[]) w := by kernel_rfl
theorem fns_3 (w : World) : Sem.run Try.prog (Instr.index 84 (Value.agg #[Value.func (Fn.func 65) #[] #[], Value.func (Fn.func 66) #[] #[], Value.func (Fn.func 67) #[] #[], Value.func (Fn.func 68) #[] #[]]) (Value.int IntKind.i64 3)) w = .ok (Value.func (Fn.func 68) #[] #[]) w := by kernel_rfl
set_option maxRecDepth 100000 in
set_option maxHeartbeats 4000000 in
theorem on_yes (m k wd d t r y N : Int) (w : World) (h : Mom.rightB m k wd d t r = true) (y1 : 1 ≤ y) (y2 : y ≤ 300000) (hok : Civ.okD y m 1 = true) (hN : Mom.onI m k wd d y = N) (b : Bool) (V : Int) (hb : (b = true ∧ V = N ∧ N ≤ 100000000) ∨ (b = false ∧ V = 0 ∧ 100000000 < N)) :
    Rets Try.prog 57 #[spotA m k wd d t r, .int .i64 y] w (.tuple #[.int .i64 V, .bool b]) := by
  have HR := fun w => Lib.hid (right_whole m k wd d t r w)
  have HD := fun w => Lib.hid (days_any y m 1 w)
  have HL := fun w => Lib.hid (monthlen_any y m w)
  rw [h] at HR
  rw [hok, dnum_yes _ _ _ hok] at HD
  obtain ⟨m1, m2, -, -, -, -, hk⟩ := Mom.right_all h
  obtain ⟨n1, n2⟩ := num_bd y m 1 (by omega) (by omega) m1 m2 (by omega) (by omega)
  obtain ⟨l1, l2⟩ := Civ.mlen_bd y m
  unfold Mom.onI at hN
  generalize Civ.num y m 1 = F at *
  generalize Civ.mlen y m = L at *
  have g1 : decide (y < 1) = false := decide_eq_false (by omega)
  have g2 : decide (300000 < y) = false := decide_eq_false (by omega)
  have p1 : -500001000 ≤ F := n1
  clear h hok
  rcases hk with ⟨rfl, rfl, k2, k3⟩ | ⟨rfl, k1, k2, rfl⟩ | ⟨rfl, k1, k2, k3, k4⟩ | ⟨rfl, k1, k2, k3, k4⟩
  · rw [Mom.fall_0 rfl] at hN
    have HI := fns_0
    have HM := fun w => Lib.hid (day_any F L m 0 0 d t r w (by omega) (by omega) (by omega) (by omega) )
    rw [hN] at HM
    clear hN
    unfold Rets
    rcases hb with ⟨rfl, rfl, hb⟩ | ⟨rfl, rfl, hb⟩
    all_goals
      go_enter Try.func57, Try.ntmps57
      go_wp2_with (first | (go_at_call 49; refine Rets.use (HR _).out ?_; intro _) | (go_at_call 64; refine Rets.use (HD _).out ?_; intro _))
      refine wp_region_past1 (by kernel_rfl) (by kernel_rfl) ?_
      repeat (go_big_quiet_step (first | (go_at_call 69; exact Rets.quiet (HL _).out) | (go_at_call 65; exact Rets.quiet (HM _).out)))
      refine wpQuiet_nil ?_
      intro _
      go_wp2
      go_ret2
      exact ⟨rfl, done⟩
  · rw [Mom.fall_1 rfl] at hN
    have HI := fns_1
    have HM := fun w => Lib.hid (last_any F L m 1 wd 0 t r w (by omega) (by omega) (by omega) (by omega) (by omega) (by omega) )
    rw [hN] at HM
    clear hN
    unfold Rets
    rcases hb with ⟨rfl, rfl, hb⟩ | ⟨rfl, rfl, hb⟩
    all_goals
      go_enter Try.func57, Try.ntmps57
      go_wp2_with (first | (go_at_call 49; refine Rets.use (HR _).out ?_; intro _) | (go_at_call 64; refine Rets.use (HD _).out ?_; intro _))
      refine wp_region_past1 (by kernel_rfl) (by kernel_rfl) ?_
      repeat (go_big_quiet_step (first | (go_at_call 69; exact Rets.quiet (HL _).out) | (go_at_call 66; exact Rets.quiet (HM _).out)))
      refine wpQuiet_nil ?_
      intro _
      go_wp2
      go_ret2
      exact ⟨rfl, done⟩
  · rw [Mom.fall_2 rfl] at hN
    have HI := fns_2
    have HM := fun w => Lib.hid (after_any F L m 2 wd d t r w (by omega) (by omega) (by omega) (by omega) (by omega) (by omega) )
    rw [hN] at HM
    clear hN
    unfold Rets
    rcases hb with ⟨rfl, rfl, hb⟩ | ⟨rfl, rfl, hb⟩
    all_goals
      go_enter Try.func57, Try.ntmps57
      go_wp2_with (first | (go_at_call 49; refine Rets.use (HR _).out ?_; intro _) | (go_at_call 64; refine Rets.use (HD _).out ?_; intro _))
      refine wp_region_past1 (by kernel_rfl) (by kernel_rfl) ?_
      repeat (go_big_quiet_step (first | (go_at_call 69; exact Rets.quiet (HL _).out) | (go_at_call 67; exact Rets.quiet (HM _).out)))
      refine wpQuiet_nil ?_
      intro _
      go_wp2
      go_ret2
      exact ⟨rfl, done⟩
  · rw [Mom.fall_3 rfl] at hN
    have HI := fns_3
    have HM := fun w => Lib.hid (ahead_any F L m 3 wd d t r w (by omega) (by omega) (by omega) (by omega) (by omega) (by omega) )
    rw [hN] at HM
    clear hN
    unfold Rets
    rcases hb with ⟨rfl, rfl, hb⟩ | ⟨rfl, rfl, hb⟩
    all_goals
      go_enter Try.func57, Try.ntmps57
      go_wp2_with (first | (go_at_call 49; refine Rets.use (HR _).out ?_; intro _) | (go_at_call 64; refine Rets.use (HD _).out ?_; intro _))
      refine wp_region_past1 (by kernel_rfl) (by kernel_rfl) ?_
      repeat (go_big_quiet_step (first | (go_at_call 69; exact Rets.quiet (HL _).out) | (go_at_call 68; exact Rets.quiet (HM _).out)))
      refine wpQuiet_nil ?_
      intro _
      go_wp2
      go_ret2
      exact ⟨rfl, done⟩
end Go.Proofs.Ytodcgalcpnckaaa
