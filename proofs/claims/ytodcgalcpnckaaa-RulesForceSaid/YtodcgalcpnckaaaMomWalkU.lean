/- Walks of moments: the day on which the document's spot falls. -/
import Derived.Test.YtodcgalcpnckaaaMomWalkT
set_option linter.unusedVariables false
set_option linter.unusedSimpArgs false
namespace Go.Proofs.Ytodcgalcpnckaaa
open Go.RowKit

theorem seven_eq {n wd Q : Int} (hq : (n + 3) / 7 = Q) : ((n + 3) % 7 + 1 = wd → (n + 3 - 7 * Q + 1 != wd) = false) ∧ ((n + 3) % 7 + 1 ≠ wd → (n + 3 - 7 * Q + 1 != wd) = true) := by
  constructor
  · intro h; rw [bne_eq_false_iff_eq]; omega
  · intro h; rw [bne_iff_ne]; omega
set_option maxRecDepth 100000 in
set_option maxHeartbeats 8000000 in
theorem ron_yes0 (m wd d t r y N : Int) (w : World) (h : Mom.rightB m 0 wd d t r = true) (y1 : 1 ≤ y) (y2 : y ≤ 300000) (hok : Civ.okD y m 1 = true) (hN : Mom.onI m 0 wd d y = N) (b : Bool) (V : Int) (hb : (b = true ∧ V = N ∧ N ≤ 100000000) ∨ (b = false ∧ V = 0 ∧ 100000000 < N)) :
    Rets Try.prog 60 #[spotA m 0 wd d t r, .int .i64 y] w (.tuple #[.int .i64 V, .bool b]) := by
  have HR := fun w => Lib.hid (rright_whole m 0 wd d t r w)
  have HD := fun w => Lib.hid (rdays_any y m 1 w)
  rw [h] at HR
  rw [hok, dnum_yes _ _ _ hok] at HD
  obtain ⟨m1, m2, -, -, -, -, hk⟩ := Mom.right_all h
  obtain ⟨n1, n2⟩ := num_bd y m 1 (by omega) (by omega) m1 m2 (by omega) (by omega)
  unfold Mom.onI at hN
  rw [Mom.fall_0 rfl] at hN
  generalize Civ.num y m 1 = F at *
  generalize Civ.mlen y m = L at *
  have g1 : decide (y < 1) = false := decide_eq_false (by omega)
  have g2 : decide (300000 < y) = false := decide_eq_false (by omega)
  obtain ⟨rfl, k2, k3⟩ : wd = 0 ∧ 1 ≤ d ∧ d ≤ 31 := by omega
  clear h hok hk
  subst hN
  unfold Rets
  rcases hb with ⟨rfl, rfl, hb⟩ | ⟨rfl, rfl, hb⟩
  all_goals
    go_enter Try.func60, Try.ntmps60
    go_wp2_with (first | (go_at_call 29; refine Rets.use (HR _).out ?_; intro _) | (go_at_call 71; refine Rets.use (HD _).out ?_; intro _))
    go_loopw [8] (fun i wr => i = .int .i64 (F + d - 1) ∧ Ext w wr) (fun _ _ => 0)
    case atStart => exact ⟨rfl, isext⟩
    case round =>
      obtain ⟨rfl, hx⟩ := hrel
      obtain ⟨yr, rfl⟩ := fin hx
      clear hx
      go_wp2_with fail
      refine wp_region_past1 (by kernel_rfl) (by kernel_rfl) ?_
      repeat (go_big_quiet_step (fail))
      refine wpQuiet_nil ?_
      intro _
      go_wp2
      go_ret2
      exact ⟨rfl, done⟩
end Go.Proofs.Ytodcgalcpnckaaa
