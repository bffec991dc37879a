/- Walks: the reference's number of a date; both dates of a number. -/
import Derived.Test.YtcjnficcggjeiaaDoorCivWalkB
set_option linter.unusedVariables false
set_option linter.unusedSimpArgs false
namespace Go.Proofs.YtcjnficcggjeiaaDoor
open Go.RowKit

theorem rdays_cases (y m d : Int) : y < -280000 ∨ (decide (y < -280000) = false ∧ 280000 < y) ∨ (decide (y < -280000) = false ∧ decide (280000 < y) = false ∧ m < 1) ∨ (decide (y < -280000) = false ∧ decide (280000 < y) = false ∧ decide (m < 1) = false ∧ 12 < m)
    ∨ (decide (y < -280000) = false ∧ decide (280000 < y) = false ∧ decide (m < 1) = false ∧ decide (12 < m) = false ∧ d < 1) ∨ (decide (y < -280000) = false ∧ decide (280000 < y) = false ∧ decide (m < 1) = false ∧ decide (12 < m) = false ∧ decide (d < 1) = false ∧ Civ.mlen y m < d)
    ∨ (decide (y < -280000) = false ∧ decide (280000 < y) = false ∧ decide (m < 1) = false ∧ decide (12 < m) = false ∧ decide (d < 1) = false ∧ decide (Civ.mlen y m < d) = false) := by
  simp only [decide_eq_false_iff_not]; omega

theorem mlen_bd' (y m : Int) : -1 ≤ Civ.mlen y m ∧ Civ.mlen y m ≤ 31 := by have := Civ.mlen_bd y m; omega
theorem ret_of {a b c a' b' c' : Int} {k k' : Bool} (h1 : a = a') (h2 : b = b') (h3 : c = c') (h : k = k') : Ending.returned (.tuple #[.agg #[.int .i64 a, .int .i64 b, .int .i64 c], .bool k]) = .returned (.tuple #[.agg #[.int .i64 a', .int .i64 b', .int .i64 c'], .bool k']) := by rw [h1, h2, h3, h]

set_option maxHeartbeats 1000000 in
theorem of_no (n : Int) (w : World) (h : n < -100000001 ∨ 100000000 < n) :
    Rets Tryd.prog 100 #[.int .i64 n] w (.tuple #[.agg #[.int .i64 0, .int .i64 0, .int .i64 0], .bool false]) := by
  rcases h with h | h
  all_goals
    go_enter Tryd.func100, Tryd.ntmps100
    go_wp2
    exact bodyPost_ret (v := .tuple #[.agg #[.int .i64 0, .int .i64 0, .int .i64 0], .bool false]) (by simp [results, Tryd.results100, go_sem]) rfl ⟨rfl, done⟩

set_option maxHeartbeats 1000000 in
theorem of_walk (n c D y r m : Int) (w : World) (h1 : -100000001 ≤ n) (h2 : n ≤ 100000000) (hc : (n + 719468) / 146097 = c) (hD : (n + 719468) % 146097 = D)
    (hy : (D - D / 1460 + D / 36524 - D / 146096) / 365 = y) (hr : D - (365 * y + y / 4 - y / 100) = r) (hm : (5 * r + 2) / 153 = m) (y0 : 0 ≤ y) (y1 : y ≤ 399) (r0 : 0 ≤ r) (r1 : r ≤ 365)
    (a b : Int) (hab : (12 < m + 3 ∧ a = y + 400 * c + 1 ∧ b = m + 3 - 12) ∨ (¬ 12 < m + 3 ∧ a = y + 400 * c ∧ b = m + 3)) :
    Rets Tryd.prog 100 #[.int .i64 n] w (.tuple #[.agg #[.int .i64 a, .int .i64 b, .int .i64 (r - (153 * m + 2) / 5 + 1)], .bool true]) := by
  have hC : -1000 ≤ c ∧ c ≤ 1000 := by omega
  have hDb : 0 ≤ D ∧ D < 146097 := by omega
  have hM : 0 ≤ m ∧ m ≤ 11 := by omega
  obtain ⟨hM0, hM1⟩ := hM
  obtain ⟨hD0, hD1⟩ := hDb
  obtain ⟨hC0, hC1⟩ := hC
  rcases hab with ⟨h, rfl, rfl⟩ | ⟨h, rfl, rfl⟩
  all_goals
    go_enter Tryd.func100, Tryd.ntmps100
    go_wp2_with (go_at_call 103; refine Rets.use (floor_any _ _ _ (by omega) (by omega) (by omega) (by omega)) ?_; intro _)
    exact bodyPost_ret (v := .tuple #[.agg #[.int .i64 _, .int .i64 _, .int .i64 _], .bool true]) (by simp [results, Tryd.results100, go_sem]) rfl ⟨rfl, done⟩
theorem of_yes (n : Int) (w : World) (h1 : -100000001 ≤ n) (h2 : n ≤ 100000000) :
    Rets Tryd.prog 100 #[.int .i64 n] w (.tuple #[.agg #[.int .i64 (Civ.dy n), .int .i64 (Civ.dm n), .int .i64 (Civ.dd n)], .bool true]) := by
  have hb := Civ.of_bd n
  refine of_walk n (Civ.ofC n) (Civ.ofDay n) (Civ.ofY n) (Civ.ofR n) (Civ.ofM n) w h1 h2 rfl rfl rfl rfl rfl hb.1 hb.2.1 hb.2.2.1 hb.2.2.2.1 _ _ ?_
  unfold Civ.dy Civ.dm
  by_cases h : 12 < Civ.ofM n + 3
  · exact .inl ⟨h, if_pos h, if_pos h⟩
  · exact .inr ⟨h, if_neg h, if_neg h⟩
end Go.Proofs.YtcjnficcggjeiaaDoor
