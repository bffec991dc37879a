/- Walks: the reference's number of a date; both dates of a number. -/
import Derived.Test.YtodcgalcpnckaaaCivWalkB
set_option linter.unusedVariables false
set_option linter.unusedSimpArgs false
namespace Go.Proofs.Ytodcgalcpnckaaa
open Go.RowKit

theorem rdays_cases (y m d : Int) : y < -280000 ∨ (decide (y < -280000) = false ∧ 280000 < y) ∨ (decide (y < -280000) = false ∧ decide (280000 < y) = false ∧ m < 1) ∨ (decide (y < -280000) = false ∧ decide (280000 < y) = false ∧ decide (m < 1) = false ∧ 12 < m)
    ∨ (decide (y < -280000) = false ∧ decide (280000 < y) = false ∧ decide (m < 1) = false ∧ decide (12 < m) = false ∧ d < 1) ∨ (decide (y < -280000) = false ∧ decide (280000 < y) = false ∧ decide (m < 1) = false ∧ decide (12 < m) = false ∧ decide (d < 1) = false ∧ Civ.mlen y m < d)
    ∨ (decide (y < -280000) = false ∧ decide (280000 < y) = false ∧ decide (m < 1) = false ∧ decide (12 < m) = false ∧ decide (d < 1) = false ∧ decide (Civ.mlen y m < d) = false) := by
  simp only [decide_eq_false_iff_not]; omega

theorem mlen_bd' (y m : Int) : -1 ≤ Civ.mlen y m ∧ Civ.mlen y m ≤ 31 := by have := Civ.mlen_bd y m; omega
set_option maxHeartbeats 4000000 in
theorem rdays_any (y m d : Int) (w : World) :
    Rets Try.prog 71 #[.agg #[.int .i64 y, .int .i64 m, .int .i64 d]] w (.tuple #[.int .i64 (dnum y m d), .bool (Civ.okD y m d)]) := by
  by_cases hok : y < -280000 ∨ 280000 < y ∨ ¬ Civ.fits y m d
  · have e : Hid (Civ.okD y m d = false) := by
      rcases hok with h | h | h
      · exact no_year y m d (by omega)
      · exact no_year y m d (by omega)
      · exact no_fits y m d h
    have hc := rdays_cases y m d
    have hlast : ¬ (decide (y < -280000) = false ∧ decide (280000 < y) = false ∧ decide (m < 1) = false ∧ decide (12 < m) = false ∧ decide (d < 1) = false ∧ decide (Civ.mlen y m < d) = false) := by
      simp only [decide_eq_false_iff_not]
      unfold Civ.fits at hok
      omega
    clear hok
    rcases hc with c1 | ⟨d1, c1⟩ | ⟨d1, d2, c1⟩ | ⟨d1, d2, d3, c1⟩ | ⟨d1, d2, d3, d4, c1⟩ | ⟨d1, d2, d3, d4, d5, c1⟩ | hx
    rotate_right
    · exact absurd hx hlast
    all_goals
      clear hlast
      go_enter Try.func71, Try.ntmps71
      go_wp2
      refine wp_region_past (by kernel_rfl) (by kernel_rfl) ?_
      repeat (go_big_quiet_step ((go_at_call 56; exact Rets.quiet (rmlen_any _ _ _))))
      refine wpQuiet_nil ?_
      intro _
      go_wp2
      go_ret2
      exact ⟨ret_days (dnum_no y m d e.out).symm e.out.symm, done⟩
  · have hy : ¬ y < -280000 := fun h => hok (.inl h)
    have hy' : ¬ 280000 < y := fun h => hok (.inr (.inl h))
    have hf : Civ.fits y m d := Classical.byContradiction fun h => hok (.inr (.inr h))
    clear hok
    obtain ⟨f1, f2, f3, f4⟩ := hf
    have d1 : decide (y < -280000) = false := decide_eq_false hy
    have d2 : decide (280000 < y) = false := decide_eq_false hy'
    have d3 : decide (m < 1) = false := decide_eq_false (by omega)
    have d4 : decide (12 < m) = false := decide_eq_false (by omega)
    have d5 : decide (d < 1) = false := decide_eq_false (by omega)
    have d6 : decide (Civ.mlen y m < d) = false := decide_eq_false (by omega)
    have hb := Civ.mlen_bd y m
    have hj := jan_bd y (by omega) (by omega)
    have hn := num_bd y m d (by omega) (by omega) f1 f2 (by omega) (by omega)
    go_enter Try.func71, Try.ntmps71
    go_wp2
    refine wp_region_past (by kernel_rfl) (by kernel_rfl) ?_
    repeat (go_big_quiet_step ((go_at_call 56; exact Rets.quiet (rmlen_any _ _ _))))
    refine wpQuiet_nil ?_
    intro _
    go_wp2_with (go_at_call 76; refine Rets.use (january_any _ _ (by omega) (by omega)) ?_; intro _)
    go_loopw [4, 5] (fun n k wr => ∃ i : Int, 1 ≤ i ∧ i ≤ m ∧ k = .int .i64 i ∧ n = .int .i64 (Civ.jan y + Civ.cum y i) ∧ Ext (w.alloc (.cells #[.int .i64 y, .int .i64 m, .int .i64 d] 58)) wr) (fun _ k _ => (m - intOf k).toNat)
    case atStart => exact ⟨1, by omega, by omega, rfl, by rw [Civ.cum_1]; simp, Ext.past (Ext.past (Ext.refl _) _) _⟩
    case round =>
      obtain ⟨i, h1, h2, rfl, rfl, hx⟩ := hrel
      obtain ⟨yr, rfl⟩ := fin hx
      clear hx
      have hcb := Civ.cum_bd y i h1 (by omega)
      have hl := Civ.lp_01 y
      have hmi := Civ.mlen_bd y i
      by_cases h3 : i < m
      · have hs := Lib.hid (Civ.cum_succ y i h1 (by omega))
        go_wp2_with (go_at_call 56; refine Rets.use (rmlen_any _ _ _) ?_; intro _)
        go_roundw
        case rel => exact ⟨i + 1, by omega, by omega, rfl, by rw [hs.out]; congr 1; omega, Ext.past yr.hb _⟩
        case measure => simp [intOf]; omega
      · obtain rfl : i = m := by omega
        clear hcb hl hmi h3
        have hn' : -500001000 ≤ Civ.jan y + Civ.cum y i + d - 1 ∧ Civ.jan y + Civ.cum y i + d - 1 ≤ 500001000 := hn
        clear hn
        by_cases c5 : Civ.jan y + Civ.cum y i + d - 1 < -100000001
        · have e := Lib.hid (Civ.okD_mk_no y i d fun k => by have := k.2.1; unfold Civ.num at this; omega)
          go_wp2
          go_ret2
          exact ⟨ret_days (dnum_no y i d e.out).symm e.out.symm, done⟩
        by_cases c6 : 100000000 < Civ.jan y + Civ.cum y i + d - 1
        · have e := Lib.hid (Civ.okD_mk_no y i d fun k => by have := k.2.2; unfold Civ.num at this; omega)
          go_wp2
          go_ret2
          exact ⟨ret_days (dnum_no y i d e.out).symm e.out.symm, done⟩
        have e := Lib.hid (Civ.okD_mk y i d ⟨f1, f2, f3, f4⟩ (by unfold Civ.num; omega) (by unfold Civ.num; omega))
        go_wp2
        go_ret2
        exact ⟨ret_days (dnum_yes y i d e.out).symm e.out.symm, done⟩

theorem ret_of {a b c a' b' c' : Int} {k k' : Bool} (h1 : a = a') (h2 : b = b') (h3 : c = c') (h : k = k') : Ending.returned (.tuple #[.agg #[.int .i64 a, .int .i64 b, .int .i64 c], .bool k]) = .returned (.tuple #[.agg #[.int .i64 a', .int .i64 b', .int .i64 c'], .bool k']) := by rw [h1, h2, h3, h]

set_option maxHeartbeats 1000000 in
theorem of_no (n : Int) (w : World) (h : n < -100000001 ∨ 100000000 < n) :
    Rets Try.prog 52 #[.int .i64 n] w (.tuple #[.agg #[.int .i64 0, .int .i64 0, .int .i64 0], .bool false]) := by
  rcases h with h | h
  all_goals
    go_enter Try.func52, Try.ntmps52
    go_wp2
    exact bodyPost_ret (v := .tuple #[.agg #[.int .i64 0, .int .i64 0, .int .i64 0], .bool false]) (by simp [results, Try.results52, go_sem]) rfl ⟨rfl, done⟩

set_option maxHeartbeats 1000000 in
theorem rof_no (n : Int) (w : World) (h : n < -100000001 ∨ 100000000 < n) :
    Rets Try.prog 41 #[.int .i64 n] w (.tuple #[.agg #[.int .i64 0, .int .i64 0, .int .i64 0], .bool false]) := by
  rcases h with h | h
  all_goals
    go_enter Try.func41, Try.ntmps41
    go_wp2
    exact bodyPost_ret (v := .tuple #[.agg #[.int .i64 0, .int .i64 0, .int .i64 0], .bool false]) (by simp [results, Try.results41, go_sem]) rfl ⟨rfl, done⟩

set_option maxHeartbeats 1000000 in
theorem of_walk (n c D y r m : Int) (w : World) (h1 : -100000001 ≤ n) (h2 : n ≤ 100000000) (hc : (n + 719468) / 146097 = c) (hD : (n + 719468) % 146097 = D)
    (hy : (D - D / 1460 + D / 36524 - D / 146096) / 365 = y) (hr : D - (365 * y + y / 4 - y / 100) = r) (hm : (5 * r + 2) / 153 = m) (y0 : 0 ≤ y) (y1 : y ≤ 399) (r0 : 0 ≤ r) (r1 : r ≤ 365)
    (a b : Int) (hab : (12 < m + 3 ∧ a = y + 400 * c + 1 ∧ b = m + 3 - 12) ∨ (¬ 12 < m + 3 ∧ a = y + 400 * c ∧ b = m + 3)) :
    Rets Try.prog 52 #[.int .i64 n] w (.tuple #[.agg #[.int .i64 a, .int .i64 b, .int .i64 (r - (153 * m + 2) / 5 + 1)], .bool true]) := by
  have hC : -1000 ≤ c ∧ c ≤ 1000 := by omega
  have hDb : 0 ≤ D ∧ D < 146097 := by omega
  have hM : 0 ≤ m ∧ m ≤ 11 := by omega
  obtain ⟨hM0, hM1⟩ := hM
  obtain ⟨hD0, hD1⟩ := hDb
  obtain ⟨hC0, hC1⟩ := hC
  rcases hab with ⟨h, rfl, rfl⟩ | ⟨h, rfl, rfl⟩
  all_goals
    go_enter Try.func52, Try.ntmps52
    go_wp2_with (go_at_call 62; refine Rets.use (floor_any _ _ _ (by omega) (by omega) (by omega) (by omega)) ?_; intro _)
    exact bodyPost_ret (v := .tuple #[.agg #[.int .i64 _, .int .i64 _, .int .i64 _], .bool true]) (by simp [results, Try.results52, go_sem]) rfl ⟨rfl, done⟩
theorem of_yes (n : Int) (w : World) (h1 : -100000001 ≤ n) (h2 : n ≤ 100000000) :
    Rets Try.prog 52 #[.int .i64 n] w (.tuple #[.agg #[.int .i64 (Civ.dy n), .int .i64 (Civ.dm n), .int .i64 (Civ.dd n)], .bool true]) := by
  have hb := Civ.of_bd n
  refine of_walk n (Civ.ofC n) (Civ.ofDay n) (Civ.ofY n) (Civ.ofR n) (Civ.ofM n) w h1 h2 rfl rfl rfl rfl rfl hb.1 hb.2.1 hb.2.2.1 hb.2.2.2.1 _ _ ?_
  unfold Civ.dy Civ.dm
  by_cases h : 12 < Civ.ofM n + 3
  · exact .inl ⟨h, if_pos h, if_pos h⟩
  · exact .inr ⟨h, if_neg h, if_neg h⟩
end Go.Proofs.Ytodcgalcpnckaaa
