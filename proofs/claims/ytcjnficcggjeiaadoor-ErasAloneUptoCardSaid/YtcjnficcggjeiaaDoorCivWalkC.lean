/- Walks of civil's small functions. -/
import Derived.Test.YtcjnficcggjeiaaDoorProg
import Derived.WalkKit
import Derived.WalkSpells
import Derived.WalkLawsBesides
import Derived.Test.YtcjnficcggjeiaaDoorPast
import Derived.Test.YtcjnficcggjeiaaDoorCivPlain
set_option linter.unusedVariables false
set_option linter.unusedSimpArgs false
namespace Go.Proofs.YtcjnficcggjeiaaDoor
open Go.RowKit

theorem down_plain (a b : Int) (hb : 1 ≤ b) : (a < a.tdiv b * b → a.tdiv b - 1 = a / b) ∧ (a.tdiv b * b ≤ a → a.tdiv b = a / b) := by
  have e1 := Int.mul_tdiv_add_tmod a b
  rw [Int.mul_comm] at e1
  exact ⟨fun h => (tmod_neg a b hb (by omega)).1, fun h => (tmod_pos a b hb (by omega)).1⟩
theorem tdiv_bd (a b : Int) (hb : 1 ≤ b) (ha : -1000000000000 ≤ a) (ha' : a ≤ 1000000000000) : -1000000000000 ≤ a.tdiv b * b ∧ a.tdiv b * b ≤ 1000000000000 ∧ -1000000000000 ≤ a.tdiv b ∧ a.tdiv b ≤ 1000000000000 := by
  have e1 := Int.mul_tdiv_add_tmod a b
  rw [Int.mul_comm] at e1
  have l2 : a.tmod b < b := Int.tmod_lt_of_pos a (show 0 < b by omega)
  have l3 : - b < a.tmod b := by
    have := Int.lt_tmod_of_pos a (show 0 < b by omega); omega
  by_cases h : 0 ≤ a
  · have h1 := Int.tmod_nonneg b h
    have h2 := Int.tdiv_nonneg h (show 0 ≤ b by omega)
    have h3 : a.tdiv b * 1 ≤ a.tdiv b * b := Int.mul_le_mul_of_nonneg_left hb h2
    omega
  · have h1 : a.tmod b ≤ 0 := by
      have := Int.tmod_nonneg b (show 0 ≤ -a by omega); rw [Int.neg_tmod] at this; omega
    have h2 : a.tdiv b ≤ 0 := by
      have := Int.tdiv_nonneg (show 0 ≤ -a by omega) (show 0 ≤ b by omega); rw [Int.neg_tdiv] at this; omega
    have h3 : a.tdiv b * b ≤ a.tdiv b * 1 := Int.mul_le_mul_of_nonpos_left h2 hb
    omega

set_option maxHeartbeats 400000 in
theorem floor_any (a b : Int) (w : World) (ha : -1000000000000 ≤ a) (ha' : a ≤ 1000000000000) (hb : 1 ≤ b) (hb' : b ≤ 1000000) :
    Rets Tryd.prog 103 #[.int .i64 a, .int .i64 b] w (.tuple #[.int .i64 (a / b), .int .i64 (a % b)]) := by
  have c := tdiv_bd a b hb ha ha'
  have c2 : a.tmod b < b := Int.tmod_lt_of_pos a (show 0 < b by omega)
  have c3 : - b < a.tmod b := by have := Int.lt_tmod_of_pos a (show 0 < b by omega); omega
  obtain ⟨_, _, c4, c5⟩ := c
  go_enter Tryd.func103, Tryd.ntmps103
  go_wp2
  refine wp_region_past (by kernel_rfl) (by kernel_rfl) ?_
  repeat (go_big_quiet_step (fail))
  refine wpQuiet_nil ?_
  intro y
  go_wp2
  · have := tmod_neg a b hb ‹_›
    go_ret2
    exact ⟨ret_int2 this.1 this.2, done⟩
  · have := tmod_pos a b hb ‹_›
    go_ret2
    exact ⟨ret_int2 this.1 this.2, done⟩

theorem leap_t (y : Int) : Civ.leapB y = ((y.tmod 4 == 0) && ((y.tmod 100 != 0) || (y.tmod 400 == 0))) := by
  unfold Civ.leapB
  have h1 := tz y 4
  have h2 := tz y 100
  have h3 := tz y 400
  by_cases a1 : y.tmod 4 = 0
  · have b1 := h1.1 a1
    by_cases a2 : y.tmod 100 = 0
    · have b2 := h2.1 a2
      by_cases a3 : y.tmod 400 = 0
      · have b3 := h3.1 a3
        simp [a1, a2, a3, b1, b2, b3]
      · have b3 : ¬ y % 400 = 0 := fun k => a3 (h3.2 k)
        simp [a1, a2, a3, b1, b2, b3]
    · have b2 : ¬ y % 100 = 0 := fun k => a2 (h2.2 k)
      simp [a1, a2, b1, b2]
  · have b1 : ¬ y % 4 = 0 := fun k => a1 (h1.2 k)
    simp [a1, b1]
theorem leap_r (y : Int) : Civ.leapB y = (if (y.tmod 400 == 0) = true then true else if (y.tmod 100 == 0) = true then false else (y.tmod 4 == 0)) := by
  unfold Civ.leapB
  have h1 := tz y 4
  have h2 := tz y 100
  have h3 := tz y 400
  by_cases a3 : y.tmod 400 = 0
  · have := h3.1 a3
    simp [a3]; omega
  · by_cases a2 : y.tmod 100 = 0
    · have := h2.1 a2
      have b3 : ¬ y % 400 = 0 := fun k => a3 (h3.2 k)
      simp [a3, a2, b3, this]
    · have b2 : ¬ y % 100 = 0 := fun k => a2 (h2.2 k)
      simp [a3, a2, b2, ← h1]
      by_cases a1 : y.tmod 4 = 0 <;> simp [a1]

set_option maxHeartbeats 400000 in
theorem leap_any (y : Int) (w : World) :
    Rets Tryd.prog 95 #[.int .i64 y] w (.bool (Civ.leapB y)) := by
  go_enter Tryd.func95, Tryd.ntmps95
  go_wp2
  all_goals (go_ret; exact ⟨ret_bool (by rw [leap_t]; simp [*]), done⟩)

theorem lens_at (y m : Int) (h1 : 1 ≤ m) (h2 : m ≤ 12) (h3 : m ≠ 2) : ([Value.int IntKind.i64 0, Value.int IntKind.i64 31, Value.int IntKind.i64 28, Value.int IntKind.i64 31, Value.int IntKind.i64 30, Value.int IntKind.i64 31, Value.int IntKind.i64 30, Value.int IntKind.i64 31, Value.int IntKind.i64 31, Value.int IntKind.i64 30, Value.int IntKind.i64 31, Value.int IntKind.i64 30, Value.int IntKind.i64 31])[m.toNat]? = some (.int .i64 (Civ.mlen y m)) := by
  rcases Civ.m12 m h1 h2 with rfl | rfl | rfl | rfl | rfl | rfl | rfl | rfl | rfl | rfl | rfl | rfl <;> first | (simp [Civ.mlen]; done) | omega

set_option maxHeartbeats 1000000 in
theorem monthlen_any (y m : Int) (w : World) :
    Rets Tryd.prog 84 #[.int .i64 y, .int .i64 m] w (.int .i64 (Civ.mlen y m)) := by
  by_cases hm : 1 ≤ m ∧ m ≤ 12 ∧ m ≠ 2
  · obtain ⟨h1, h2, h3⟩ := hm
    have hl := lens_at y m h1 h2 h3
    go_enter Tryd.func84, Tryd.ntmps84
    go_wp2
    go_ret
    exact ⟨rfl, done⟩
  · by_cases h2 : m = 2
    · subst h2
      clear hm
      go_enter Tryd.func84, Tryd.ntmps84
      go_wp2_with (go_at_call 95; refine Rets.use (leap_any _ _) ?_; intro y)
      · go_ret
        exact ⟨ret_int (by simp [Civ.mlen, Civ.lp_yes _ ‹_›]), done⟩
      · go_ret
        exact ⟨ret_int (by simp [Civ.mlen, Civ.lp_no _ ‹_›]), done⟩
    · rw [Civ.mlen_out y m (by omega)]
      have h3 : m < 1 ∨ 12 < m := by omega
      clear hm h2
      rcases h3 with h | h
      all_goals
        go_enter Tryd.func84, Tryd.ntmps84
        go_wp2
        go_ret
        exact ⟨rfl, done⟩

theorem count_late (y m d : Int) (h1 : 1 ≤ m) (h2 : m ≤ 12) (h3 : m - 3 < 0) : (y - 1) / 400 * 146097 + (y - 1) % 400 * 365 + (y - 1) % 400 / 4 - (y - 1) % 400 / 100 + (153 * (m - 3 + 12) + 2) / 5 + d - 1 - 719468 = Civ.num y m d := by
  have := Civ.count_eq y m d h1 h2; rw [if_pos h3] at this; exact this
theorem count_early (y m d : Int) (h1 : 1 ≤ m) (h2 : m ≤ 12) (h3 : ¬ m - 3 < 0) : y / 400 * 146097 + y % 400 * 365 + y % 400 / 4 - y % 400 / 100 + (153 * (m - 3) + 2) / 5 + d - 1 - 719468 = Civ.num y m d := by
  have := Civ.count_eq y m d h1 h2; rw [if_neg h3] at this; exact this

set_option maxHeartbeats 1000000 in
theorem count_any (y m d : Int) (w : World) (hy : -1000000 ≤ y) (hy' : y ≤ 1000000) (h1 : 1 ≤ m) (h2 : m ≤ 12) (hd : -1000 ≤ d) (hd' : d ≤ 1000) :
    Rets Tryd.prog 93 #[.agg #[.int .i64 y, .int .i64 m, .int .i64 d]] w (.int .i64 (Civ.num y m d)) := by
  by_cases h3 : m - 3 < 0
  · have e := Lib.hid (count_late y m d h1 h2 h3)
    go_enter Tryd.func93, Tryd.ntmps93
    go_wp2
    refine wp_region_past (by kernel_rfl) (by kernel_rfl) ?_
    repeat (go_big_quiet_step (fail))
    refine wpQuiet_nil ?_
    intro _
    go_wp2_with (go_at_call 103; refine Rets.use (floor_any _ _ _ (by omega) (by omega) (by omega) (by omega)) ?_; intro _)
    go_ret
    exact ⟨ret_int e.out, done⟩
  · have e := Lib.hid (count_early y m d h1 h2 h3)
    go_enter Tryd.func93, Tryd.ntmps93
    go_wp2
    refine wp_region_past (by kernel_rfl) (by kernel_rfl) ?_
    repeat (go_big_quiet_step (fail))
    refine wpQuiet_nil ?_
    intro _
    go_wp2_with (go_at_call 103; refine Rets.use (floor_any _ _ _ (by omega) (by omega) (by omega) (by omega)) ?_; intro _)
    go_ret
    exact ⟨ret_int e.out, done⟩
end Go.Proofs.YtcjnficcggjeiaaDoor
set_option linter.unusedVariables false
set_option linter.unusedSimpArgs false
namespace Go.Proofs.YtcjnficcggjeiaaDoor
open Go.RowKit

theorem jan_bd (y : Int) (h : -1000000 ≤ y) (h' : y ≤ 1000000) : -500000000 ≤ Civ.jan y ∧ Civ.jan y ≤ 500000000 := by unfold Civ.jan; omega

theorem ret_days {a b : Int} {c d : Bool} (h : a = b) (k : c = d) : Ending.returned (.tuple #[.int .i64 a, .bool c]) = .returned (.tuple #[.int .i64 b, .bool d]) := by rw [h, k]

/-- A date's number, 0 where it is not right. -/
def dnum (y m d : Int) : Int := if Civ.okD y m d = true then Civ.num y m d else 0
theorem dnum_yes (y m d : Int) (h : Civ.okD y m d = true) : dnum y m d = Civ.num y m d := if_pos h
theorem dnum_no (y m d : Int) (h : Civ.okD y m d = false) : dnum y m d = 0 := by simp [dnum, h]
theorem num_bd (y m d : Int) (hy : -1000000 ≤ y) (hy' : y ≤ 1000000) (h1 : 1 ≤ m) (h2 : m ≤ 12) (hd : 1 ≤ d) (hd' : d ≤ 31) : -500001000 ≤ Civ.num y m d ∧ Civ.num y m d ≤ 500001000 := by
  have := jan_bd y hy hy'; have := Civ.cum_bd y m h1 (by omega); have := Civ.lp_01 y
  unfold Civ.num; omega
theorem no_year (y m d : Int) (h : y < -271821 ∨ 275760 < y) : Civ.okD y m d = false := by
  cases k : Civ.okD y m d
  · rfl
  · have := Civ.okD_year y m d k; omega
theorem no_fits (y m d : Int) (h : ¬ Civ.fits y m d) : Civ.okD y m d = false := Civ.okD_mk_no y m d fun k => h k.1

set_option maxHeartbeats 1000000 in
theorem days_any (y m d : Int) (w : World) :
    Rets Tryd.prog 79 #[.agg #[.int .i64 y, .int .i64 m, .int .i64 d]] w (.tuple #[.int .i64 (dnum y m d), .bool (Civ.okD y m d)]) := by
  by_cases c1 : y < -271821
  · have e := Lib.hid (no_year y m d (.inl c1))
    go_enter Tryd.func79, Tryd.ntmps79
    go_wp2
    refine wp_region_past (by kernel_rfl) (by kernel_rfl) ?_
    repeat (go_big_quiet_step (fail))
    refine wpQuiet_nil ?_
    intro _
    go_wp2
    go_ret2
    exact ⟨ret_days (dnum_no y m d e.out).symm e.out.symm, done⟩
  have d1 : decide (y < -271821) = false := decide_eq_false c1
  by_cases c2 : 275760 < y
  · have e := Lib.hid (no_year y m d (.inr c2))
    go_enter Tryd.func79, Tryd.ntmps79
    go_wp2
    refine wp_region_past (by kernel_rfl) (by kernel_rfl) ?_
    repeat (go_big_quiet_step (fail))
    refine wpQuiet_nil ?_
    intro _
    go_wp2
    go_ret2
    exact ⟨ret_days (dnum_no y m d e.out).symm e.out.symm, done⟩
  have d2 : decide (275760 < y) = false := decide_eq_false c2
  by_cases c3 : d < 1
  · have e := Lib.hid (no_fits y m d fun h => by have := h.2.2.1; omega)
    go_enter Tryd.func79, Tryd.ntmps79
    go_wp2
    refine wp_region_past (by kernel_rfl) (by kernel_rfl) ?_
    repeat (go_big_quiet_step (fail))
    refine wpQuiet_nil ?_
    intro _
    go_wp2
    go_ret2
    exact ⟨ret_days (dnum_no y m d e.out).symm e.out.symm, done⟩
  have d3 : decide (d < 1) = false := decide_eq_false c3
  by_cases c4 : Civ.mlen y m < d
  · have e := Lib.hid (no_fits y m d fun h => by have := h.2.2.2; omega)
    go_enter Tryd.func79, Tryd.ntmps79
    go_wp2
    refine wp_region_past (by kernel_rfl) (by kernel_rfl) ?_
    repeat (go_big_quiet_step ((go_at_call 84; exact Rets.quiet (monthlen_any _ _ _))))
    refine wpQuiet_nil ?_
    intro _
    go_wp2
    go_ret2
    exact ⟨ret_days (dnum_no y m d e.out).symm e.out.symm, done⟩
  have d4 : decide (Civ.mlen y m < d) = false := decide_eq_false c4
  have hm := Civ.mlen_in y m (by omega)
  have hm31 := Civ.mlen_bd y m
  obtain ⟨m1, m2⟩ := hm
  have hn := num_bd y m d (by omega) (by omega) m1 m2 (by omega) (by omega)
  have hf : Civ.fits y m d := ⟨m1, m2, by omega, by omega⟩
  by_cases c5 : Civ.num y m d < -100000001
  · have e := Lib.hid (Civ.okD_mk_no y m d fun k => by have := k.2.1; omega)
    clear hf
    go_enter Tryd.func79, Tryd.ntmps79
    go_wp2
    refine wp_region_past (by kernel_rfl) (by kernel_rfl) ?_
    repeat (go_big_quiet_step ((go_at_call 84; exact Rets.quiet (monthlen_any _ _ _))))
    refine wpQuiet_nil ?_
    intro _
    go_wp2_with (go_at_call 93; refine Rets.use (count_any _ _ _ _ (by omega) (by omega) (by omega) (by omega) (by omega) (by omega)) ?_; intro _)
    go_ret2
    exact ⟨ret_days (dnum_no y m d e.out).symm e.out.symm, done⟩
  by_cases c6 : 100000000 < Civ.num y m d
  · have e := Lib.hid (Civ.okD_mk_no y m d fun k => by have := k.2.2; omega)
    clear hf
    go_enter Tryd.func79, Tryd.ntmps79
    go_wp2
    refine wp_region_past (by kernel_rfl) (by kernel_rfl) ?_
    repeat (go_big_quiet_step ((go_at_call 84; exact Rets.quiet (monthlen_any _ _ _))))
    refine wpQuiet_nil ?_
    intro _
    go_wp2_with (go_at_call 93; refine Rets.use (count_any _ _ _ _ (by omega) (by omega) (by omega) (by omega) (by omega) (by omega)) ?_; intro _)
    go_ret2
    exact ⟨ret_days (dnum_no y m d e.out).symm e.out.symm, done⟩
  have e := Lib.hid (Civ.okD_mk y m d hf (by omega) (by omega))
  clear hf
  go_enter Tryd.func79, Tryd.ntmps79
  go_wp2
  refine wp_region_past (by kernel_rfl) (by kernel_rfl) ?_
  repeat (go_big_quiet_step ((go_at_call 84; exact Rets.quiet (monthlen_any _ _ _))))
  refine wpQuiet_nil ?_
  intro _
  go_wp2_with (go_at_call 93; refine Rets.use (count_any _ _ _ _ (by omega) (by omega) (by omega) (by omega) (by omega) (by omega)) ?_; intro _)
  go_ret2
  exact ⟨ret_days (dnum_yes y m d e.out).symm e.out.symm, done⟩
end Go.Proofs.YtcjnficcggjeiaaDoor
set_option linter.unusedVariables false
set_option linter.unusedSimpArgs false
namespace Go.Proofs.YtcjnficcggjeiaaDoor
open Go.RowKit

theorem rdays_cases (y m d : Int) : y < -280000 ∨ (decide (y < -280000) = false ∧ 280000 < y) ∨ (decide (y < -280000) = false ∧ decide (280000 < y) = false ∧ m < 1) ∨ (decide (y < -280000) = false ∧ decide (280000 < y) = false ∧ decide (m < 1) = false ∧ 12 < m)
    ∨ (decide (y < -280000) = false ∧ decide (280000 < y) = false ∧ decide (m < 1) = false ∧ decide (12 < m) = false ∧ d < 1) ∨ (decide (y < -280000) = false ∧ decide (280000 < y) = false ∧ decide (m < 1) = false ∧ decide (12 < m) = false ∧ decide (d < 1) = false ∧ Civ.mlen y m < d)
    ∨ (decide (y < -280000) = false ∧ decide (280000 < y) = false ∧ decide (m < 1) = false ∧ decide (12 < m) = false ∧ decide (d < 1) = false ∧ decide (Civ.mlen y m < d) = false) := by
  simp only [decide_eq_false_iff_not]; omega

theorem mlen_bd' (y m : Int) : -1 ≤ Civ.mlen y m ∧ Civ.mlen y m ≤ 31 := by have := Civ.mlen_bd y m; omega
theorem ret_of {a b c a' b' c' : Int} {k k' : Bool} (h1 : a = a') (h2 : b = b') (h3 : c = c') (h : k = k') : Ending.returned (.tuple #[.agg #[.int .i64 a, .int .i64 b, .int .i64 c], .bool k]) = .returned (.tuple #[.agg #[.int .i64 a', .int .i64 b', .int .i64 c'], .bool k']) := by rw [h1, h2, h3, h]

set_option maxHeartbeats 1000000 in
theorem of_no (n : Int) (w : World) (h : n < -100000001 ∨ 100000000 < n) :
    Rets Tryd.prog 100 #[.int .i64 n] w (.tuple #[.agg #[.int .i64 0, .int .i64 0, .int .i64 0], .bool false]) := by
  rcases h with h | h
  all_goals
    go_enter Tryd.func100, Tryd.ntmps100
    go_wp2
    exact bodyPost_ret (v := .tuple #[.agg #[.int .i64 0, .int .i64 0, .int .i64 0], .bool false]) (by simp [results, Tryd.results100, go_sem]) rfl ⟨rfl, done⟩

set_option maxHeartbeats 1000000 in
theorem of_walk (n c D y r m : Int) (w : World) (h1 : -100000001 ≤ n) (h2 : n ≤ 100000000) (hc : (n + 719468) / 146097 = c) (hD : (n + 719468) % 146097 = D)
    (hy : (D - D / 1460 + D / 36524 - D / 146096) / 365 = y) (hr : D - (365 * y + y / 4 - y / 100) = r) (hm : (5 * r + 2) / 153 = m) (y0 : 0 ≤ y) (y1 : y ≤ 399) (r0 : 0 ≤ r) (r1 : r ≤ 365)
    (a b : Int) (hab : (12 < m + 3 ∧ a = y + 400 * c + 1 ∧ b = m + 3 - 12) ∨ (¬ 12 < m + 3 ∧ a = y + 400 * c ∧ b = m + 3)) :
    Rets Tryd.prog 100 #[.int .i64 n] w (.tuple #[.agg #[.int .i64 a, .int .i64 b, .int .i64 (r - (153 * m + 2) / 5 + 1)], .bool true]) := by
  have hC : -1000 ≤ c ∧ c ≤ 1000 := by omega
  have hDb : 0 ≤ D ∧ D < 146097 := by omega
  have hM : 0 ≤ m ∧ m ≤ 11 := by omega
  obtain ⟨hM0, hM1⟩ := hM
  obtain ⟨hD0, hD1⟩ := hDb
  obtain ⟨hC0, hC1⟩ := hC
  rcases hab with ⟨h, rfl, rfl⟩ | ⟨h, rfl, rfl⟩
  all_goals
    go_enter Tryd.func100, Tryd.ntmps100
    go_wp2_with (go_at_call 103; refine Rets.use (floor_any _ _ _ (by omega) (by omega) (by omega) (by omega)) ?_; intro _)
    exact bodyPost_ret (v := .tuple #[.agg #[.int .i64 _, .int .i64 _, .int .i64 _], .bool true]) (by simp [results, Tryd.results100, go_sem]) rfl ⟨rfl, done⟩
theorem of_yes (n : Int) (w : World) (h1 : -100000001 ≤ n) (h2 : n ≤ 100000000) :
    Rets Tryd.prog 100 #[.int .i64 n] w (.tuple #[.agg #[.int .i64 (Civ.dy n), .int .i64 (Civ.dm n), .int .i64 (Civ.dd n)], .bool true]) := by
  have hb := Civ.of_bd n
  refine of_walk n (Civ.ofC n) (Civ.ofDay n) (Civ.ofY n) (Civ.ofR n) (Civ.ofM n) w h1 h2 rfl rfl rfl rfl rfl hb.1 hb.2.1 hb.2.2.1 hb.2.2.2.1 _ _ ?_
  unfold Civ.dy Civ.dm
  by_cases h : 12 < Civ.ofM n + 3
  · exact .inl ⟨h, if_pos h, if_pos h⟩
  · exact .inr ⟨h, if_neg h, if_neg h⟩
end Go.Proofs.YtcjnficcggjeiaaDoor
