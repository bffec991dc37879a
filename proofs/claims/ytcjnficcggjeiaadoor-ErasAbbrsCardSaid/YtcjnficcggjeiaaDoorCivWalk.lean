/- Walks of civil's small functions. -/
import Derived.Test.YtcjnficcggjeiaaDoorProg
import Derived.WalkKit
import Derived.WalkSpells
import Derived.WalkLawsBesides
import Derived.Test.YtcjnficcggjeiaaDoorPast
import Derived.Test.YtcjnficcggjeiaaDoorCivPlain
set_option linter.unusedVariables false
set_option linter.unusedSimpArgs false
namespace Go.Proofs.YtcjnficcggjeiaaDoor
open Go.RowKit

theorem down_plain (a b : Int) (hb : 1 ≤ b) : (a < a.tdiv b * b → a.tdiv b - 1 = a / b) ∧ (a.tdiv b * b ≤ a → a.tdiv b = a / b) := by
  have e1 := Int.mul_tdiv_add_tmod a b
  rw [Int.mul_comm] at e1
  exact ⟨fun h => (tmod_neg a b hb (by omega)).1, fun h => (tmod_pos a b hb (by omega)).1⟩
theorem tdiv_bd (a b : Int) (hb : 1 ≤ b) (ha : -1000000000000 ≤ a) (ha' : a ≤ 1000000000000) : -1000000000000 ≤ a.tdiv b * b ∧ a.tdiv b * b ≤ 1000000000000 ∧ -1000000000000 ≤ a.tdiv b ∧ a.tdiv b ≤ 1000000000000 := by
  have e1 := Int.mul_tdiv_add_tmod a b
  rw [Int.mul_comm] at e1
  have l2 : a.tmod b < b := Int.tmod_lt_of_pos a (show 0 < b by omega)
  have l3 : - b < a.tmod b := by
    have := Int.lt_tmod_of_pos a (show 0 < b by omega); omega
  by_cases h : 0 ≤ a
  · have h1 := Int.tmod_nonneg b h
    have h2 := Int.tdiv_nonneg h (show 0 ≤ b by omega)
    have h3 : a.tdiv b * 1 ≤ a.tdiv b * b := Int.mul_le_mul_of_nonneg_left hb h2
    omega
  · have h1 : a.tmod b ≤ 0 := by
      have := Int.tmod_nonneg b (show 0 ≤ -a by omega); rw [Int.neg_tmod] at this; omega
    have h2 : a.tdiv b ≤ 0 := by
      have := Int.tdiv_nonneg (show 0 ≤ -a by omega) (show 0 ≤ b by omega); rw [Int.neg_tdiv] at this; omega
    have h3 : a.tdiv b * b ≤ a.tdiv b * 1 := Int.mul_le_mul_of_nonpos_left h2 hb
    omega

set_option maxHeartbeats 400000 in
theorem floor_any (a b : Int) (w : World) (ha : -1000000000000 ≤ a) (ha' : a ≤ 1000000000000) (hb : 1 ≤ b) (hb' : b ≤ 1000000) :
    Rets Tryd.prog 103 #[.int .i64 a, .int .i64 b] w (.tuple #[.int .i64 (a / b), .int .i64 (a % b)]) := by
  have c := tdiv_bd a b hb ha ha'
  have c2 : a.tmod b < b := Int.tmod_lt_of_pos a (show 0 < b by omega)
  have c3 : - b < a.tmod b := by have := Int.lt_tmod_of_pos a (show 0 < b by omega); omega
  obtain ⟨_, _, c4, c5⟩ := c
  go_enter Tryd.func103, Tryd.ntmps103
  go_wp2
  refine wp_region_past (by kernel_rfl) (by kernel_rfl) ?_
  repeat (go_big_quiet_step (fail))
  refine wpQuiet_nil ?_
  intro y
  go_wp2
  · have := tmod_neg a b hb ‹_›
    go_ret2
    exact ⟨ret_int2 this.1 this.2, done⟩
  · have := tmod_pos a b hb ‹_›
    go_ret2
    exact ⟨ret_int2 this.1 this.2, done⟩

theorem leap_t (y : Int) : Civ.leapB y = ((y.tmod 4 == 0) && ((y.tmod 100 != 0) || (y.tmod 400 == 0))) := by
  unfold Civ.leapB
  have h1 := tz y 4
  have h2 := tz y 100
  have h3 := tz y 400
  by_cases a1 : y.tmod 4 = 0
  · have b1 := h1.1 a1
    by_cases a2 : y.tmod 100 = 0
    · have b2 := h2.1 a2
      by_cases a3 : y.tmod 400 = 0
      · have b3 := h3.1 a3
        simp [a1, a2, a3, b1, b2, b3]
      · have b3 : ¬ y % 400 = 0 := fun k => a3 (h3.2 k)
        simp [a1, a2, a3, b1, b2, b3]
    · have b2 : ¬ y % 100 = 0 := fun k => a2 (h2.2 k)
      simp [a1, a2, b1, b2]
  · have b1 : ¬ y % 4 = 0 := fun k => a1 (h1.2 k)
    simp [a1, b1]
theorem leap_r (y : Int) : Civ.leapB y = (if (y.tmod 400 == 0) = true then true else if (y.tmod 100 == 0) = true then false else (y.tmod 4 == 0)) := by
  unfold Civ.leapB
  have h1 := tz y 4
  have h2 := tz y 100
  have h3 := tz y 400
  by_cases a3 : y.tmod 400 = 0
  · have := h3.1 a3
    simp [a3]; omega
  · by_cases a2 : y.tmod 100 = 0
    · have := h2.1 a2
      have b3 : ¬ y % 400 = 0 := fun k => a3 (h3.2 k)
      simp [a3, a2, b3, this]
    · have b2 : ¬ y % 100 = 0 := fun k => a2 (h2.2 k)
      simp [a3, a2, b2, ← h1]
      by_cases a1 : y.tmod 4 = 0 <;> simp [a1]

set_option maxHeartbeats 400000 in
theorem leap_any (y : Int) (w : World) :
    Rets Tryd.prog 95 #[.int .i64 y] w (.bool (Civ.leapB y)) := by
  go_enter Tryd.func95, Tryd.ntmps95
  go_wp2
  all_goals (go_ret; exact ⟨ret_bool (by rw [leap_t]; simp [*]), done⟩)

theorem lens_at (y m : Int) (h1 : 1 ≤ m) (h2 : m ≤ 12) (h3 : m ≠ 2) : ([Value.int IntKind.i64 0, Value.int IntKind.i64 31, Value.int IntKind.i64 28, Value.int IntKind.i64 31, Value.int IntKind.i64 30, Value.int IntKind.i64 31, Value.int IntKind.i64 30, Value.int IntKind.i64 31, Value.int IntKind.i64 31, Value.int IntKind.i64 30, Value.int IntKind.i64 31, Value.int IntKind.i64 30, Value.int IntKind.i64 31])[m.toNat]? = some (.int .i64 (Civ.mlen y m)) := by
  rcases Civ.m12 m h1 h2 with rfl | rfl | rfl | rfl | rfl | rfl | rfl | rfl | rfl | rfl | rfl | rfl <;> first | (simp [Civ.mlen]; done) | omega

set_option maxHeartbeats 1000000 in
theorem monthlen_any (y m : Int) (w : World) :
    Rets Tryd.prog 84 #[.int .i64 y, .int .i64 m] w (.int .i64 (Civ.mlen y m)) := by
  by_cases hm : 1 ≤ m ∧ m ≤ 12 ∧ m ≠ 2
  · obtain ⟨h1, h2, h3⟩ := hm
    have hl := lens_at y m h1 h2 h3
    go_enter Tryd.func84, Tryd.ntmps84
    go_wp2
    go_ret
    exact ⟨rfl, done⟩
  · by_cases h2 : m = 2
    · subst h2
      clear hm
      go_enter Tryd.func84, Tryd.ntmps84
      go_wp2_with (go_at_call 95; refine Rets.use (leap_any _ _) ?_; intro y)
      · go_ret
        exact ⟨ret_int (by simp [Civ.mlen, Civ.lp_yes _ ‹_›]), done⟩
      · go_ret
        exact ⟨ret_int (by simp [Civ.mlen, Civ.lp_no _ ‹_›]), done⟩
    · rw [Civ.mlen_out y m (by omega)]
      have h3 : m < 1 ∨ 12 < m := by omega
      clear hm h2
      rcases h3 with h | h
      all_goals
        go_enter Tryd.func84, Tryd.ntmps84
        go_wp2
        go_ret
        exact ⟨rfl, done⟩

theorem count_late (y m d : Int) (h1 : 1 ≤ m) (h2 : m ≤ 12) (h3 : m - 3 < 0) : (y - 1) / 400 * 146097 + (y - 1) % 400 * 365 + (y - 1) % 400 / 4 - (y - 1) % 400 / 100 + (153 * (m - 3 + 12) + 2) / 5 + d - 1 - 719468 = Civ.num y m d := by
  have := Civ.count_eq y m d h1 h2; rw [if_pos h3] at this; exact this
theorem count_early (y m d : Int) (h1 : 1 ≤ m) (h2 : m ≤ 12) (h3 : ¬ m - 3 < 0) : y / 400 * 146097 + y % 400 * 365 + y % 400 / 4 - y % 400 / 100 + (153 * (m - 3) + 2) / 5 + d - 1 - 719468 = Civ.num y m d := by
  have := Civ.count_eq y m d h1 h2; rw [if_neg h3] at this; exact this

set_option maxHeartbeats 1000000 in
theorem count_any (y m d : Int) (w : World) (hy : -1000000 ≤ y) (hy' : y ≤ 1000000) (h1 : 1 ≤ m) (h2 : m ≤ 12) (hd : -1000 ≤ d) (hd' : d ≤ 1000) :
    Rets Tryd.prog 93 #[.agg #[.int .i64 y, .int .i64 m, .int .i64 d]] w (.int .i64 (Civ.num y m d)) := by
  by_cases h3 : m - 3 < 0
  · have e := Lib.hid (count_late y m d h1 h2 h3)
    go_enter Tryd.func93, Tryd.ntmps93
    go_wp2
    refine wp_region_past (by kernel_rfl) (by kernel_rfl) ?_
    repeat (go_big_quiet_step (fail))
    refine wpQuiet_nil ?_
    intro _
    go_wp2_with (go_at_call 103; refine Rets.use (floor_any _ _ _ (by omega) (by omega) (by omega) (by omega)) ?_; intro _)
    go_ret
    exact ⟨ret_int e.out, done⟩
  · have e := Lib.hid (count_early y m d h1 h2 h3)
    go_enter Tryd.func93, Tryd.ntmps93
    go_wp2
    refine wp_region_past (by kernel_rfl) (by kernel_rfl) ?_
    repeat (go_big_quiet_step (fail))
    refine wpQuiet_nil ?_
    intro _
    go_wp2_with (go_at_call 103; refine Rets.use (floor_any _ _ _ (by omega) (by omega) (by omega) (by omega)) ?_; intro _)
    go_ret
    exact ⟨ret_int e.out, done⟩
end Go.Proofs.YtcjnficcggjeiaaDoor
