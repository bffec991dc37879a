/- Walks: Right, Weekday, alive; the law on lengths. -/
import Derived.Test.YtapdkpcbglndlaaCivWalkD
namespace Go.Proofs.Ytapdkpcbglndlaa
open Go.RowKit

set_option maxHeartbeats 1000000 in
theorem right_any (y m d : Int) (w : World) :
    Rets Try.prog 19 #[.agg #[.int .i64 y, .int .i64 m, .int .i64 d]] w (.bool (Civ.okD y m d)) := by
  go_enter Try.func19, Try.ntmps19
  go_wp2_with (go_at_call 15; refine Rets.use (days_any _ _ _ _) ?_; intro _)
  go_ret
  exact ⟨rfl, done⟩

set_option maxHeartbeats 1000000 in
theorem rright_any (y m d : Int) (w : World) :
    Rets Try.prog 37 #[.agg #[.int .i64 y, .int .i64 m, .int .i64 d]] w (.bool (Civ.okD y m d)) := by
  go_enter Try.func37, Try.ntmps37
  go_wp2_with (go_at_call 16; refine Rets.use (rdays_any _ _ _ _) ?_; intro _)
  go_ret
  exact ⟨rfl, done⟩

/-- A date's weekday, 0 where it is not right. -/
def wday (y m d : Int) : Int := if Civ.okD y m d = true then (Civ.num y m d + 3) % 7 + 1 else 0
theorem wday_yes (y m d : Int) (h : Civ.okD y m d = true) : wday y m d = (Civ.num y m d + 3) % 7 + 1 := if_pos h
theorem wday_no (y m d : Int) (h : Civ.okD y m d = false) : wday y m d = 0 := by simp [wday, h]
theorem wday_yes' (y m d : Int) (h : Civ.okD y m d = true) : wday y m d = (dnum y m d + 3) % 7 + 1 := by rw [wday_yes y m d h, dnum_yes y m d h]
theorem dnum_bd (y m d : Int) : -100000001 ≤ dnum y m d ∧ dnum y m d ≤ 100000000 := by
  cases h : Civ.okD y m d
  · rw [dnum_no y m d h]; omega
  · rw [dnum_yes y m d h]; have := Civ.okD_yes y m d h; omega

set_option maxHeartbeats 1000000 in
theorem weekday_any (y m d : Int) (w : World) :
    Rets Try.prog 24 #[.agg #[.int .i64 y, .int .i64 m, .int .i64 d]] w (.int .i64 (wday y m d)) := by
  obtain ⟨b1, b2⟩ := dnum_bd y m d
  cases h : Civ.okD y m d
  · have e := Lib.hid (wday_no y m d h)
    go_enter Try.func24, Try.ntmps24
    go_wp2_with (go_at_call 15; refine Rets.use (days_any _ _ _ _) ?_; intro _)
    go_ret
    exact ⟨ret_int e.out.symm, done⟩
  · have e := Lib.hid (wday_yes' y m d h)
    go_enter Try.func24, Try.ntmps24
    go_wp2_with (first | (go_at_call 15; refine Rets.use (days_any _ _ _ _) ?_; intro _) | (go_at_call 34; refine Rets.use1 (floor_any _ _ _ (by omega) (by omega) (by omega) (by omega)) ?_; intro _))
    go_ret
    exact ⟨ret_int e.out.symm, done⟩

set_option maxHeartbeats 1000000 in
theorem rweekday_any (y m d : Int) (w : World) :
    Rets Try.prog 25 #[.agg #[.int .i64 y, .int .i64 m, .int .i64 d]] w (.int .i64 (wday y m d)) := by
  obtain ⟨b1, b2⟩ := dnum_bd y m d
  cases h : Civ.okD y m d
  · have e := Lib.hid (wday_no y m d h)
    go_enter Try.func25, Try.ntmps25
    go_wp2_with (go_at_call 16; refine Rets.use (rdays_any _ _ _ _) ?_; intro _)
    go_ret
    exact ⟨ret_int e.out.symm, done⟩
  · have e := Lib.hid (wday_yes' y m d h)
    go_enter Try.func25, Try.ntmps25
    go_wp2_with (first | (go_at_call 16; refine Rets.use (rdays_any _ _ _ _) ?_; intro _) | (go_at_call 35; refine Rets.use1 (down_any _ _ _ (by omega) (by omega) (by omega) (by omega)) ?_; intro _))
    go_ret
    exact ⟨ret_int (by rw [e.out]; omega), done⟩

theorem days_2000 (w : World) : Rets Try.prog 15 #[.agg #[.int .i64 2000, .int .i64 3, .int .i64 1]] w (.tuple #[.int .i64 11017, .bool true]) := by
  have := days_any 2000 3 1 w
  rw [show dnum 2000 3 1 = 11017 from by decide, show Civ.okD 2000 3 1 = true from by decide] at this
  exact this
theorem of_m1 (w : World) : Rets Try.prog 17 #[.int .i64 (-1)] w (.tuple #[.agg #[.int .i64 1969, .int .i64 12, .int .i64 31], .bool true]) := by
  have := of_yes (-1) w (by omega) (by omega)
  rw [show Civ.dy (-1) = 1969 from by decide, show Civ.dm (-1) = 12 from by decide, show Civ.dd (-1) = 31 from by decide] at this
  exact this
theorem month_2000 (w : World) : Rets Try.prog 13 #[.int .i64 2000, .int .i64 2] w (.int .i64 29) := by
  have := monthlen_any 2000 2 w
  rw [show Civ.mlen 2000 2 = 29 from by decide] at this
  exact this
theorem weekday_1969 (w : World) : Rets Try.prog 24 #[.agg #[.int .i64 1969, .int .i64 12, .int .i64 31]] w (.int .i64 3) := by
  have := weekday_any 1969 12 31 w
  rw [show wday 1969 12 31 = 3 from by decide] at this
  exact this

set_option maxHeartbeats 1000000 in
theorem alive_any (w : World) : Rets Try.prog 10 #[] w (.bool true) := by
  go_enter Try.func10, Try.ntmps10
  go_wp2_with (first
    | (go_at_call 15; refine Rets.use (days_2000 _) ?_; intro _)
    | (go_at_call 17; refine Rets.use1 (of_m1 _) ?_; intro _)
    | (go_at_call 13; refine Rets.use (month_2000 _) ?_; intro _)
    | (go_at_call 24; refine Rets.use1 (weekday_1969 _) ?_; intro _))
  go_ret
  exact ⟨rfl, done⟩

set_option maxHeartbeats 1000000 in
theorem lengths_any (y m : Int) (w : World) : Rets Try.prog 3 #[.int .i64 y, .int .i64 m] w (.bool true) := by
  go_enter Try.func3, Try.ntmps3
  go_wp2_with (first
    | (go_at_call 10; refine Rets.use (alive_any _) ?_; intro _)
    | (go_at_call 11; refine Rets.use1 (leap_any _ _) ?_; intro _)
    | (go_at_call 12; refine Rets.use1 (rleap_any _ _) ?_; intro _)
    | (go_at_call 13; refine Rets.use1 (monthlen_any _ _ _) ?_; intro _)
    | (go_at_call 14; refine Rets.use1 (month_any _ _ _) ?_; intro _))
  go_ret
  exact ⟨rfl, done⟩
end Go.Proofs.Ytapdkpcbglndlaa
