/- Walks: Right, Weekday, alive; the law on lengths. -/
import Derived.Test.YtgnjmejmngljjaaCivWalkD
set_option linter.unusedVariables false
set_option linter.unusedSimpArgs false
namespace Go.Proofs.Ytgnjmejmngljjaa
open Go.RowKit

/-- A date's weekday, 0 where it is not right. -/
def wday (y m d : Int) : Int := if Civ.okD y m d = true then (Civ.num y m d + 3) % 7 + 1 else 0
theorem wday_yes (y m d : Int) (h : Civ.okD y m d = true) : wday y m d = (Civ.num y m d + 3) % 7 + 1 := if_pos h
theorem wday_no (y m d : Int) (h : Civ.okD y m d = false) : wday y m d = 0 := by simp [wday, h]
theorem wday_yes' (y m d : Int) (h : Civ.okD y m d = true) : wday y m d = (dnum y m d + 3) % 7 + 1 := by rw [wday_yes y m d h, dnum_yes y m d h]
theorem dnum_bd (y m d : Int) : -100000001 ≤ dnum y m d ∧ dnum y m d ≤ 100000000 := by
  cases h : Civ.okD y m d
  · rw [dnum_no y m d h]; omega
  · rw [dnum_yes y m d h]; have := Civ.okD_yes y m d h; omega

set_option maxHeartbeats 1000000 in
theorem cwday_any (y m d : Int) (w : World) :
    Rets Try.prog 27 #[.agg #[.int .i64 y, .int .i64 m, .int .i64 d]] w (.int .i64 (wday y m d)) := by
  obtain ⟨b1, b2⟩ := dnum_bd y m d
  cases h : Civ.okD y m d
  · have e := Lib.hid (wday_no y m d h)
    go_enter Try.func27, Try.ntmps27
    go_wp2_with (go_at_call 41; refine Rets.use (days_any _ _ _ _) ?_; intro _)
    go_ret
    exact ⟨ret_int e.out.symm, done⟩
  · have e := Lib.hid (wday_yes' y m d h)
    go_enter Try.func27, Try.ntmps27
    go_wp2_with (first | (go_at_call 41; refine Rets.use (days_any _ _ _ _) ?_; intro _) | (go_at_call 51; refine Rets.use1 (floor_any _ _ _ (by omega) (by omega) (by omega) (by omega)) ?_; intro _))
    go_ret
    exact ⟨ret_int e.out.symm, done⟩

theorem days_2000 (w : World) : Rets Try.prog 41 #[.agg #[.int .i64 2000, .int .i64 3, .int .i64 1]] w (.tuple #[.int .i64 11017, .bool true]) := by
  have := days_any 2000 3 1 w
  rw [show dnum 2000 3 1 = 11017 from by decide, show Civ.okD 2000 3 1 = true from by decide] at this
  exact this
theorem of_m1 (w : World) : Rets Try.prog 26 #[.int .i64 (-1)] w (.tuple #[.agg #[.int .i64 1969, .int .i64 12, .int .i64 31], .bool true]) := by
  have := of_yes (-1) w (by omega) (by omega)
  rw [show Civ.dy (-1) = 1969 from by decide, show Civ.dm (-1) = 12 from by decide, show Civ.dd (-1) = 31 from by decide] at this
  exact this
theorem month_2000 (w : World) : Rets Try.prog 28 #[.int .i64 2000, .int .i64 2] w (.int .i64 29) := by
  have := monthlen_any 2000 2 w
  rw [show Civ.mlen 2000 2 = 29 from by decide] at this
  exact this
theorem weekday_1969 (w : World) : Rets Try.prog 27 #[.agg #[.int .i64 1969, .int .i64 12, .int .i64 31]] w (.int .i64 3) := by
  have := cwday_any 1969 12 31 w
  rw [show wday 1969 12 31 = 3 from by decide] at this
  exact this

end Go.Proofs.Ytgnjmejmngljjaa
