/- Walks: the laws on counts, weeks, adds. -/
import Derived.Test.YtapdkpcbglndlaaCivWalkJ
namespace Go.Proofs.Ytapdkpcbglndlaa
open Go.RowKit

set_option maxHeartbeats 2000000 in
theorem counts_any (y m d n : Int) (w : World) : Rets Try.prog 4 #[.agg #[.int .i64 y, .int .i64 m, .int .i64 d], .int .i64 n] w (.bool true) := by
  go_enter Try.func4, Try.ntmps4
  go_wp2_with (first
    | (go_at_call 15; refine Rets.use (days_any _ _ _ _) ?_; intro _)
    | (go_at_call 16; refine Rets.use1 (rdays_any _ _ _ _) ?_; intro _)
    | (go_at_call 17; refine Rets.use1 (of_any _ _) ?_; intro _)
    | (go_at_call 18; refine Rets.use (rof_any _ _) ?_; intro _)
    | (go_at_call 10; refine Rets.use (alive_any _) ?_; intro _)
    | (go_at_call 19; refine Rets.use1 (right_any _ _ _ _) ?_; intro _))
  go_ret
  exact ⟨rfl, done⟩

set_option maxHeartbeats 2000000 in
theorem weeks_any (y m d : Int) (w : World) : Rets Try.prog 6 #[.agg #[.int .i64 y, .int .i64 m, .int .i64 d]] w (.bool true) := by
  go_enter Try.func6, Try.ntmps6
  go_wp2_with (first
    | (go_at_call 22; refine Rets.use (week_any _ _ _ _) ?_; intro _)
    | (go_at_call 23; refine Rets.use1 (rweek_any _ _ _ _) ?_; intro _))
  refine wp_region_past1 (by kernel_rfl) (by kernel_rfl) ?_
  repeat (go_big_quiet_step ((first
    | (go_at_call 10; exact Rets.quiet (alive_any _))
    | (go_at_call 24; exact Rets.quiet (weekday_any _ _ _ _))
    | (go_at_call 25; exact Rets.quiet (rweekday_any _ _ _ _))
    | (go_at_call 26; exact Rets.quiet (doy_any _ _ _ _))
    | (go_at_call 27; exact Rets.quiet (rdoy_any _ _ _ _)))))
  refine wpQuiet_nil ?_
  intro _
  go_wp2
  go_ret
  exact ⟨rfl, done⟩

set_option maxHeartbeats 2000000 in
theorem adds_any (y m d n y' m' d' : Int) (w : World) : Rets Try.prog 8 #[.agg #[.int .i64 y, .int .i64 m, .int .i64 d], .int .i64 n, .agg #[.int .i64 y', .int .i64 m', .int .i64 d']] w (.bool true) := by
  obtain ⟨b1, b2⟩ := addE_bd y m d n
  go_enter Try.func8, Try.ntmps8
  go_wp2_with (first
    | (go_at_call 28; refine Rets.use (add_any _ _ _ _ _) ?_; intro _)
    | (go_at_call 29; refine Rets.use (radd_any _ _ _ _ _) ?_; intro _))
  refine wp_region_past (by kernel_rfl) (by kernel_rfl) ?_
  repeat (go_big_quiet_step ((first
    | (go_at_call 10; exact Rets.quiet (alive_any _))
    | (go_at_call 30; exact Rets.quiet (cmp_any _ _ _ _ _ _ _))
    | (go_at_call 31; exact Rets.quiet (rcmp_any _ _ _ _ _ _ _)))))
  refine wpQuiet_nil ?_
  intro _
  go_wp2
  go_ret
  exact ⟨rfl, done⟩
end Go.Proofs.Ytapdkpcbglndlaa
