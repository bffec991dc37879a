/- Walks of moments: the day on which a spot falls. -/
import Derived.Test.YtcjnficcggjeiaaDoorMomWalkP
import Derived.Test.YtcjnficcggjeiaaDoorMomPlainF
import Derived.Test.YtcjnficcggjeiaaDoorCivWalkJ
set_option linter.unusedVariables false
set_option linter.unusedSimpArgs false
namespace Go.Proofs.YtcjnficcggjeiaaDoor
open Go.RowKit

set_option maxHeartbeats 1000000 in
theorem back_any (n wd : Int) (w : World) (h1 : -1000000000 ≤ n) (h2 : n ≤ 1000000000) (h3 : 1 ≤ wd) (h4 : wd ≤ 7) : Rets Tryd.prog 94 #[.int .i64 n, .int .i64 wd] w (.int .i64 (Mom.backI n wd)) := by
  have c2 : (n + 3 - wd + 1).tmod 7 < 7 := Int.tmod_lt_of_pos _ (show (0 : Int) < 7 by omega)
  have c3 : - 7 < (n + 3 - wd + 1).tmod 7 := by have := Int.lt_tmod_of_pos (n + 3 - wd + 1) (show (0 : Int) < 7 by omega); omega
  unfold Rets
  go_enter Tryd.func94, Tryd.ntmps94
  go_wp2
  · have := tmod_neg (n + 3 - wd + 1) 7 (by omega) ‹_›
    go_ret
    exact ⟨ret_int this.2, done⟩
  · have := tmod_pos (n + 3 - wd + 1) 7 (by omega) ‹_›
    go_ret
    exact ⟨ret_int this.2, done⟩
abbrev monthA (f len : Int) : Value := .agg #[.int .i64 f, .int .i64 len]
set_option maxHeartbeats 1000000 in
theorem day_any (f len m k wd d t r : Int) (w : World) (h1 : -600000000 ≤ f) (h2 : f ≤ 600000000) (h3 : 0 ≤ d) (h4 : d ≤ 31) : Rets Tryd.prog 80 #[monthA f len, spotA m k wd d t r] w (.int .i64 (f + d - 1)) := by
  unfold Rets
  go_enter Tryd.func80, Tryd.ntmps80
  go_wp2
  go_ret
  exact ⟨rfl, done⟩
set_option maxHeartbeats 1000000 in
theorem last_any (f len m k wd d t r : Int) (w : World) (h1 : -600000000 ≤ f) (h2 : f ≤ 600000000) (h3 : 0 ≤ len) (h4 : len ≤ 31) (h5 : 1 ≤ wd) (h6 : wd ≤ 7) : Rets Tryd.prog 81 #[monthA f len, spotA m k wd d t r] w (.int .i64 (f + len - 1 - Mom.backI (f + len - 1) wd)) := by
  obtain ⟨b1, b2⟩ := Mom.back_bd (f + len - 1) wd
  have H := fun w => Lib.hid (back_any (f + len - 1) wd w (by omega) (by omega) h5 h6)
  generalize hb : Mom.backI (f + len - 1) wd = B at *
  clear hb
  unfold Rets
  go_enter Tryd.func81, Tryd.ntmps81
  go_wp2_with (go_at_call 94; refine Rets.use (H _).out ?_; intro _)
  go_ret
  exact ⟨rfl, done⟩
set_option maxHeartbeats 1000000 in
theorem after_any (f len m k wd d t r : Int) (w : World) (h1 : -600000000 ≤ f) (h2 : f ≤ 600000000) (h3 : 0 ≤ d) (h4 : d ≤ 31) (h5 : 1 ≤ wd) (h6 : wd ≤ 7) : Rets Tryd.prog 82 #[monthA f len, spotA m k wd d t r] w (.int .i64 (f + d + 5 - Mom.backI (f + d + 5) wd)) := by
  obtain ⟨b1, b2⟩ := Mom.back_bd (f + d + 5) wd
  have H := fun w => Lib.hid (back_any (f + d + 5) wd w (by omega) (by omega) h5 h6)
  generalize hb : Mom.backI (f + d + 5) wd = B at *
  clear hb
  unfold Rets
  go_enter Tryd.func82, Tryd.ntmps82
  go_wp2_with (go_at_call 94; refine Rets.use (H _).out ?_; intro _)
  go_ret
  exact ⟨rfl, done⟩
set_option maxHeartbeats 1000000 in
theorem ahead_any (f len m k wd d t r : Int) (w : World) (h1 : -600000000 ≤ f) (h2 : f ≤ 600000000) (h3 : 0 ≤ d) (h4 : d ≤ 31) (h5 : 1 ≤ wd) (h6 : wd ≤ 7) : Rets Tryd.prog 83 #[monthA f len, spotA m k wd d t r] w (.int .i64 (f + d - 1 - Mom.backI (f + d - 1) wd)) := by
  obtain ⟨b1, b2⟩ := Mom.back_bd (f + d - 1) wd
  have H := fun w => Lib.hid (back_any (f + d - 1) wd w (by omega) (by omega) h5 h6)
  generalize hb : Mom.backI (f + d - 1) wd = B at *
  clear hb
  unfold Rets
  go_enter Tryd.func83, Tryd.ntmps83
  go_wp2_with (go_at_call 94; refine Rets.use (H _).out ?_; intro _)
  go_ret
  exact ⟨rfl, done⟩
end Go.Proofs.YtcjnficcggjeiaaDoor
