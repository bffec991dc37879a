/- Walks of civil's dates and numbers. -/
import Derived.Test.YtcjnficcggjeiaaDoorCivWalk
set_option linter.unusedVariables false
set_option linter.unusedSimpArgs false
namespace Go.Proofs.YtcjnficcggjeiaaDoor
open Go.RowKit

theorem jan_bd (y : Int) (h : -1000000 ≤ y) (h' : y ≤ 1000000) : -500000000 ≤ Civ.jan y ∧ Civ.jan y ≤ 500000000 := by unfold Civ.jan; omega

theorem ret_days {a b : Int} {c d : Bool} (h : a = b) (k : c = d) : Ending.returned (.tuple #[.int .i64 a, .bool c]) = .returned (.tuple #[.int .i64 b, .bool d]) := by rw [h, k]

/-- A date's number, 0 where it is not right. -/
def dnum (y m d : Int) : Int := if Civ.okD y m d = true then Civ.num y m d else 0
theorem dnum_yes (y m d : Int) (h : Civ.okD y m d = true) : dnum y m d = Civ.num y m d := if_pos h
theorem dnum_no (y m d : Int) (h : Civ.okD y m d = false) : dnum y m d = 0 := by simp [dnum, h]
theorem num_bd (y m d : Int) (hy : -1000000 ≤ y) (hy' : y ≤ 1000000) (h1 : 1 ≤ m) (h2 : m ≤ 12) (hd : 1 ≤ d) (hd' : d ≤ 31) : -500001000 ≤ Civ.num y m d ∧ Civ.num y m d ≤ 500001000 := by
  have := jan_bd y hy hy'; have := Civ.cum_bd y m h1 (by omega); have := Civ.lp_01 y
  unfold Civ.num; omega
theorem no_year (y m d : Int) (h : y < -271821 ∨ 275760 < y) : Civ.okD y m d = false := by
  cases k : Civ.okD y m d
  · rfl
  · have := Civ.okD_year y m d k; omega
theorem no_fits (y m d : Int) (h : ¬ Civ.fits y m d) : Civ.okD y m d = false := Civ.okD_mk_no y m d fun k => h k.1

set_option maxHeartbeats 1000000 in
theorem days_any (y m d : Int) (w : World) :
    Rets Tryd.prog 79 #[.agg #[.int .i64 y, .int .i64 m, .int .i64 d]] w (.tuple #[.int .i64 (dnum y m d), .bool (Civ.okD y m d)]) := by
  by_cases c1 : y < -271821
  · have e := Lib.hid (no_year y m d (.inl c1))
    go_enter Tryd.func79, Tryd.ntmps79
    go_wp2
    refine wp_region_past (by kernel_rfl) (by kernel_rfl) ?_
    repeat (go_big_quiet_step (fail))
    refine wpQuiet_nil ?_
    intro _
    go_wp2
    go_ret2
    exact ⟨ret_days (dnum_no y m d e.out).symm e.out.symm, done⟩
  have d1 : decide (y < -271821) = false := decide_eq_false c1
  by_cases c2 : 275760 < y
  · have e := Lib.hid (no_year y m d (.inr c2))
    go_enter Tryd.func79, Tryd.ntmps79
    go_wp2
    refine wp_region_past (by kernel_rfl) (by kernel_rfl) ?_
    repeat (go_big_quiet_step (fail))
    refine wpQuiet_nil ?_
    intro _
    go_wp2
    go_ret2
    exact ⟨ret_days (dnum_no y m d e.out).symm e.out.symm, done⟩
  have d2 : decide (275760 < y) = false := decide_eq_false c2
  by_cases c3 : d < 1
  · have e := Lib.hid (no_fits y m d fun h => by have := h.2.2.1; omega)
    go_enter Tryd.func79, Tryd.ntmps79
    go_wp2
    refine wp_region_past (by kernel_rfl) (by kernel_rfl) ?_
    repeat (go_big_quiet_step (fail))
    refine wpQuiet_nil ?_
    intro _
    go_wp2
    go_ret2
    exact ⟨ret_days (dnum_no y m d e.out).symm e.out.symm, done⟩
  have d3 : decide (d < 1) = false := decide_eq_false c3
  by_cases c4 : Civ.mlen y m < d
  · have e := Lib.hid (no_fits y m d fun h => by have := h.2.2.2; omega)
    go_enter Tryd.func79, Tryd.ntmps79
    go_wp2
    refine wp_region_past (by kernel_rfl) (by kernel_rfl) ?_
    repeat (go_big_quiet_step ((go_at_call 84; exact Rets.quiet (monthlen_any _ _ _))))
    refine wpQuiet_nil ?_
    intro _
    go_wp2
    go_ret2
    exact ⟨ret_days (dnum_no y m d e.out).symm e.out.symm, done⟩
  have d4 : decide (Civ.mlen y m < d) = false := decide_eq_false c4
  have hm := Civ.mlen_in y m (by omega)
  have hm31 := Civ.mlen_bd y m
  obtain ⟨m1, m2⟩ := hm
  have hn := num_bd y m d (by omega) (by omega) m1 m2 (by omega) (by omega)
  have hf : Civ.fits y m d := ⟨m1, m2, by omega, by omega⟩
  by_cases c5 : Civ.num y m d < -100000001
  · have e := Lib.hid (Civ.okD_mk_no y m d fun k => by have := k.2.1; omega)
    clear hf
    go_enter Tryd.func79, Tryd.ntmps79
    go_wp2
    refine wp_region_past (by kernel_rfl) (by kernel_rfl) ?_
    repeat (go_big_quiet_step ((go_at_call 84; exact Rets.quiet (monthlen_any _ _ _))))
    refine wpQuiet_nil ?_
    intro _
    go_wp2_with (go_at_call 93; refine Rets.use (count_any _ _ _ _ (by omega) (by omega) (by omega) (by omega) (by omega) (by omega)) ?_; intro _)
    go_ret2
    exact ⟨ret_days (dnum_no y m d e.out).symm e.out.symm, done⟩
  by_cases c6 : 100000000 < Civ.num y m d
  · have e := Lib.hid (Civ.okD_mk_no y m d fun k => by have := k.2.2; omega)
    clear hf
    go_enter Tryd.func79, Tryd.ntmps79
    go_wp2
    refine wp_region_past (by kernel_rfl) (by kernel_rfl) ?_
    repeat (go_big_quiet_step ((go_at_call 84; exact Rets.quiet (monthlen_any _ _ _))))
    refine wpQuiet_nil ?_
    intro _
    go_wp2_with (go_at_call 93; refine Rets.use (count_any _ _ _ _ (by omega) (by omega) (by omega) (by omega) (by omega) (by omega)) ?_; intro _)
    go_ret2
    exact ⟨ret_days (dnum_no y m d e.out).symm e.out.symm, done⟩
  have e := Lib.hid (Civ.okD_mk y m d hf (by omega) (by omega))
  clear hf
  go_enter Tryd.func79, Tryd.ntmps79
  go_wp2
  refine wp_region_past (by kernel_rfl) (by kernel_rfl) ?_
  repeat (go_big_quiet_step ((go_at_call 84; exact Rets.quiet (monthlen_any _ _ _))))
  refine wpQuiet_nil ?_
  intro _
  go_wp2_with (go_at_call 93; refine Rets.use (count_any _ _ _ _ (by omega) (by omega) (by omega) (by omega) (by omega) (by omega)) ?_; intro _)
  go_ret2
  exact ⟨ret_days (dnum_yes y m d e.out).symm e.out.symm, done⟩
end Go.Proofs.YtcjnficcggjeiaaDoor
