/- Walks: the day of the year, the ISO week, of both texts. -/
import Derived.Test.YtapdkpcbglndlaaCivWalkG
namespace Go.Proofs.Ytapdkpcbglndlaa
open Go.RowKit

def doy (y m d : Int) : Int := if Civ.okD y m d = true then Civ.num y m d - Civ.jan y + 1 else 0
theorem doy_yes (y m d : Int) (h : Civ.okD y m d = true) : doy y m d = Civ.num y m d - Civ.jan y + 1 := if_pos h
theorem doy_no (y m d : Int) (h : Civ.okD y m d = false) : doy y m d = 0 := by simp [doy, h]
theorem num_first (y : Int) : Civ.num y 1 1 = Civ.jan y := by unfold Civ.num; rw [Civ.cum_1]; omega
theorem rets_eq {P : Program} {f : FuncId} {args : Array Value} {w : World} {v v' : Value} (h : Rets P f args w v) (e : v = v') : Rets P f args w v' := e ▸ h
/-- What is known of a right date. -/
theorem right_bds (y m d : Int) (h : Civ.okD y m d = true) : -271821 ≤ y ∧ y ≤ 275760 ∧ 1 ≤ m ∧ m ≤ 12 ∧ 1 ≤ d ∧ d ≤ 31 ∧ -100000001 ≤ Civ.num y m d ∧ Civ.num y m d ≤ 100000000 ∧ Civ.jan y ≤ Civ.num y m d ∧ Civ.num y m d ≤ Civ.jan y + 365 := by
  obtain ⟨⟨f1, f2, f3, f4⟩, a, b⟩ := Civ.okD_yes y m d h
  have hy := Civ.okD_year y m d h
  have hm := Civ.mlen_bd y m
  have hn := Civ.num_year y m d ⟨f1, f2, f3, f4⟩
  have hl := Civ.lp_01 y
  rw [Civ.jan_succ] at hn
  omega

set_option maxHeartbeats 1000000 in
theorem doy_any (y m d : Int) (w : World) : Rets Try.prog 26 #[.agg #[.int .i64 y, .int .i64 m, .int .i64 d]] w (.int .i64 (doy y m d)) := by
  cases hk : Civ.okD y m d
  · have e := Lib.hid (doy_no y m d hk)
    go_enter Try.func26, Try.ntmps26
    go_wp2_with (go_at_call 19; refine Rets.use (right_any _ _ _ _) ?_; intro _)
    go_ret
    exact ⟨ret_int e.out.symm, done⟩
  · have e := Lib.hid (doy_yes y m d hk)
    obtain ⟨y1, y2, m1, m2, d1, d2, n1, n2, n3, n4⟩ := right_bds y m d hk
    have hj := jan_bd y (by omega) (by omega)
    have hf := num_first y
    have hf1 : -500000000 ≤ Civ.num y 1 1 := by omega
    have hf2 : Civ.num y 1 1 ≤ 500000000 := by omega
    have hf := Lib.hid hf
    clear hj
    go_enter Try.func26, Try.ntmps26
    go_wp2_with (go_at_call 19; refine Rets.use (right_any _ _ _ _) ?_; intro _)
    refine wp_region_past1 (by kernel_rfl) (by kernel_rfl) ?_
    repeat (go_big_quiet_step ((go_at_call 32; exact Rets.quiet (count_any _ _ _ _ (by omega) (by omega) (by omega) (by omega) (by omega) (by omega)))))
    refine wpQuiet_nil ?_
    intro _
    go_wp2
    go_ret
    exact ⟨ret_int (e.out.symm), done⟩

set_option maxHeartbeats 1000000 in
theorem rdoy_any (y m d : Int) (w : World) : Rets Try.prog 27 #[.agg #[.int .i64 y, .int .i64 m, .int .i64 d]] w (.int .i64 (doy y m d)) := by
  cases hk : Civ.okD y m d
  · have e := Lib.hid (doy_no y m d hk)
    go_enter Try.func27, Try.ntmps27
    go_wp2_with (go_at_call 16; refine Rets.use (rdays_any _ _ _ _) ?_; intro _)
    go_ret
    exact ⟨ret_int e.out.symm, done⟩
  · have e := Lib.hid (doy_yes y m d hk)
    obtain ⟨y1, y2, m1, m2, d1, d2, n1, n2, n3, n4⟩ := right_bds y m d hk
    have hj := jan_bd y (by omega) (by omega)
    have en := Lib.hid (dnum_yes y m d hk)
    obtain ⟨q1, q2⟩ := dnum_bd y m d
    obtain ⟨j1, j2⟩ := hj
    go_enter Try.func27, Try.ntmps27
    go_wp2_with (first | (go_at_call 16; refine Rets.use (rdays_any _ _ _ _) ?_; intro _) | (go_at_call 33; refine Rets.use1 (january_any _ _ (by omega) (by omega)) ?_; intro _))
    go_ret
    exact ⟨ret_int (by rw [e.out, en.out]), done⟩

/-- The week's year, out of its Thursday. -/
def thY (y th : Int) : Int := if th < Civ.jan y then y - 1 else if Civ.jan (y + 1) ≤ th then y + 1 else y
def thN (y th : Int) : Int := (th - Civ.jan (thY y th)) / 7 + 1
def thurs (y m d : Int) : Int := Civ.num y m d + 4 - wday y m d
def wkY (y m d : Int) : Int := if Civ.okD y m d = true then thY y (thurs y m d) else 0
def wkN (y m d : Int) : Int := if Civ.okD y m d = true then thN y (thurs y m d) else 0
theorem wday_bd (y m d : Int) (h : Civ.okD y m d = true) : 1 ≤ wday y m d ∧ wday y m d ≤ 7 := by rw [wday_yes y m d h]; omega
theorem wk_no (y m d : Int) (h : Civ.okD y m d = false) : wkY y m d = 0 ∧ wkN y m d = 0 := by simp [wkY, wkN, h]

set_option maxHeartbeats 1000000 in
theorem week_any (y m d : Int) (w : World) : Rets Try.prog 22 #[.agg #[.int .i64 y, .int .i64 m, .int .i64 d]] w (.tuple #[.int .i64 (wkY y m d), .int .i64 (wkN y m d)]) := by
  cases hk : Civ.okD y m d
  · have e := Lib.hid (wk_no y m d hk)
    have e0 := wday_no y m d hk
    go_enter Try.func22, Try.ntmps22
    go_wp2_with (go_at_call 24; refine Rets.use (weekday_any _ _ _ _) ?_; intro _)
    go_ret2
    exact ⟨ret_int2 e.out.1.symm e.out.2.symm, done⟩
  · have eY : Hid (wkY y m d = thY y (thurs y m d)) := if_pos hk
    have eN : Hid (wkN y m d = thN y (thurs y m d)) := if_pos hk
    have eT : Hid (thurs y m d = Civ.num y m d + 4 - wday y m d) := rfl
    have eD := Lib.hid (doy_yes y m d hk)
    obtain ⟨y1, y2, m1, m2, d1, d2, n1, n2, n3, n4⟩ := right_bds y m d hk
    obtain ⟨b1, b2⟩ := wday_bd y m d hk
    have hw0 : (wday y m d == 0) = false := beq_eq_false_iff_ne.2 (by omega)
    have hl := Civ.lp_01 y
    have hl1 := Civ.lp_01 (y - 1)
    have hs := Lib.hid (Civ.jan_succ y)
    have hp : Hid (Civ.jan y = Civ.jan (y - 1) + 365 + Civ.lp (y - 1)) := by show _ = _; have := Civ.jan_succ (y - 1); rw [show y - 1 + 1 = y by omega] at this; exact this
    have hdb : 1 ≤ doy y m d ∧ doy y m d ≤ 366 := by rw [eD.out]; omega
    obtain ⟨db1, db2⟩ := hdb
    by_cases c1 : doy y m d + 4 - wday y m d < 1
    · have hY : Hid (thY y (thurs y m d) = y - 1) := by show _ = _; unfold thY; rw [if_pos]; rw [eT.out]; rw [eD.out] at c1; omega
      have hN : Hid (thN y (thurs y m d) = (doy y m d + 4 - wday y m d + (365 + Civ.lp (y - 1)) - 1) / 7 + 1) := by show _ = _; unfold thN; rw [hY.out, eT.out, eD.out]; have := hp.out; congr 2; omega
      go_enter Try.func22, Try.ntmps22
      go_wp2_with (go_at_call 24; refine Rets.use (weekday_any _ _ _ _) ?_; intro _)
      refine wp_region_past1 (by kernel_rfl) (by kernel_rfl) ?_
      repeat (go_big_quiet_step ((go_at_call 26; exact Rets.quiet (doy_any _ _ _ _))))
      refine wpQuiet_nil ?_
      intro _
      go_wp2_with (go_at_call 38; refine Rets.use1 (length_any _ _) ?_; intro _)
      go_ret2
      exact ⟨ret_int2 (by rw [eY.out, hY.out]) (by rw [eN.out, hN.out]), done⟩
    by_cases c2 : 365 + Civ.lp y < doy y m d + 4 - wday y m d
    · have hY : Hid (thY y (thurs y m d) = y + 1) := by show _ = _; unfold thY; rw [if_neg, if_pos] <;> (rw [eT.out]; rw [eD.out] at c1 c2; have := hs.out; omega)
      have hN : Hid (thN y (thurs y m d) = (doy y m d + 4 - wday y m d - (365 + Civ.lp y) - 1) / 7 + 1) := by show _ = _; unfold thN; rw [hY.out, eT.out, eD.out]; have := hs.out; congr 2; omega
      go_enter Try.func22, Try.ntmps22
      go_wp2_with (go_at_call 24; refine Rets.use (weekday_any _ _ _ _) ?_; intro _)
      refine wp_region_past1 (by kernel_rfl) (by kernel_rfl) ?_
      repeat (go_big_quiet_step ((go_at_call 26; exact Rets.quiet (doy_any _ _ _ _))))
      refine wpQuiet_nil ?_
      intro _
      go_wp2_with (go_at_call 38; refine Rets.use1 (length_any _ _) ?_; intro _)
      go_ret2
      exact ⟨ret_int2 (by rw [eY.out, hY.out]) (by rw [eN.out, hN.out]), done⟩
    · have hY : Hid (thY y (thurs y m d) = y) := by show _ = _; unfold thY; rw [if_neg, if_neg] <;> (rw [eT.out]; rw [eD.out] at c1 c2; have := hs.out; omega)
      have hN : Hid (thN y (thurs y m d) = (doy y m d + 4 - wday y m d - 1) / 7 + 1) := by show _ = _; unfold thN; rw [hY.out, eT.out, eD.out]; congr 2; omega
      go_enter Try.func22, Try.ntmps22
      go_wp2_with (go_at_call 24; refine Rets.use (weekday_any _ _ _ _) ?_; intro _)
      refine wp_region_past1 (by kernel_rfl) (by kernel_rfl) ?_
      repeat (go_big_quiet_step ((go_at_call 26; exact Rets.quiet (doy_any _ _ _ _))))
      refine wpQuiet_nil ?_
      intro _
      go_wp2_with (go_at_call 38; refine Rets.use1 (length_any _ _) ?_; intro _)
      go_ret2
      exact ⟨ret_int2 (by rw [eY.out, hY.out]) (by rw [eN.out, hN.out]), done⟩

set_option maxHeartbeats 4000000 in
theorem rweek_of (y m d Y T N : Int) (w : World) (hk : Civ.okD y m d = true) (hT : dnum y m d + 4 - wday y m d = T) (y1 : -271821 ≤ y) (y2 : y ≤ 275760) (t1 : -1000000000 ≤ T) (t2 : T ≤ 1000000000)
    (hc : (T < Civ.jan y ∧ Y = y - 1) ∨ (Civ.jan y ≤ T ∧ Civ.jan (y + 1) ≤ T ∧ Y = y + 1) ∨ (Civ.jan y ≤ T ∧ T < Civ.jan (y + 1) ∧ y = Y)) (h1 : 7 * (N - 1) ≤ T - Civ.jan Y) (h2 : T - Civ.jan Y < 7 * N) (h3 : 1 ≤ N) (h4 : N ≤ 60) :
    Rets Try.prog 23 #[.agg #[.int .i64 y, .int .i64 m, .int .i64 d]] w (.tuple #[.int .i64 Y, .int .i64 N]) := by
  obtain ⟨b1, b2⟩ := wday_bd y m d hk
  obtain ⟨q1, q2⟩ := dnum_bd y m d
  rcases hc with ⟨c1, rfl⟩ | ⟨c1, c2, rfl⟩ | ⟨c1, c2, rfl⟩
  all_goals
    have e1 : y - 1 + 1 = y := by omega
    have hjb := jan_bd y (by omega) (by omega)
    have hjb1 := jan_bd (y - 1) (by omega) (by omega)
    have hjb2 := jan_bd (y + 1) (by omega) (by omega)
    have hm1 := Civ.jan_mono (y - 1) y (by omega)
    go_enter Try.func23, Try.ntmps23
    go_wp2_with (first
      | (go_at_call 16; refine Rets.use (rdays_any _ _ _ _) ?_; intro _)
      | (go_at_call 25; refine Rets.use1 (rweekday_any _ _ _ _) ?_; intro _)
      | (go_at_call 33; refine Rets.use1 (january_any _ _ (by omega) (by omega)) ?_; intro _))
    go_loopw [8, 9] (fun k t wr => ∃ j : Int, 0 ≤ j ∧ j ≤ N ∧ k = .int .i64 j ∧ t = .int .i64 (T - 7 * j) ∧ Ext (w.alloc (.cells #[.int .i64 y, .int .i64 m, .int .i64 d] 27)) wr) (fun k _ _ => (60 - intOf k).toNat)
    case atStart => exact ⟨0, by omega, by omega, rfl, by simp, isext⟩
    case round =>
      obtain ⟨j, j1, j2, rfl, rfl, hx⟩ := hrel
      obtain ⟨yr, rfl⟩ := fin hx
      clear hx
      by_cases j3 : j < N
      · go_wp2_with (go_at_call 33; refine Rets.use1 (january_any _ _ (by omega) (by omega)) ?_; intro _)
        go_roundw
        case rel => exact ⟨j + 1, by omega, by omega, rfl, by congr 1; omega, isext⟩
        case measure => simp [intOf]; omega
      · obtain rfl : j = N := by omega
        go_wp2_with (go_at_call 33; refine Rets.use1 (january_any _ _ (by omega) (by omega)) ?_; intro _)
        go_ret2
        exact ⟨rfl, done⟩

theorem thY_cases (y T : Int) (h0 : Civ.jan y - 7 ≤ T) (h9 : T ≤ Civ.jan y + 380) : ((T < Civ.jan y ∧ thY y T = y - 1) ∨ (Civ.jan y ≤ T ∧ Civ.jan (y + 1) ≤ T ∧ thY y T = y + 1) ∨ (Civ.jan y ≤ T ∧ T < Civ.jan (y + 1) ∧ y = thY y T)) ∧ Civ.jan (thY y T) ≤ T ∧ T < Civ.jan (thY y T) + 366 := by
  have hs := Civ.jan_succ y
  have hp := Civ.jan_succ (y - 1)
  rw [show y - 1 + 1 = y by omega] at hp
  have l0 := Civ.lp_01 y
  have l1 := Civ.lp_01 (y - 1)
  have hm := Civ.jan_mono y (y + 1) (by omega)
  unfold thY
  by_cases c1 : T < Civ.jan y
  · rw [if_pos c1]; exact ⟨.inl ⟨c1, rfl⟩, by omega, by omega⟩
  · rw [if_neg c1]
    by_cases c2 : Civ.jan (y + 1) ≤ T
    · rw [if_pos c2]; exact ⟨.inr (.inl ⟨by omega, c2, rfl⟩), by omega, by omega⟩
    · rw [if_neg c2]; exact ⟨.inr (.inr ⟨by omega, by omega, rfl⟩), by omega, by omega⟩

set_option maxHeartbeats 1000000 in
theorem rweek_any (y m d : Int) (w : World) : Rets Try.prog 23 #[.agg #[.int .i64 y, .int .i64 m, .int .i64 d]] w (.tuple #[.int .i64 (wkY y m d), .int .i64 (wkN y m d)]) := by
  cases hk : Civ.okD y m d
  · have e := Lib.hid (wk_no y m d hk)
    go_enter Try.func23, Try.ntmps23
    go_wp2_with (go_at_call 16; refine Rets.use (rdays_any _ _ _ _) ?_; intro _)
    go_ret2
    exact ⟨ret_int2 e.out.1.symm e.out.2.symm, done⟩
  · obtain ⟨y1, y2, m1, m2, d1, d2, n1, n2, n3, n4⟩ := right_bds y m d hk
    obtain ⟨b1, b2⟩ := wday_bd y m d hk
    have hjb := jan_bd y (by omega) (by omega)
    have hT : thurs y m d = Civ.num y m d + 4 - wday y m d := rfl
    have hc := thY_cases y (thurs y m d) (by omega) (by omega)
    rw [show wkY y m d = thY y (thurs y m d) from if_pos hk, show wkN y m d = thN y (thurs y m d) from if_pos hk]
    unfold thN
    exact rweek_of y m d _ (thurs y m d) _ w hk (by rw [dnum_yes y m d hk]; rfl) y1 y2 (by omega) (by omega) hc.1 (by omega) (by omega) (by omega) (by omega)
end Go.Proofs.Ytapdkpcbglndlaa
