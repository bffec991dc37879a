/- Walk: the law on seven days. -/
import Derived.Test.YtapdkpcbglndlaaCivWalkL
namespace Go.Proofs.Ytapdkpcbglndlaa
open Go.RowKit

theorem add_at (y m d k : Int) (w : World) (h : Civ.okD y m d = true) (hk : inR (Civ.num y m d + k) = true) :
    Rets Try.prog 28 #[.agg #[.int .i64 y, .int .i64 m, .int .i64 d], .int .i64 k] w (.tuple #[.agg #[.int .i64 (Civ.dy (Civ.num y m d + k)), .int .i64 (Civ.dm (Civ.num y m d + k)), .int .i64 (Civ.dd (Civ.num y m d + k))], .int .i64 0]) := by
  have a := add_yes h hk
  have := add_any y m d k w
  unfold AddSays at this
  rw [a.1, a.2] at this
  exact this

set_option maxHeartbeats 4000000 in
theorem sevens_of (y m d x1 x2 x3 t1 t2 t3 : Int) (w : World)
    (hx : ∀ w, Rets Try.prog 28 #[.agg #[.int .i64 y, .int .i64 m, .int .i64 d], .int .i64 7] w (.tuple #[.agg #[.int .i64 x1, .int .i64 x2, .int .i64 x3], .int .i64 0]))
    (ht : ∀ w, Rets Try.prog 28 #[.agg #[.int .i64 y, .int .i64 m, .int .i64 d], .int .i64 1] w (.tuple #[.agg #[.int .i64 t1, .int .i64 t2, .int .i64 t3], .int .i64 0]))
    (e1 : wday x1 x2 x3 = wday y m d) (e2 : wday t1 t2 t3 = wday y m d % 7 + 1) (w1 : 1 ≤ wday y m d) (w7 : wday y m d ≤ 7)
    (k1 : 1 ≤ wkN y m d) (k2 : wkN y m d ≤ 53) (k3 : 1 ≤ wkN x1 x2 x3) (k4 : wkN x1 x2 x3 ≤ 53) (y1 : -300000 ≤ wkY y m d) (y2 : wkY y m d ≤ 300000)
    (hc : (wkY x1 x2 x3 = wkY y m d ∧ wkN x1 x2 x3 = wkN y m d + 1) ∨ (wkY x1 x2 x3 = wkY y m d + 1 ∧ wkN x1 x2 x3 = 1 ∧ 52 ≤ wkN y m d))
    (hs : (wday y m d < 7 ∧ wkY t1 t2 t3 = wkY y m d ∧ wkN t1 t2 t3 = wkN y m d) ∨ (wday y m d = 7 ∧ wkY t1 t2 t3 = wkY x1 x2 x3 ∧ wkN t1 t2 t3 = wkN x1 x2 x3)) :
    Rets Try.prog 7 #[.agg #[.int .i64 y, .int .i64 m, .int .i64 d]] w (.bool true) := by
  have n1 : (wkN y m d + 1 == wkN y m d) = false := beq_eq_false_iff_ne.2 (by omega)
  have n2 : (wkY y m d + 1 == wkY y m d) = false := beq_eq_false_iff_ne.2 (by omega)
  have n3 : (wkY y m d + 1 != wkY y m d) = true := bne_iff_ne.2 (by omega)
  rcases hc with ⟨c1, c2⟩ | ⟨c1, c2, c3⟩ <;> rcases hs with ⟨s1, s2, s3⟩ | ⟨s1, s2, s3⟩
  all_goals
    go_enter Try.func7, Try.ntmps7
    go_wp2_with fail
    refine Rets.use (hx _) ?_
    intro _
    go_wp2_with fail
    refine Rets.use (ht _) ?_
    intro _
    go_wp2_with (go_at_call 22; first | (refine Rets.use1 (week_any _ _ _ _) ?_; intro _) | (refine Rets.use (week_any _ _ _ _) ?_; intro _))
  all_goals
    refine wp_region_past1 (by kernel_rfl) (by kernel_rfl) ?_
    repeat (go_big_quiet_step ((first
      | (go_at_call 10; exact Rets.quiet (alive_any _))
      | (go_at_call 24; exact Rets.quiet (weekday_any _ _ _ _)))))
    refine wpQuiet_nil ?_
    intro _
    go_wp2
    go_ret
    exact ⟨rfl, done⟩

set_option maxHeartbeats 1000000 in
theorem sevens_no (y m d : Int) (w : World) (h : addE y m d 7 ≠ 0 ∨ addE y m d 1 ≠ 0) : Rets Try.prog 7 #[.agg #[.int .i64 y, .int .i64 m, .int .i64 d]] w (.bool true) := by
  by_cases c : addE y m d 7 ≠ 0
  · have g : (addE y m d 7 != 0) = true := bne_iff_ne.2 c
    have g2 : (addE y m d 7 == 0) = false := beq_eq_false_iff_ne.2 c
    clear c h
    go_enter Try.func7, Try.ntmps7
    go_wp2_with (first
      | (go_at_call 10; refine Rets.use (alive_any _) ?_; intro _)
      | (go_at_call 28; refine Rets.use (add_any _ _ _ _ _) ?_; intro _))
    go_ret
    exact ⟨rfl, done⟩
  · have c0 : addE y m d 7 = 0 := Classical.byContradiction c
    have c1 : addE y m d 1 ≠ 0 := h.resolve_left c
    have g : (addE y m d 1 != 0) = true := bne_iff_ne.2 c1
    have g2 : (addE y m d 1 == 0) = false := beq_eq_false_iff_ne.2 c1
    clear c h c1
    go_enter Try.func7, Try.ntmps7
    go_wp2_with (first
      | (go_at_call 10; refine Rets.use (alive_any _) ?_; intro _)
      | (go_at_call 28; refine Rets.use (add_any _ _ _ _ _) ?_; intro _))
    go_ret
    exact ⟨rfl, done⟩

theorem sevens_any (y m d : Int) (w : World) : Rets Try.prog 7 #[.agg #[.int .i64 y, .int .i64 m, .int .i64 d]] w (.bool true) := by
  by_cases h : addE y m d 7 ≠ 0 ∨ addE y m d 1 ≠ 0
  · exact sevens_no y m d w h
  · have h7 : addE y m d 7 = 0 := Classical.byContradiction fun k => h (.inl k)
    have h1 : addE y m d 1 = 0 := Classical.byContradiction fun k => h (.inr k)
    have hk : Civ.okD y m d = true := by
      cases k : Civ.okD y m d
      · have := (add_no (n := 7) k).2; omega
      · rfl
    have r7 : inR (Civ.num y m d + 7) = true := by
      cases k : inR (Civ.num y m d + 7)
      · have := (add_out hk k).2; omega
      · rfl
    have r1 : inR (Civ.num y m d + 1) = true := by
      cases k : inR (Civ.num y m d + 1)
      · have := (add_out hk k).2; omega
      · rfl
    have d7 := date_ok (Civ.num y m d + 7) (inR_yes r7).1 (inR_yes r7).2
    have d1 := date_ok (Civ.num y m d + 1) (inR_yes r1).1 (inR_yes r1).2
    have c0 := wk_char y m d hk
    have c7 := wk_char _ _ _ d7.1
    have c1 := wk_char _ _ _ d1.1
    rw [d7.2] at c7
    rw [d1.2] at c1
    have hb := right_bds y m d hk
    generalize hx1 : Civ.dy (Civ.num y m d + 7) = x1 at *
    generalize hx2 : Civ.dm (Civ.num y m d + 7) = x2 at *
    generalize hx3 : Civ.dd (Civ.num y m d + 7) = x3 at *
    generalize ht1 : Civ.dy (Civ.num y m d + 1) = t1 at *
    generalize ht2 : Civ.dm (Civ.num y m d + 1) = t2 at *
    generalize ht3 : Civ.dd (Civ.num y m d + 1) = t3 at *
    obtain ⟨a1, a2, a3, a4⟩ := c0
    obtain ⟨b1, b2, b3, b4⟩ := c7
    obtain ⟨e1, e2, e3, e4⟩ := c1
    have T7 : th (Civ.num y m d + 7) = th (Civ.num y m d) + 7 := by unfold th wd; omega
    have W7 : wd (Civ.num y m d + 7) = wd (Civ.num y m d) := by unfold wd; omega
    have W1 : wd (Civ.num y m d + 1) = wd (Civ.num y m d) % 7 + 1 := by unfold wd; omega
    have WB : 1 ≤ wd (Civ.num y m d) ∧ wd (Civ.num y m d) ≤ 7 := by unfold wd; omega
    have hw := week_on (th (Civ.num y m d)) (wkY y m d) (wkY x1 x2 x3) (wkN y m d) (wkN x1 x2 x3) a2 a3 a4 (by rw [← T7]; exact b2) (by rw [← T7]; exact b3) (by rw [← T7]; exact b4)
    have hyb : -300000 ≤ wkY y m d ∧ wkY y m d ≤ 300000 := by
      have j1 : th (Civ.num y m d) = Civ.num y m d + 4 - wd (Civ.num y m d) := rfl
      unfold Civ.jan at a2 a3
      omega
    refine sevens_of y m d x1 x2 x3 t1 t2 t3 w (fun w => ?_) (fun w => ?_) (by rw [b1, a1, W7]) (by rw [e1, a1, W1]) (by rw [a1]; exact WB.1) (by rw [a1]; exact WB.2) hw.1 hw.2.1 hw.2.2.1 hw.2.2.2.1 hyb.1 hyb.2 hw.2.2.2.2 ?_
    · have := add_at y m d 7 w hk r7
      rw [hx1, hx2, hx3] at this
      exact this
    · have := add_at y m d 1 w hk r1
      rw [ht1, ht2, ht3] at this
      exact this
    · by_cases c : wd (Civ.num y m d) < 7
      · have T1 : th (Civ.num y m d + 1) = th (Civ.num y m d) := by unfold th; rw [W1]; unfold wd at *; omega
        rw [T1] at e2 e3 e4
        have := same_week (th (Civ.num y m d)) (wkY y m d) (wkY t1 t2 t3) (wkN y m d) (wkN t1 t2 t3) a2 a3 a4 e2 e3 e4
        exact .inl ⟨by rw [a1]; exact c, this.1, this.2⟩
      · have T1 : th (Civ.num y m d + 1) = th (Civ.num y m d + 7) := by unfold th; rw [W1, W7]; unfold wd at *; omega
        rw [T1] at e2 e3 e4
        have := same_week (th (Civ.num y m d + 7)) (wkY x1 x2 x3) (wkY t1 t2 t3) (wkN x1 x2 x3) (wkN t1 t2 t3) b2 b3 b4 e2 e3 e4
        exact .inr ⟨by rw [a1]; omega, this.1, this.2⟩
end Go.Proofs.Ytapdkpcbglndlaa
