/- Walks: the laws on the next date and on seven days. -/
import Derived.Test.YtapdkpcbglndlaaCivPlainB
namespace Go.Proofs.Ytapdkpcbglndlaa
open Go.RowKit

theorem next_no (n : Int) (w : World) (h : n < -100000001 ∨ 100000000 < n) : Rets Try.prog 9 #[.int .i64 n] w (.bool true) := by
  have k := inR_mk_no h
  clear h
  go_enter Try.func9, Try.ntmps9
  go_wp2_with (first
    | (go_at_call 17; refine Rets.use (of_any _ _) ?_; intro _)
    | (go_at_call 10; refine Rets.use (alive_any _) ?_; intro _))
  go_ret
  exact ⟨rfl, done⟩
theorem next_last (w : World) : Rets Try.prog 9 #[.int .i64 100000000] w (.bool true) := by
  have k : inR 100000000 = true := inR_mk (by omega) (by omega)
  go_enter Try.func9, Try.ntmps9
  go_wp2_with (first
    | (go_at_call 17; refine Rets.use (of_any _ _) ?_; intro _)
    | (go_at_call 10; refine Rets.use (alive_any _) ?_; intro _))
  go_ret
  exact ⟨rfl, done⟩

set_option maxHeartbeats 4000000 in
theorem next_of (n y m d ny nm nd : Int) (w : World) (hof : ∀ w, Rets Try.prog 17 #[.int .i64 n] w (.tuple #[.agg #[.int .i64 y, .int .i64 m, .int .i64 d], .bool true]))
    (hadd : ∀ w, Rets Try.prog 28 #[.agg #[.int .i64 y, .int .i64 m, .int .i64 d], .int .i64 1] w (.tuple #[.agg #[.int .i64 ny, .int .i64 nm, .int .i64 nd], .int .i64 0]))
    (hback : ∀ w, Rets Try.prog 28 #[.agg #[.int .i64 ny, .int .i64 nm, .int .i64 nd], .int .i64 (-1)] w (.tuple #[.agg #[.int .i64 y, .int .i64 m, .int .i64 d], .int .i64 0]))
    (hdays : ∀ w, Rets Try.prog 15 #[.agg #[.int .i64 y, .int .i64 m, .int .i64 d]] w (.tuple #[.int .i64 n, .bool true]))
    (hcmp : ∀ w, Rets Try.prog 30 #[.agg #[.int .i64 y, .int .i64 m, .int .i64 d], .agg #[.int .i64 ny, .int .i64 nm, .int .i64 nd]] w (.int .i64 (-1)))
    (h1 : n < 100000000) (y1 : -300000 ≤ y) (y2 : y ≤ 300000) (m1 : 1 ≤ m) (m2 : m ≤ 12) (d1 : 1 ≤ d) (d2 : d ≤ 31)
    (hc : (d + 1 ≤ Civ.mlen y m ∧ ny = y ∧ nm = m ∧ nd = d + 1) ∨ (Civ.mlen y m < d + 1 ∧ m + 1 ≤ 12 ∧ ny = y ∧ nm = m + 1 ∧ nd = 1) ∨ (Civ.mlen y m < d + 1 ∧ 12 < m + 1 ∧ ny = y + 1 ∧ nm = 1 ∧ nd = 1)) :
    Rets Try.prog 9 #[.int .i64 n] w (.bool true) := by
  have hq : (n == 100000000) = false := beq_eq_false_iff_ne.2 (by omega)
  rcases hc with ⟨c1, rfl, rfl, rfl⟩ | ⟨c1, c2, rfl, rfl, rfl⟩ | ⟨c1, c2, rfl, rfl, rfl⟩
  all_goals
    go_enter Try.func9, Try.ntmps9
    go_wp2_with (go_at_call 17; refine Rets.use (hof _) ?_; intro _)
    refine wp_region_past (by kernel_rfl) (by kernel_rfl) ?_
    repeat (go_big_quiet_step ((go_at_call 13; exact Rets.quiet (monthlen_any _ _ _))))
    refine wpQuiet_nil ?_
    intro _
    go_wp2_with fail
    refine Rets.use (hadd _) ?_
    intro _
    go_wp2_with fail
    refine Rets.use (hdays _) ?_
    intro _
    go_wp2_with fail
    refine Rets.use (hback _) ?_
    intro _
    go_wp2_with fail
    refine Rets.use (alive_any _) ?_
    intro _
    go_wp2_with fail
    refine Rets.use (hcmp _) ?_
    intro _
    go_wp2
    go_ret
    exact ⟨rfl, done⟩
theorem next_any (n : Int) (w : World) : Rets Try.prog 9 #[.int .i64 n] w (.bool true) := by
  by_cases h : n < -100000001 ∨ 100000000 < n
  · exact next_no n w h
  · by_cases h9 : n = 100000000
    · subst h9; exact next_last w
    · have hd := date_ok n (by omega) (by omega)
      have hd1 := date_ok (n + 1) (by omega) (by omega)
      have hb := right_bds _ _ _ hd.1
      have hb1 := right_bds _ _ _ hd1.1
      have a1 := add_yes (n := 1) hd.1 (by rw [hd.2]; exact inR_mk (by omega) (by omega))
      have a2 := add_yes (n := -1) hd1.1 (by rw [hd1.2]; exact inR_mk (by omega) (by omega))
      refine next_of n (Civ.dy n) (Civ.dm n) (Civ.dd n) (Civ.dy (n + 1)) (Civ.dm (n + 1)) (Civ.dd (n + 1)) w (fun w => of_yes n w (by omega) (by omega)) (fun w => ?_) (fun w => ?_) (fun w => ?_) (fun w => ?_) (by omega) (by omega) (by omega) (by omega) (by omega) (by omega) (by omega) (next_date n)
      · have := add_any (Civ.dy n) (Civ.dm n) (Civ.dd n) 1 w
        unfold AddSays at this
        rw [a1.1, a1.2, hd.2] at this
        exact this
      · have := add_any (Civ.dy (n + 1)) (Civ.dm (n + 1)) (Civ.dd (n + 1)) (-1) w
        unfold AddSays at this
        rw [a2.1, a2.2, hd1.2, show n + 1 + -1 = n by omega] at this
        exact this
      · have := days_any (Civ.dy n) (Civ.dm n) (Civ.dd n) w
        rw [hd.1, dnum_yes _ _ _ hd.1, hd.2] at this
        exact this
      · have := cmp_any (Civ.dy n) (Civ.dm n) (Civ.dd n) (Civ.dy (n + 1)) (Civ.dm (n + 1)) (Civ.dd (n + 1)) w
        have e : cmpD (Civ.dy n) (Civ.dm n) (Civ.dd n) (Civ.dy (n + 1)) (Civ.dm (n + 1)) (Civ.dd (n + 1)) = -1 := by
          rcases next_date n with ⟨_, e1, e2, e3⟩ | ⟨_, _, e1, e2, e3⟩ | ⟨_, _, e1, e2, e3⟩
          · rw [e1, e2, e3, cmpD_d, cmpI_lt (by omega)]
          · rw [e1, e2, e3, cmpD_m1 (by omega)]
          · rw [e1, e2, e3, cmpD_y1 (by omega)]
        rw [e] at this
        exact this
end Go.Proofs.Ytapdkpcbglndlaa
