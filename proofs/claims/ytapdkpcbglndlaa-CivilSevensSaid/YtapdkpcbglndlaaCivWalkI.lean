/- Walks: two dates held against each other. -/
import Derived.Test.YtapdkpcbglndlaaCivWalkH
import Derived.Test.YtapdkpcbglndlaaTail
namespace Go.Proofs.Ytapdkpcbglndlaa
open Go.RowKit

def cmpI (a b : Int) : Int := if a < b then -1 else if b < a then 1 else 0
theorem cmpI_lt {a b : Int} (h : a < b) : cmpI a b = -1 := if_pos h
theorem cmpI_gt {a b : Int} (h : b < a) : cmpI a b = 1 := by unfold cmpI; rw [if_neg (by omega), if_pos h]
theorem cmpI_eq {a b : Int} (h1 : ¬ a < b) (h2 : ¬ b < a) : cmpI a b = 0 := by unfold cmpI; rw [if_neg h1, if_neg h2]
theorem cmpI_bd (a b : Int) : -1 ≤ cmpI a b ∧ cmpI a b ≤ 1 := by
  unfold cmpI
  by_cases h1 : a < b
  · rw [if_pos h1]; omega
  · rw [if_neg h1]; by_cases h2 : b < a
    · rw [if_pos h2]; omega
    · rw [if_neg h2]; omega
set_option maxHeartbeats 1000000 in
theorem nan_any (a : Int) (w : World) : Rets Try.prog 41 #[.int .i64 a] w (.bool false) := by
  go_enter Try.func41, Try.ntmps41
  go_wp2
  go_ret
  exact ⟨ret_bool (by simp), done⟩

set_option maxHeartbeats 1000000 in
theorem compare_any (a b : Int) (w : World) : Rets Try.prog 40 #[.int .i64 a, .int .i64 b] w (.int .i64 (cmpI a b)) := by
  by_cases h1 : a < b
  · have e := Lib.hid (cmpI_lt h1)
    go_enter Try.func40, Try.ntmps40
    go_wp2_with (go_at_call 41; first | (refine Rets.use1 (nan_any _ _) ?_; intro _) | (refine Rets.use (nan_any _ _) ?_; intro _))
    go_ret
    exact ⟨ret_int e.out.symm, done⟩
  by_cases h2 : b < a
  · have e := Lib.hid (cmpI_gt h2)
    go_enter Try.func40, Try.ntmps40
    go_wp2_with (go_at_call 41; first | (refine Rets.use1 (nan_any _ _) ?_; intro _) | (refine Rets.use (nan_any _ _) ?_; intro _))
    go_ret
    exact ⟨ret_int e.out.symm, done⟩
  have e := Lib.hid (cmpI_eq h1 h2)
  go_enter Try.func40, Try.ntmps40
  go_wp2_with (go_at_call 41; first | (refine Rets.use1 (nan_any _ _) ?_; intro _) | (refine Rets.use (nan_any _ _) ?_; intro _))
  go_ret
  exact ⟨ret_int e.out.symm, done⟩

/-- The first that is not 0. -/
def or3 (a b c : Int) : Int := if a ≠ 0 then a else if b ≠ 0 then b else c
theorem or3_1 {a b c : Int} (h : a ≠ 0) : or3 a b c = a := if_pos h
theorem or3_2 {a b c : Int} (h : a = 0) (k : b ≠ 0) : or3 a b c = b := by unfold or3; rw [if_neg (by omega), if_pos k]
theorem or3_3 {a b c : Int} (h : a = 0) (k : b = 0) : or3 a b c = c := by unfold or3; rw [if_neg (by omega), if_neg (by omega)]

set_option maxHeartbeats 1000000 in
theorem or_any (n : Nat) (a b c : Int) (w : World) (h0 : w.cell? ⟨n, 0, none⟩ = some (.int .i64 a)) (h1 : w.cell? ⟨n, 1, none⟩ = some (.int .i64 b)) (h2 : w.cell? ⟨n, 2, none⟩ = some (.int .i64 c)) :
    Rets Try.prog 39 #[.slice (some ⟨n, 0, none⟩) 3 3] w (.int .i64 (or3 a b c)) := by
  by_cases a0 : a = 0
  · by_cases b0 : b = 0
    · by_cases c0 : c = 0
      · have e := Lib.hid (or3_3 (c := c) a0 b0)
        subst a0 b0 c0
        go_enter Try.func39, Try.ntmps39
        go_wp2
        refine wp_loop_rounds 4 ?_
        iterate 4 (simp only [rounds_succ]; go_wp2)
        go_ret
        exact ⟨ret_int e.out.symm, done⟩
      · have e := Lib.hid (or3_3 (c := c) a0 b0)
        subst a0 b0
        have g : (c != 0) = true := bne_iff_ne.2 c0
        go_enter Try.func39, Try.ntmps39
        go_wp2
        refine wp_loop_rounds 4 ?_
        iterate 3 (simp only [rounds_succ]; go_wp2)
        go_ret
        exact ⟨ret_int e.out.symm, done⟩
    · have e := Lib.hid (or3_2 (c := c) a0 b0)
      subst a0
      have g : (b != 0) = true := bne_iff_ne.2 b0
      go_enter Try.func39, Try.ntmps39
      go_wp2
      refine wp_loop_rounds 4 ?_
      iterate 2 (simp only [rounds_succ]; go_wp2)
      go_ret
      exact ⟨ret_int e.out.symm, done⟩
  · have e := Lib.hid (or3_1 (b := b) (c := c) a0)
    have g : (a != 0) = true := bne_iff_ne.2 a0
    go_enter Try.func39, Try.ntmps39
    go_wp2
    refine wp_loop_rounds 4 ?_
    simp only [rounds_succ]
    go_wp2
    go_ret
    exact ⟨ret_int e.out.symm, done⟩

def cmpD (y m d y' m' d' : Int) : Int := or3 (cmpI y y') (cmpI m m') (cmpI d d')
set_option maxHeartbeats 1000000 in
theorem cmp_any (y m d y' m' d' : Int) (w : World) : Rets Try.prog 30 #[.agg #[.int .i64 y, .int .i64 m, .int .i64 d], .agg #[.int .i64 y', .int .i64 m', .int .i64 d']] w (.int .i64 (cmpD y m d y' m' d')) := by
  go_enter Try.func30, Try.ntmps30
  go_wp2
  refine wp_region_past_tail 15 (by kernel_rfl) (by kernel_rfl) ?_
  simp only [List.take_succ_cons, List.take_zero, List.drop_succ_cons, List.drop_zero]
  repeat (go_big_quiet_step ((go_at_call 40; exact Rets.quiet (compare_any _ _ _))))
  refine wpQuiet_nil ?_
  intro _
  go_wp2_with (go_at_call 39; refine Rets.use (or_any _ (cmpI y y') (cmpI m m') (cmpI d d') _ (by simp) (by simp) (by simp)) ?_; intro _)
  go_ret
  exact ⟨rfl, done⟩

theorem cmpD_cases (y m d y' m' d' : Int) : (y = y' ∧ m = m' ∧ d = d' ∧ cmpD y m d y' m' d' = 0) ∨ (¬ (y = y' ∧ m = m' ∧ d = d') ∧ (y < y' ∨ (y = y' ∧ (m < m' ∨ (m = m' ∧ d < d')))) ∧ cmpD y m d y' m' d' = -1) ∨
    (¬ (y = y' ∧ m = m' ∧ d = d') ∧ ¬ (y < y' ∨ (y = y' ∧ (m < m' ∨ (m = m' ∧ d < d')))) ∧ cmpD y m d y' m' d' = 1) := by
  unfold cmpD
  rcases Int.lt_trichotomy y y' with h | h | h
  · rw [cmpI_lt h, or3_1 (by omega)]; exact .inr (.inl ⟨by omega, .inl h, rfl⟩)
  · subst h
    rw [cmpI_eq (by omega) (by omega)]
    rcases Int.lt_trichotomy m m' with k | k | k
    · rw [cmpI_lt k, or3_2 rfl (by omega)]; exact .inr (.inl ⟨by omega, .inr ⟨rfl, .inl k⟩, rfl⟩)
    · subst k
      rw [cmpI_eq (by omega) (by omega), or3_3 rfl rfl]
      rcases Int.lt_trichotomy d d' with l | l | l
      · rw [cmpI_lt l]; exact .inr (.inl ⟨by omega, .inr ⟨rfl, .inr ⟨rfl, l⟩⟩, rfl⟩)
      · subst l; rw [cmpI_eq (by omega) (by omega)]; exact .inl ⟨rfl, rfl, rfl, rfl⟩
      · rw [cmpI_gt l]; exact .inr (.inr ⟨by omega, by omega, rfl⟩)
    · rw [cmpI_gt k, or3_2 rfl (by omega)]; exact .inr (.inr ⟨by omega, by omega, rfl⟩)
  · rw [cmpI_gt h, or3_1 (by omega)]; exact .inr (.inr ⟨by omega, by omega, rfl⟩)

theorem cmpD_y1 {y m d y' m' d' : Int} (h : y < y') : cmpD y m d y' m' d' = -1 := by unfold cmpD; rw [cmpI_lt h, or3_1 (by omega)]
theorem cmpD_y2 {y m d y' m' d' : Int} (h : y' < y) : cmpD y m d y' m' d' = 1 := by unfold cmpD; rw [cmpI_gt h, or3_1 (by omega)]
theorem cmpD_m1 {y m d m' d' : Int} (h : m < m') : cmpD y m d y m' d' = -1 := by unfold cmpD; rw [cmpI_eq (by omega) (by omega), cmpI_lt h, or3_2 rfl (by omega)]
theorem cmpD_m2 {y m d m' d' : Int} (h : m' < m) : cmpD y m d y m' d' = 1 := by unfold cmpD; rw [cmpI_eq (by omega) (by omega), cmpI_gt h, or3_2 rfl (by omega)]
theorem cmpD_d (y m d d' : Int) : cmpD y m d y m d' = cmpI d d' := by unfold cmpD; rw [cmpI_eq (by omega) (by omega), cmpI_eq (by omega) (by omega), or3_3 rfl rfl]

set_option maxHeartbeats 4000000 in
theorem rcmp_any (y m d y' m' d' : Int) (w : World) : Rets Try.prog 31 #[.agg #[.int .i64 y, .int .i64 m, .int .i64 d], .agg #[.int .i64 y', .int .i64 m', .int .i64 d']] w (.int .i64 (cmpD y m d y' m' d')) := by
  rcases Int.lt_trichotomy y y' with h | h | h
  · have e : Hid (cmpD y m d y' m' d' = -1) := cmpD_y1 h
    have g : (y == y') = false := beq_eq_false_iff_ne.2 (by omega)
    go_enter Try.func31, Try.ntmps31
    go_wp2
    go_ret
    exact ⟨ret_int e.out.symm, done⟩
  · subst h
    rcases Int.lt_trichotomy m m' with h | h | h
    · have e : Hid (cmpD y m d y m' d' = -1) := cmpD_m1 h
      have g : (m == m') = false := beq_eq_false_iff_ne.2 (by omega)
      go_enter Try.func31, Try.ntmps31
      go_wp2
      go_ret
      exact ⟨ret_int e.out.symm, done⟩
    · subst h
      rcases Int.lt_trichotomy d d' with h | h | h
      · have e : Hid (cmpD y m d y m d' = -1) := by show _ = _; rw [cmpD_d, cmpI_lt h]
        have g : (d == d') = false := beq_eq_false_iff_ne.2 (by omega)
        go_enter Try.func31, Try.ntmps31
        go_wp2
        go_ret
        exact ⟨ret_int e.out.symm, done⟩
      · subst h
        have e : Hid (cmpD y m d y m d = 0) := by show _ = _; rw [cmpD_d, cmpI_eq (by omega) (by omega)]
        go_enter Try.func31, Try.ntmps31
        go_wp2
        go_ret
        exact ⟨ret_int e.out.symm, done⟩
      · have e : Hid (cmpD y m d y m d' = 1) := by show _ = _; rw [cmpD_d, cmpI_gt h]
        have g : (d == d') = false := beq_eq_false_iff_ne.2 (by omega)
        have g2 : decide (d < d') = false := decide_eq_false (by omega)
        go_enter Try.func31, Try.ntmps31
        go_wp2
        go_ret
        exact ⟨ret_int e.out.symm, done⟩
    · have e : Hid (cmpD y m d y m' d' = 1) := cmpD_m2 h
      have g : (m == m') = false := beq_eq_false_iff_ne.2 (by omega)
      have g2 : decide (m < m') = false := decide_eq_false (by omega)
      go_enter Try.func31, Try.ntmps31
      go_wp2
      go_ret
      exact ⟨ret_int e.out.symm, done⟩
  · have e : Hid (cmpD y m d y' m' d' = 1) := cmpD_y2 h
    have g : (y == y') = false := beq_eq_false_iff_ne.2 (by omega)
    have g2 : decide (y < y') = false := decide_eq_false (by omega)
    go_enter Try.func31, Try.ntmps31
    go_wp2
    go_ret
    exact ⟨ret_int e.out.symm, done⟩
end Go.Proofs.Ytapdkpcbglndlaa
