/- Walks: Regulate, DayOfYear. -/
import Derived.Test.YtapdkpcbglndlaaCivWalkE
namespace Go.Proofs.Ytapdkpcbglndlaa
open Go.RowKit

/-- Any fields made a date: the month, the day, the error. -/
def max1 (a : Int) : Int := if a < 1 then 1 else a
def minB (b a : Int) : Int := if b < a then b else a
def regM (m o : Int) : Int := if o = 1 then minB 12 (max1 m) else m
def regDd (y m d o : Int) : Int := if o = 1 then minB (Civ.mlen y (regM m o)) (max1 d) else d
def regE (y m d o : Int) : Int := if o = 1 then (if Civ.okD y (regM m o) (regDd y m d o) = true then 0 else 4) else if o = 2 then (if d < 1 ∨ Civ.mlen y m < d then 5 else if Civ.okD y m d = true then 0 else 4) else 1
def regYes (y m d o a : Int) : Int := if regE y m d o = 0 then a else 0
theorem regE_bd (y m d o : Int) : 0 ≤ regE y m d o ∧ regE y m d o ≤ 5 := by
  unfold regE; repeat' split
  all_goals omega
theorem ret_reg {a b c e a' b' c' e' : Int} (h1 : a' = a) (h2 : b' = b) (h3 : c' = c) (h : e' = e) : Ending.returned (.tuple #[.agg #[.int .i64 a, .int .i64 b, .int .i64 c], .int .i64 e]) = .returned (.tuple #[.agg #[.int .i64 a', .int .i64 b', .int .i64 c'], .int .i64 e']) := by rw [h1, h2, h3, h]
theorem yes_of {y m d o : Int} (h : regE y m d o = 0) (a : Int) : regYes y m d o a = a := if_pos h
theorem no_of {y m d o : Int} (h : ¬ regE y m d o = 0) (a : Int) : regYes y m d o a = 0 := if_neg h

/-- What the call returns. -/
def RegSays (f : FuncId) (y m d o : Int) (w : World) : Prop :=
  Rets Try.prog f #[.int .i64 y, .int .i64 m, .int .i64 d, .int .i64 o] w (.tuple #[.agg #[.int .i64 (regYes y m d o y), .int .i64 (regYes y m d o (regM m o)), .int .i64 (regYes y m d o (regDd y m d o))], .int .i64 (regE y m d o)])

set_option maxHeartbeats 1000000 in
theorem regulate_1 (y m d : Int) (w : World) : RegSays 20 y m d 1 w := by
  obtain ⟨M1, hM1⟩ : ∃ M1, (if m < 1 then 1 else m) = M1 := ⟨_, rfl⟩
  obtain ⟨M2, hM2⟩ : ∃ M2, (if 12 < M1 then 12 else M1) = M2 := ⟨_, rfl⟩
  obtain ⟨D1, hD1⟩ : ∃ D1, (if d < 1 then 1 else d) = D1 := ⟨_, rfl⟩
  obtain ⟨D2, hD2⟩ : ∃ D2, (if Civ.mlen y M2 < D1 then Civ.mlen y M2 else D1) = D2 := ⟨_, rfl⟩
  have eM : regM m 1 = M2 := by unfold regM; rw [if_pos rfl]; unfold max1 minB; rw [hM1, hM2]
  have eD : regDd y m d 1 = D2 := by unfold regDd; rw [if_pos rfl, eM]; unfold max1 minB; rw [hD1, hD2]
  unfold RegSays
  rw [eM, eD]
  cases hk : Civ.okD y M2 D2
  · have eE : Hid (regE y m d 1 = 4) := by show _ = _; unfold regE; rw [if_pos rfl, eM, eD, hk]; rfl
    clear eM eD
    go_enter Try.func20, Try.ntmps20
    go_wp2_with (first | (go_at_call 13; refine Rets.use (monthlen_any _ _ _) ?_; intro _) | (go_at_call 19; refine Rets.use (right_any _ _ _ _) ?_; intro _))
    have n4 : ¬ regE y m d 1 = 0 := by rw [eE.out]; omega
    refine bodyPost_ret (v := .tuple #[.agg #[.int .i64 0, .int .i64 0, .int .i64 0], .int .i64 4]) (by simp [results, Try.results20, go_sem]) rfl ⟨ret_reg (no_of n4 _) (no_of n4 _) (no_of n4 _) eE.out, done⟩
  · have eE : Hid (regE y m d 1 = 0) := by show _ = _; unfold regE; rw [if_pos rfl, eM, eD, hk]; rfl
    clear eM eD
    go_enter Try.func20, Try.ntmps20
    go_wp2_with (first | (go_at_call 13; refine Rets.use (monthlen_any _ _ _) ?_; intro _) | (go_at_call 19; refine Rets.use (right_any _ _ _ _) ?_; intro _))
    refine bodyPost_ret (v := .tuple #[.agg #[.int .i64 y, .int .i64 M2, .int .i64 D2], .int .i64 0]) (by simp [results, Try.results20, go_sem]) rfl ⟨ret_reg (yes_of eE.out _) (yes_of eE.out _) (yes_of eE.out _) eE.out, done⟩

set_option maxHeartbeats 1000000 in
theorem regulate_2 (y m d : Int) (w : World) : RegSays 20 y m d 2 w := by
  unfold RegSays
  have hR : regE y m d 2 = (if d < 1 ∨ Civ.mlen y m < d then 5 else if Civ.okD y m d = true then 0 else 4) := by unfold regE; rw [if_neg (by omega), if_pos rfl]
  have eM : regM m 2 = m := if_neg (by omega)
  have eD : regDd y m d 2 = d := if_neg (by omega)
  rw [eM, eD]
  by_cases h1 : d < 1
  · have eE : Hid (regE y m d 2 = 5) := by show _ = _; rw [hR, if_pos (.inl h1)]
    clear eM eD hR
    go_enter Try.func20, Try.ntmps20
    go_wp2
    have n4 : ¬ regE y m d 2 = 0 := by rw [eE.out]; omega
    exact bodyPost_ret (v := .tuple #[.agg #[.int .i64 0, .int .i64 0, .int .i64 0], .int .i64 5]) (by simp [results, Try.results20, go_sem]) rfl ⟨ret_reg (no_of n4 _) (no_of n4 _) (no_of n4 _) eE.out, done⟩
  by_cases h2 : Civ.mlen y m < d
  · have eE : Hid (regE y m d 2 = 5) := by show _ = _; rw [hR, if_pos (.inr h2)]
    clear eM eD hR
    go_enter Try.func20, Try.ntmps20
    go_wp2_with (go_at_call 13; refine Rets.use (monthlen_any _ _ _) ?_; intro _)
    have n4 : ¬ regE y m d 2 = 0 := by rw [eE.out]; omega
    exact bodyPost_ret (v := .tuple #[.agg #[.int .i64 0, .int .i64 0, .int .i64 0], .int .i64 5]) (by simp [results, Try.results20, go_sem]) rfl ⟨ret_reg (no_of n4 _) (no_of n4 _) (no_of n4 _) eE.out, done⟩
  rw [if_neg (by omega)] at hR
  cases hk : Civ.okD y m d
  · have eE : Hid (regE y m d 2 = 4) := by show _ = _; rw [hR, hk]; rfl
    clear eM eD hR
    go_enter Try.func20, Try.ntmps20
    go_wp2_with (first | (go_at_call 13; refine Rets.use (monthlen_any _ _ _) ?_; intro _) | (go_at_call 19; refine Rets.use (right_any _ _ _ _) ?_; intro _))
    have n4 : ¬ regE y m d 2 = 0 := by rw [eE.out]; omega
    exact bodyPost_ret (v := .tuple #[.agg #[.int .i64 0, .int .i64 0, .int .i64 0], .int .i64 4]) (by simp [results, Try.results20, go_sem]) rfl ⟨ret_reg (no_of n4 _) (no_of n4 _) (no_of n4 _) eE.out, done⟩
  · have eE : Hid (regE y m d 2 = 0) := by show _ = _; rw [hR, hk]; rfl
    clear eM eD hR
    go_enter Try.func20, Try.ntmps20
    go_wp2_with (first | (go_at_call 13; refine Rets.use (monthlen_any _ _ _) ?_; intro _) | (go_at_call 19; refine Rets.use (right_any _ _ _ _) ?_; intro _))
    exact bodyPost_ret (v := .tuple #[.agg #[.int .i64 y, .int .i64 m, .int .i64 d], .int .i64 0]) (by simp [results, Try.results20, go_sem]) rfl ⟨ret_reg (yes_of eE.out _) (yes_of eE.out _) (yes_of eE.out _) eE.out, done⟩

theorem regE_else (y m d o : Int) (h1 : ¬ o = 1) (h2 : ¬ o = 2) : regE y m d o = 1 := by unfold regE; rw [if_neg h1, if_neg h2]
set_option maxHeartbeats 1000000 in
theorem regulate_else (y m d o : Int) (w : World) (h1 : ¬ o = 1) (h2 : ¬ o = 2) : RegSays 20 y m d o w := by
  have eE := Lib.hid (regE_else y m d o h1 h2)
  unfold RegSays
  go_enter Try.func20, Try.ntmps20
  go_wp2
  have n4 : ¬ regE y m d o = 0 := by rw [eE.out]; omega
  exact bodyPost_ret (v := .tuple #[.agg #[.int .i64 0, .int .i64 0, .int .i64 0], .int .i64 1]) (by simp [results, Try.results20, go_sem]) rfl ⟨ret_reg (no_of n4 _) (no_of n4 _) (no_of n4 _) eE.out, done⟩
theorem regulate_any (y m d o : Int) (w : World) : RegSays 20 y m d o w := by
  by_cases h1 : o = 1
  · subst h1; exact regulate_1 y m d w
  · by_cases h2 : o = 2
    · subst h2; exact regulate_2 y m d w
    · exact regulate_else y m d o w h1 h2
end Go.Proofs.Ytapdkpcbglndlaa
