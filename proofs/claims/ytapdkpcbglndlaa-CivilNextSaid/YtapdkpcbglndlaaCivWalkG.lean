/- Walks: the reference's Regulate; the law. -/
import Derived.Test.YtapdkpcbglndlaaCivWalkF
namespace Go.Proofs.Ytapdkpcbglndlaa
open Go.RowKit

set_option maxHeartbeats 1000000 in
theorem rregulate_else (y m d o : Int) (w : World) (h1 : ¬ o = 1) (h2 : ¬ o = 2) : RegSays 21 y m d o w := by
  have eE := Lib.hid (regE_else y m d o h1 h2)
  have g1 : (o == 1) = false := beq_eq_false_iff_ne.2 h1
  have g2 : (o == 2) = false := beq_eq_false_iff_ne.2 h2
  have g3 : (o != 1) = true := bne_iff_ne.2 h1
  have g4 : (o != 2) = true := bne_iff_ne.2 h2
  clear h1 h2
  unfold RegSays
  go_enter Try.func21, Try.ntmps21
  go_wp2
  have n4 : ¬ regE y m d o = 0 := by rw [eE.out]; omega
  exact bodyPost_ret (v := .tuple #[.agg #[.int .i64 0, .int .i64 0, .int .i64 0], .int .i64 1]) (by simp [results, Try.results21, go_sem]) rfl ⟨ret_reg (no_of n4 _) (no_of n4 _) (no_of n4 _) eE.out, done⟩

theorem no4 {y m d o : Int} (h : regE y m d o = 4) (a : Int) : regYes y m d o a = 0 := no_of (by rw [h]; omega) a
theorem reg4 {e : Int} {k : Bool} (h : e = if k = true then 0 else 4) (g : (!k) = true) : e = 4 := by simp at g; rw [h, if_neg (by simp [g])]
theorem reg0 {e : Int} {k : Bool} (h : e = if k = true then 0 else 4) (g : (!k) = false) : e = 0 := by simp at g; rw [h, if_pos g]

set_option maxHeartbeats 4000000 in
theorem rregulate_1 (y m d M2 D2 : Int) (w : World) (hm : (m < 1 ∧ M2 = 1) ∨ (1 ≤ m ∧ 12 < m ∧ M2 = 12) ∨ (1 ≤ m ∧ m ≤ 12 ∧ M2 = m)) (hd : (d < 1 ∧ D2 = 1) ∨ (1 ≤ d ∧ Civ.mlen y M2 < d ∧ D2 = Civ.mlen y M2) ∨ (1 ≤ d ∧ d ≤ Civ.mlen y M2 ∧ D2 = d))
    (eM : Hid (regM m 1 = M2)) (eD : Hid (regDd y m d 1 = D2)) : RegSays 21 y m d 1 w := by
  unfold RegSays
  rw [eM.out, eD.out]
  have hlo : 28 ≤ Civ.mlen y M2 := Civ.mlen_lo y M2 (by omega) (by omega)
  have eE : Hid (regE y m d 1 = if Civ.okD y M2 D2 = true then 0 else 4) := by show _ = _; unfold regE; rw [if_pos rfl, eM.out, eD.out]
  rcases hm with ⟨a1, rfl⟩ | ⟨a1, a2, rfl⟩ | ⟨a1, a2, rfl⟩ <;> rcases hd with ⟨b1, rfl⟩ | ⟨b1, b2, rfl⟩ | ⟨b1, b2, rfl⟩
  all_goals
    clear eM eD
    go_enter Try.func21, Try.ntmps21
    go_wp2_with (first | (go_at_call 14; first | (refine Rets.use1 (month_any _ _ _) ?_; intro _) | (refine Rets.use (month_any _ _ _) ?_; intro _)) | (go_at_call 37; refine Rets.use (rright_any _ _ _ _) ?_; intro _))
  all_goals first
    | (have e4 := reg4 eE.out ‹_›
       exact bodyPost_ret (v := .tuple #[.agg #[.int .i64 0, .int .i64 0, .int .i64 0], .int .i64 4]) (by simp [results, Try.results21, go_sem]) rfl ⟨ret_reg (no4 e4 _) (no4 e4 _) (no4 e4 _) e4, done⟩)
    | (have e0 := reg0 eE.out ‹_›
       exact bodyPost_ret (v := .tuple #[.agg #[.int .i64 y, .int .i64 _, .int .i64 _], .int .i64 0]) (by simp [results, Try.results21, go_sem]) rfl ⟨ret_reg (yes_of e0 _) (yes_of e0 _) (yes_of e0 _) e0, done⟩)

theorem rreg2_cases (y m d : Int) : m < 1 ∨ (decide (m < 1) = false ∧ 12 < m) ∨ (decide (m < 1) = false ∧ decide (12 < m) = false ∧ d < 1) ∨ (decide (m < 1) = false ∧ decide (12 < m) = false ∧ decide (d < 1) = false ∧ Civ.mlen y m < d)
    ∨ (decide (m < 1) = false ∧ decide (12 < m) = false ∧ decide (d < 1) = false ∧ decide (Civ.mlen y m < d) = false) := by
  simp only [decide_eq_false_iff_not]; omega
set_option maxHeartbeats 4000000 in
theorem rregulate_2 (y m d : Int) (w : World) : RegSays 21 y m d 2 w := by
  unfold RegSays
  have hR : regE y m d 2 = (if d < 1 ∨ Civ.mlen y m < d then 5 else if Civ.okD y m d = true then 0 else 4) := by unfold regE; rw [if_neg (by omega), if_pos rfl]
  have eM : regM m 2 = m := if_neg (by omega)
  have eD : regDd y m d 2 = d := if_neg (by omega)
  rw [eM, eD]
  clear eM eD
  have hmo : m < 1 ∨ 12 < m → Civ.mlen y m = 0 := Civ.mlen_out y m
  by_cases hok : d < 1 ∨ Civ.mlen y m < d
  · have e5 : Hid (regE y m d 2 = 5) := by show _ = _; rw [hR, if_pos hok]
    have n5 : Hid (¬ regE y m d 2 = 0) := by show ¬ _; rw [e5.out]; omega
    have hc := rreg2_cases y m d
    have hlast : ¬ (decide (m < 1) = false ∧ decide (12 < m) = false ∧ decide (d < 1) = false ∧ decide (Civ.mlen y m < d) = false) := by simp only [decide_eq_false_iff_not]; omega
    clear hok hR hmo
    rcases hc with c1 | ⟨d1, c1⟩ | ⟨d1, d2, c1⟩ | ⟨d1, d2, d3, c1⟩ | hx
    rotate_right
    · exact absurd hx hlast
    all_goals
      clear hlast
      go_enter Try.func21, Try.ntmps21
      go_wp2_with (go_at_call 14; refine Rets.use (month_any _ _ _) ?_; intro _)
      exact bodyPost_ret (v := .tuple #[.agg #[.int .i64 0, .int .i64 0, .int .i64 0], .int .i64 5]) (by simp [results, Try.results21, go_sem]) rfl ⟨ret_reg (no_of n5.out _) (no_of n5.out _) (no_of n5.out _) e5.out, done⟩
  · rw [if_neg hok] at hR
    have eE := Lib.hid hR
    have d1 : decide (m < 1) = false := decide_eq_false (fun h => by have := hmo (.inl h); omega)
    have d2 : decide (12 < m) = false := decide_eq_false (fun h => by have := hmo (.inr h); omega)
    have d3 : decide (d < 1) = false := decide_eq_false (by omega)
    have d4 : decide (Civ.mlen y m < d) = false := decide_eq_false (by omega)
    have f1 : 1 ≤ m := by simpa using d1
    have f2 : m ≤ 12 := by simpa using d2
    have f3 : 1 ≤ d := by omega
    have f4 : d ≤ Civ.mlen y m := by omega
    clear hmo hok hR
    go_enter Try.func21, Try.ntmps21
    go_wp2_with (first | (go_at_call 14; first | (refine Rets.use1 (month_any _ _ _) ?_; intro _) | (refine Rets.use (month_any _ _ _) ?_; intro _)) | (go_at_call 37; refine Rets.use (rright_any _ _ _ _) ?_; intro _))
    all_goals first
      | (have e4 := reg4 eE.out ‹_›
         exact bodyPost_ret (v := .tuple #[.agg #[.int .i64 0, .int .i64 0, .int .i64 0], .int .i64 4]) (by simp [results, Try.results21, go_sem]) rfl ⟨ret_reg (no4 e4 _) (no4 e4 _) (no4 e4 _) e4, done⟩)
      | (have e0 := reg0 eE.out ‹_›
         exact bodyPost_ret (v := .tuple #[.agg #[.int .i64 y, .int .i64 _, .int .i64 _], .int .i64 0]) (by simp [results, Try.results21, go_sem]) rfl ⟨ret_reg (yes_of e0 _) (yes_of e0 _) (yes_of e0 _) e0, done⟩)
theorem clip_m (m : Int) : (m < 1 ∧ minB 12 (max1 m) = 1) ∨ (1 ≤ m ∧ 12 < m ∧ minB 12 (max1 m) = 12) ∨ (1 ≤ m ∧ m ≤ 12 ∧ minB 12 (max1 m) = m) := by
  unfold minB max1; repeat' split
  all_goals omega
theorem clip_d (L d : Int) (h : 28 ≤ L) : (d < 1 ∧ minB L (max1 d) = 1) ∨ (1 ≤ d ∧ L < d ∧ minB L (max1 d) = L) ∨ (1 ≤ d ∧ d ≤ L ∧ minB L (max1 d) = d) := by
  unfold minB max1; repeat' split
  all_goals omega
theorem rregulate_any (y m d o : Int) (w : World) : RegSays 21 y m d o w := by
  by_cases h1 : o = 1
  · subst h1
    have hm := clip_m m
    have hl : 28 ≤ Civ.mlen y (minB 12 (max1 m)) := Civ.mlen_lo _ _ (by omega) (by omega)
    exact rregulate_1 y m d _ _ w hm (clip_d _ d hl) (by show _ = _; unfold regM; rw [if_pos rfl]) (by show _ = _; unfold regDd regM; rw [if_pos rfl, if_pos rfl])
  · by_cases h2 : o = 2
    · subst h2; exact rregulate_2 y m d w
    · exact rregulate_else y m d o w h1 h2

set_option maxHeartbeats 1000000 in
theorem regulates_any (y m d o : Int) (w : World) : Rets Try.prog 5 #[.int .i64 y, .int .i64 m, .int .i64 d, .int .i64 o] w (.bool true) := by
  obtain ⟨b1, b2⟩ := regE_bd y m d o
  go_enter Try.func5, Try.ntmps5
  go_wp2_with (first
    | (go_at_call 10; refine Rets.use (alive_any _) ?_; intro _)
    | (go_at_call 20; refine Rets.use (regulate_any _ _ _ _ _) ?_; intro _)
    | (go_at_call 21; refine Rets.use (rregulate_any _ _ _ _ _) ?_; intro _))
  go_ret
  exact ⟨rfl, done⟩
end Go.Proofs.Ytapdkpcbglndlaa
