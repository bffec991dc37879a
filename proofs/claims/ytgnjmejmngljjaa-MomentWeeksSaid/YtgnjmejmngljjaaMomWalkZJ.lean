/- Walks of moments: the law of weeks. -/
import Derived.Test.YtgnjmejmngljjaaMomWalkX
import Derived.Test.YtgnjmejmngljjaaCivWalkJ
set_option linter.unusedVariables false
set_option linter.unusedSimpArgs false
namespace Go.Proofs.Ytgnjmejmngljjaa
open Go.RowKit

/-- Where a spot that names a weekday falls. -/
theorem weeks_plain {m k wd d t r y : Int} (hR : Mom.rightB m k wd d t r = true) (hk : k ≠ 0) (y1 : 1 ≤ y) (y2 : y ≤ 270000) :
    ∃ N F L : Int, (∀ k' wd' d' t' r', Mom.rightB m k' wd' d' t' r' = true → Mom.onB m k' wd' d' t' r' y = true ∧ Mom.onV m k' wd' d' t' r' y = Mom.fallI k' wd' d' F L) ∧ Mom.onB m k wd d t r y = true ∧ Mom.onV m k wd d t r y = N ∧ N = Mom.fallI k wd d F L ∧ L = Civ.mlen y m ∧ 28 ≤ L ∧ L ≤ 31 ∧ -1000000 ≤ F ∧ F ≤ 99000000 ∧ inR N = true ∧
      wday (Civ.dy N) (Civ.dm N) (Civ.dd N) = wd ∧ 1 ≤ wd ∧ wd ≤ 7 ∧ (k = 1 → Civ.dm N = m ∧ L - 7 < Civ.dd N) := by
  obtain ⟨m1, m2, t1, t2, r1, r2, hc⟩ := Mom.right_all hR
  obtain ⟨l1, l2⟩ := Civ.mlen_bd y m
  have l3 := Civ.mlen_lo y m m1 m2
  have hcum := Civ.cum_bd y m m1 (by omega)
  have hlp := Civ.lp_01 y
  have hF1 : -1000000 ≤ Civ.num y m 1 ∧ Civ.num y m 1 ≤ 99000000 := by
    unfold Civ.num Civ.jan; omega
  have hok : Civ.okD y m 1 = true := Civ.okD_mk y m 1 ⟨m1, m2, by omega, by omega⟩ (by omega) (by omega)
  have hall : ∀ k' wd' d' t' r', Mom.rightB m k' wd' d' t' r' = true → Mom.onB m k' wd' d' t' r' y = true ∧ Mom.onV m k' wd' d' t' r' y = Mom.fallI k' wd' d' (Civ.num y m 1) (Civ.mlen y m) := by
    intro k' wd' d' t' r' h'
    obtain ⟨-, -, -, -, -, -, hc'⟩ := Mom.right_all h'
    have hle : Mom.onI m k' wd' d' y ≤ 100000000 := by
      unfold Mom.onI
      have b1 := Mom.back_bd (Civ.num y m 1 + Civ.mlen y m - 1) wd'
      have b2 := Mom.back_bd (Civ.num y m 1 + d' + 5) wd'
      have b3 := Mom.back_bd (Civ.num y m 1 + d' - 1) wd'
      rcases hc' with ⟨h, _⟩ | ⟨h, _⟩ | ⟨h, _⟩ | ⟨h, _⟩
      · rw [Mom.fall_0 h]; omega
      · rw [Mom.fall_1 h]; omega
      · rw [Mom.fall_2 h]; omega
      · rw [Mom.fall_3 h]; omega
    have hb := Mom.onB_yes h' y1 (by omega) hok hle
    exact ⟨hb, (Mom.onV_yes hb).trans rfl⟩
  obtain ⟨hb, hv⟩ := hall k wd d t r hR
  have hwd : 1 ≤ wd ∧ wd ≤ 7 := by omega
  have hN : Mom.fallI k wd d (Civ.num y m 1) (Civ.mlen y m) = Mom.fallI k wd d (Civ.num y m 1) (Civ.mlen y m) := rfl
  have hfall : ∃ z, Mom.fallI k wd d (Civ.num y m 1) (Civ.mlen y m) = z - Mom.backI z wd ∧ z ≤ 99900000 ∧ -1000000 ≤ z := by
    rcases hc with ⟨h, _⟩ | ⟨h, _⟩ | ⟨h, _⟩ | ⟨h, _⟩
    · omega
    · exact ⟨_, Mom.fall_1 h, by omega, by omega⟩
    · exact ⟨_, Mom.fall_2 h, by omega, by omega⟩
    · exact ⟨_, Mom.fall_3 h, by omega, by omega⟩
  obtain ⟨z, hz, z1, z2⟩ := hfall
  have b0 := Mom.back_bd z wd
  have hin : -100000001 ≤ Mom.fallI k wd d (Civ.num y m 1) (Civ.mlen y m) ∧ Mom.fallI k wd d (Civ.num y m 1) (Civ.mlen y m) ≤ 100000000 := by omega
  obtain ⟨o1, o2⟩ := Civ.of_ok (Mom.fallI k wd d (Civ.num y m 1) (Civ.mlen y m))
  refine ⟨_, _, _, hall, hb, hv, rfl, rfl, l3, l2, hF1.1, hF1.2, inR_mk hin.1 hin.2, ?_, hwd.1, hwd.2, ?_⟩
  · rw [wday_yes _ _ _ (Civ.okD_mk _ _ _ o1 (by rw [o2]; exact hin.1) (by rw [o2]; exact hin.2)), o2, hz]
    exact Mom.back_wd hwd.1 hwd.2
  · intro h1
    have hf := Mom.fall_1 (wd := wd) (d := d) (f := Civ.num y m 1) (len := Civ.mlen y m) h1
    have bb := Mom.back_bd (Civ.num y m 1 + Civ.mlen y m - 1) wd
    have hu := Civ.of_unique (Mom.fallI k wd d (Civ.num y m 1) (Civ.mlen y m)) y m (Civ.mlen y m - Mom.backI (Civ.num y m 1 + Civ.mlen y m - 1) wd) ⟨m1, m2, by omega, by omega⟩ (by rw [hf]; unfold Civ.num; omega)
    obtain ⟨-, u2, u3⟩ := hu
    rw [← u2, ← u3]
    exact ⟨rfl, by omega⟩
set_option maxRecDepth 100000 in
set_option maxHeartbeats 4000000 in
theorem weeks_no (m k wd d t r y : Int) (w : World) (mx : Int) (hm : w.cell? ⟨0, 0, none⟩ = some (.int .i64 mx)) (hw0 : 0 < w.heap.size)
    (h : Mom.rightB m k wd d t r = false ∨ (Mom.rightB m k wd d t r = true ∧ k = 0) ∨ (Mom.rightB m k wd d t r = true ∧ (k == 0) = false ∧ y < 1) ∨ (Mom.rightB m k wd d t r = true ∧ (k == 0) = false ∧ decide (y < 1) = false ∧ 270000 < y)) :
    Rets Try.prog 7 #[spotA m k wd d t r, .int .i64 y] w (.bool true) := by
  haveI : InW 0 w := ⟨hw0⟩
  have H1 := fun w => Lib.hid (right_whole m k wd d t r w)
  unfold Rets
  rcases h with h | ⟨h, rfl⟩ | ⟨h, g1, g2⟩ | ⟨h, g1, g2, g3⟩
  all_goals
    rw [h] at H1
    clear h
    go_enter Try.func7, Try.ntmps7
    go_wp2_with (first | (go_at_call 25; refine Rets.use (H1 _).out ?_; intro _) | (go_at_call 14; refine Rets.use (malive_any _ mx (max_at isext hw0 hm) (Nat.lt_of_lt_of_le hw0 (Below.size isext))) ?_; intro _))
    go_ret
    exact ⟨rfl, done⟩
set_option maxRecDepth 100000 in
set_option maxHeartbeats 4000000 in
theorem weeks_1 (m wd d t r y N L q p : Int) (w : World) (mx : Int) (hm : w.cell? ⟨0, 0, none⟩ = some (.int .i64 mx)) (hw0 : 0 < w.heap.size) (y1 : 1 ≤ y) (y2 : y ≤ 270000) (l1 : 28 ≤ L) (l2 : L ≤ 31) (hq : L - 7 < q)
    (H1 : ∀ w, Rets Try.prog 25 #[spotA m 1 wd d t r] w (.bool true))
    (H2 : ∀ w, Rets Try.prog 17 #[spotA m 1 wd d t r, .int .i64 y] w (.tuple #[.int .i64 N, .bool true]))
    (H3 : ∀ w, Rets Try.prog 26 #[.int .i64 N] w (.tuple #[.agg #[.int .i64 p, .int .i64 m, .int .i64 q], .bool true]))
    (H4 : ∀ w, Rets Try.prog 27 #[.agg #[.int .i64 p, .int .i64 m, .int .i64 q]] w (.int .i64 wd))
    (H5 : ∀ w, Rets Try.prog 28 #[.int .i64 y, .int .i64 m] w (.int .i64 L))
    (H6 : ∀ w, Rets Try.prog 17 #[spotA m 3 wd L t r, .int .i64 y] w (.tuple #[.int .i64 N, .bool true])) :
    Rets Try.prog 7 #[spotA m 1 wd d t r, .int .i64 y] w (.bool true) := by
  haveI : InW 0 w := ⟨hw0⟩
  have H1 := fun w => Lib.hid (H1 w)
  have H2 := fun w => Lib.hid (H2 w)
  have H3 := fun w => Lib.hid (H3 w)
  have H4 := fun w => Lib.hid (H4 w)
  have H5 := fun w => Lib.hid (H5 w)
  have H6 := fun w => Lib.hid (H6 w)
  have g1 : decide (y < 1) = false := decide_eq_false (by omega)
  have g2 : decide (270000 < y) = false := decide_eq_false (by omega)
  unfold Rets
  go_enter Try.func7, Try.ntmps7
  go_wp2_with (first | (go_at_call 25; refine Rets.use (H1 _).out ?_; intro _) | (go_at_call 17; refine Rets.use (H2 _).out ?_; intro _) | (go_at_call 26; refine Rets.use (H3 _).out ?_; intro _))
  refine wp_region_past (by kernel_rfl) (by kernel_rfl) ?_
  repeat (go_big_quiet_step ((go_at_call 27; exact Rets.quiet (H4 _).out)))
  refine wpQuiet_nil ?_
  intro _
  go_wp2_with (first | (go_at_call 28; refine Rets.use (H5 _).out ?_; intro _) | (go_at_call 17; refine Rets.use (H6 _).out ?_; intro _) | (go_at_call 14; refine Rets.use (malive_any _ mx (max_at isext hw0 hm) (Nat.lt_of_lt_of_le hw0 (Below.size isext))) ?_; intro _))
  go_ret
  exact ⟨rfl, done⟩
set_option maxRecDepth 100000 in
set_option maxHeartbeats 4000000 in
theorem weeks_23 (m k wd d t r y N M p o q : Int) (w : World) (mx : Int) (hm : w.cell? ⟨0, 0, none⟩ = some (.int .i64 mx)) (hw0 : 0 < w.heap.size) (y1 : 1 ≤ y) (y2 : y ≤ 270000) (hM1 : -100000000 ≤ M) (hM2 : M ≤ 100000000) (hk : (k = 2 ∧ M ≤ N ∧ N < M + 7) ∨ (k = 3 ∧ N ≤ M ∧ M - 7 < N))
    (H1 : ∀ w, Rets Try.prog 25 #[spotA m k wd d t r] w (.bool true))
    (H2 : ∀ w, Rets Try.prog 17 #[spotA m k wd d t r, .int .i64 y] w (.tuple #[.int .i64 N, .bool true]))
    (H3 : ∀ w, Rets Try.prog 26 #[.int .i64 N] w (.tuple #[.agg #[.int .i64 p, .int .i64 o, .int .i64 q], .bool true]))
    (H4 : ∀ w, Rets Try.prog 27 #[.agg #[.int .i64 p, .int .i64 o, .int .i64 q]] w (.int .i64 wd))
    (L : Int) (H5 : ∀ w, Rets Try.prog 28 #[.int .i64 y, .int .i64 m] w (.int .i64 L))
    (H6 : ∀ w, Rets Try.prog 17 #[spotA m 0 0 d 0 0, .int .i64 y] w (.tuple #[.int .i64 M, .bool true])) :
    Rets Try.prog 7 #[spotA m k wd d t r, .int .i64 y] w (.bool true) := by
  haveI : InW 0 w := ⟨hw0⟩
  have H1 := fun w => Lib.hid (H1 w)
  have H2 := fun w => Lib.hid (H2 w)
  have H3 := fun w => Lib.hid (H3 w)
  have H4 := fun w => Lib.hid (H4 w)
  have H5 := fun w => Lib.hid (H5 w)
  have H6 := fun w => Lib.hid (H6 w)
  have g1 : decide (y < 1) = false := decide_eq_false (by omega)
  have g2 : decide (270000 < y) = false := decide_eq_false (by omega)
  unfold Rets
  rcases hk with ⟨rfl, c1, c2⟩ | ⟨rfl, c1, c2⟩
  all_goals
    go_enter Try.func7, Try.ntmps7
    go_wp2_with (first | (go_at_call 25; refine Rets.use (H1 _).out ?_; intro _) | (go_at_call 17; refine Rets.use (H2 _).out ?_; intro _) | (go_at_call 26; refine Rets.use (H3 _).out ?_; intro _))
    refine wp_region_past (by kernel_rfl) (by kernel_rfl) ?_
    repeat (go_big_quiet_step ((go_at_call 27; exact Rets.quiet (H4 _).out)))
    refine wpQuiet_nil ?_
    intro _
    go_wp2_with (first | (go_at_call 28; refine Rets.use (H5 _).out ?_; intro _) | (go_at_call 17; refine Rets.use (H6 _).out ?_; intro _) | (go_at_call 14; refine Rets.use (malive_any _ mx (max_at isext hw0 hm) (Nat.lt_of_lt_of_le hw0 (Below.size isext))) ?_; intro _))
    go_ret
    exact ⟨rfl, done⟩
theorem weekslaw_any (m k wd d t r y : Int) (w : World) (mx : Int) (hm : w.cell? ⟨0, 0, none⟩ = some (.int .i64 mx)) (hw0 : 0 < w.heap.size) :
    Rets Try.prog 7 #[spotA m k wd d t r, .int .i64 y] w (.bool true) := by
  cases hR : Mom.rightB m k wd d t r
  · exact weeks_no m k wd d t r y w mx hm hw0 (.inl hR)
  by_cases hk : k = 0
  · exact weeks_no m k wd d t r y w mx hm hw0 (.inr (.inl ⟨hR, hk⟩))
  have hk' : (k == 0) = false := by simpa using hk
  by_cases y1 : y < 1
  · exact weeks_no m k wd d t r y w mx hm hw0 (.inr (.inr (.inl ⟨hR, hk', y1⟩)))
  by_cases y2 : 270000 < y
  · exact weeks_no m k wd d t r y w mx hm hw0 (.inr (.inr (.inr ⟨hR, hk', decide_eq_false y1, y2⟩)))
  obtain ⟨N, F, L, hall, hb, hv, hN, hL, l1, l2, f1, f2, hin, hw, w1, w2, h1⟩ := weeks_plain hR hk (by omega : 1 ≤ y) (by omega)
  have H1 := fun w => right_whole m k wd d t r w
  have H2 := fun w => on_any m k wd d t r y w
  have H3 := fun w => of_any N w
  have H4 := fun w => cwday_any (Civ.dy N) (Civ.dm N) (Civ.dd N) w
  have H5 := fun w => monthlen_any y m w
  rw [hR] at H1
  rw [hb, hv] at H2
  rw [hin] at H3
  simp only [orZ, if_true] at H3
  rw [hw] at H4
  rw [← hL] at H5
  obtain ⟨-, -, -, -, -, -, hc⟩ := Mom.right_all hR
  obtain ⟨m1, m2, t1, t2, r1, r2, -⟩ := Mom.right_all hR
  rcases hc with ⟨h, _⟩ | ⟨h, a1, a2, a3⟩ | ⟨h, a1, a2, a3, a4⟩ | ⟨h, a1, a2, a3, a4⟩
  · exact absurd h hk
  · obtain ⟨e1, e2⟩ := h1 h
    subst h
    rw [e1] at H3 H4
    have hr3 : Mom.rightB m 3 wd L t r = true := by
      unfold Mom.rightB Mom.tailOkB
      rw [decide_eq_true (show Mom.headOk m 3 t r from ⟨m1, m2, by omega, by omega, t1, t2, r1, r2⟩), decide_eq_true (by omega)]; rfl
    have hx := hall 3 wd L t r hr3
    have H6 := fun w => on_any m 3 wd L t r y w
    rw [hx.1, hx.2, Mom.fall_3 rfl] at H6
    rw [Mom.fall_1 rfl] at hN
    rw [← hN] at H6
    exact weeks_1 m wd d t r y N L (Civ.dd N) (Civ.dy N) w mx hm hw0 (by omega) (by omega) l1 l2 e2 H1 H2 H3 H4 H5 H6
  all_goals
    have hr0 : Mom.rightB m 0 0 d 0 0 = true := by
      unfold Mom.rightB Mom.tailOkB
      rw [decide_eq_true (show Mom.headOk m 0 0 0 from ⟨m1, m2, by omega, by omega, by omega, by omega, by omega, by omega⟩), decide_eq_true (by omega)]; rfl
    have hx := hall 0 0 d 0 0 hr0
    have H6 := fun w => on_any m 0 0 d 0 0 y w
    rw [hx.1, hx.2, Mom.fall_0 rfl] at H6
    have bA := Mom.back_bd (F + d + 5) wd
    have bB := Mom.back_bd (F + d - 1) wd
    first | rw [Mom.fall_2 h] at hN | rw [Mom.fall_3 h] at hN
    exact weeks_23 m k wd d t r y N (F + d - 1) (Civ.dy N) (Civ.dm N) (Civ.dd N) w mx hm hw0 (by omega) (by omega) (by omega) (by omega) (by omega) H1 H2 H3 H4 L H5 H6
end Go.Proofs.Ytgnjmejmngljjaa
