/- Walks of sources: what is wrong is told by what stands up to its line. -/
import Derived.Test.YtdhbgelijjlifaaDoorSrcLive
import Derived.Test.YtdhbgelijjlifaaDoorSrcLawB
import Derived.Test.YtdhbgelijjlifaaDoorFieWalkH
import Derived.Deep.RegionHeld3
set_option linter.unusedVariables false
set_option linter.unusedSimpArgs false
namespace Go.Proofs.YtdhbgelijjlifaaDoor
open Go.RowKit Go.Shelf

set_option maxRecDepth 100000 in
set_option maxHeartbeats 16000000 in
theorem ahead_law (s m : ByteArray) (hs : s.size ≤ maxLen) (hm : m.size ≤ maxLen) (w : World) (hg : GoodW w) : Rets Tryd.prog 3 #[.string s, .string m] w (.bool true) := by
  have HA := fun w h => Lib.hid (slive_any w h)
  unfold Rets
  unfold maxLen at hs hm
  by_cases h1 : 20000 < s.size
  · have g1 : (20000 : Int) < s.size := by omega
    go_enter Tryd.func3, Tryd.ntmps3
    go_wp2_with (go_at_call 4; refine Rets.use (HA _ (hg.ext isext)).out ?_; intro _)
    go_ret
    exact ⟨rfl, done⟩
  have g1 : decide ((20000 : Int) < s.size) = false := decide_eq_false (by omega)
  by_cases h2 : 20000 < m.size
  · have g2 : (20000 : Int) < m.size := by omega
    go_enter Tryd.func3, Tryd.ntmps3
    go_wp2_with (go_at_call 4; refine Rets.use (HA _ (hg.ext isext)).out ?_; intro _)
    go_ret
    exact ⟨rfl, done⟩
  have g2 : decide ((20000 : Int) < m.size) = false := decide_eq_false (by omega)
  have HL := fun w => Lib.hid (rlines_any s w (by omega))
  have HE := fun f h => Lib.hid (Src.text_line (text := s) (by omega) (f := f) h)
  have HT := fun f h hl => Lib.hid (Src.text_ahead (text := s) (more := m) (by omega) (by omega) (f := f) h hl)
  have HP := fun w h => Lib.hid (sparse_any s (by unfold maxLen; omega) w h)
  have HP2 := fun w h => Lib.hid (sparse_any (s ++ ⟨#[10]⟩ ++ m) (by unfold maxLen; rw [Src.app_size, Src.app_size]; show s.size + 1 + m.size ≤ _; omega) w h)
  generalize Fie.lines s 0 = ls at *
  obtain ⟨n, hn⟩ : ∃ n, ls.length = n := ⟨_, rfl⟩
  rw [hn] at HE HT
  have Hnn := Lib.hid hn
  clear hn
  generalize Src.parseT s = P at *
  generalize Src.parseT (s ++ ⟨#[10]⟩ ++ m) = Q at *
  cases P with
  | inr S =>
    clear HE HT HL HP2
    go_enter Tryd.func3, Tryd.ntmps3
    go_wp2_with fail
    go_at_call 5
    refine (HP _ (hg.ext isext)).out.mono ?_
    rintro _ _ ⟨v5, y5, rfl, hr5, rfl⟩
    obtain ⟨p1, p2, p3, rfl, x1, ⟨zp1, -, x2, -⟩, x3⟩ := hr5
    obtain ⟨i1, f1, rfl⟩ := shape_of x1
    obtain ⟨i2, f2, rfl⟩ := shape_of x2
    obtain ⟨i3, f3, rfl⟩ := shape_of x3
    clear x1 x2 x3
    go_wp2_with fail
    refine wp_region_held_drew (S := fun w' => ∃ y : Past ((y5.x.alloc (.cells #[.slice i1 S.rules.length f1, .slice i2 S.zones.length f2, .slice i3 S.links.length f3] 27)).alloc (.cells #[.int .i64 0, .int .i64 0, .int .i64 0] 30)), w' = y.x) (by kernel_rfl) (fin isext) (fun hHeld => ?_)
    refine wpAnyH_take (i := 0) (oi := ⟨some 23, _, _, _, _, _⟩) (v := ?_) rfl (by kernel_rfl) (by kernel_rfl) (by kernel_rfl) (fun _ _ _ h => h) (Or.inl ⟨by rfl, ?_⟩) (by assumption) ?_
    rotate_left
    · rintro w ⟨yS, rfl⟩; go_simp; first | done | (with_reducible rfl) | (rw [if_pos (by omega)]) | (rw [if_neg (by omega)])
    try simp only [Act.put, List.setIfInBounds_toArray, List.set_cons_zero, List.set_cons_succ]
    refine wpAnyH_take (i := 1) (oi := ⟨some 24, _, _, _, _, _⟩) (v := ?_) rfl (by kernel_rfl) (by kernel_rfl) (by kernel_rfl) (fun _ _ _ h => h) (Or.inl ⟨by rfl, ?_⟩) (by assumption) ?_
    rotate_left
    · rintro w ⟨yS, rfl⟩; go_simp; first | done | (with_reducible rfl) | (rw [if_pos (by omega)]) | (rw [if_neg (by omega)])
    try simp only [Act.put, List.setIfInBounds_toArray, List.set_cons_zero, List.set_cons_succ]
    refine wpAnyH_take (i := 2) (oi := ⟨some 25, _, _, _, _, _⟩) (v := ?_) rfl (by kernel_rfl) (by kernel_rfl) (by kernel_rfl) (fun _ _ _ h => h) (Or.inl ⟨by rfl, ?_⟩) (by assumption) ?_
    rotate_left
    · rintro w ⟨yS, rfl⟩; go_simp; first | done | (with_reducible rfl) | (rw [if_pos (by omega)]) | (rw [if_neg (by omega)])
    try simp only [Act.put, List.setIfInBounds_toArray, List.set_cons_zero, List.set_cons_succ]
    refine wpAnyH_take (i := 3) (oi := ⟨some 26, _, _, _, _, _⟩) (v := ?_) rfl (by kernel_rfl) (by kernel_rfl) (by kernel_rfl) (fun _ _ _ h => h) (Or.inl ⟨by rfl, ?_⟩) (by assumption) ?_
    rotate_left
    · rintro w ⟨yS, rfl⟩; go_simp; first | done | (with_reducible rfl) | (rw [if_pos (by omega)]) | (rw [if_neg (by omega)])
    try simp only [Act.put, List.setIfInBounds_toArray, List.set_cons_zero, List.set_cons_succ]
    refine wpAnyH_take (i := 4) (oi := ⟨some 27, _, _, _, _, _⟩) (v := undef) rfl (by kernel_rfl) (by kernel_rfl) (by kernel_rfl) (fun _ _ _ h => h) (Or.inr ⟨by rfl, rfl⟩) (by assumption) ?_
    try simp only [Act.put, List.setIfInBounds_toArray, List.set_cons_zero, List.set_cons_succ]
    refine wpAnyH_take (i := 5) (oi := ⟨some 28, _, _, _, _, _⟩) (v := undef) rfl (by kernel_rfl) (by kernel_rfl) (by kernel_rfl) (fun _ _ _ h => h) (Or.inr ⟨by rfl, rfl⟩) (by assumption) ?_
    try simp only [Act.put, List.setIfInBounds_toArray, List.set_cons_zero, List.set_cons_succ]
    refine wpAnyH_take (i := 6) (oi := ⟨some 29, _, _, _, _, _⟩) (v := undef) rfl (by kernel_rfl) (by kernel_rfl) (by kernel_rfl) (fun _ _ _ h => h) (Or.inr ⟨by rfl, rfl⟩) (by assumption) ?_
    try simp only [Act.put, List.setIfInBounds_toArray, List.set_cons_zero, List.set_cons_succ]
    refine wpAnyH_take (i := 7) (oi := ⟨some 30, _, _, _, _, _⟩) (v := undef) rfl (by kernel_rfl) (by kernel_rfl) (by kernel_rfl) (fun _ _ _ h => h) (Or.inr ⟨by rfl, rfl⟩) (by assumption) ?_
    try simp only [Act.put, List.setIfInBounds_toArray, List.set_cons_zero, List.set_cons_succ]
    refine wpAnyH_take (i := 8) (oi := ⟨some 31, _, _, _, _, _⟩) (v := undef) rfl (by kernel_rfl) (by kernel_rfl) (by kernel_rfl) (fun _ _ _ h => h) (Or.inr ⟨by rfl, rfl⟩) (by assumption) ?_
    try simp only [Act.put, List.setIfInBounds_toArray, List.set_cons_zero, List.set_cons_succ]
    refine wpAnyH_take (i := 9) (oi := ⟨some 32, _, _, _, _, _⟩) (v := undef) rfl (by kernel_rfl) (by kernel_rfl) (by kernel_rfl) (fun _ _ _ h => h) (Or.inr ⟨by rfl, rfl⟩) (by assumption) ?_
    try simp only [Act.put, List.setIfInBounds_toArray, List.set_cons_zero, List.set_cons_succ]
    refine wpAnyH_take (i := 10) (oi := ⟨some 33, _, _, _, _, _⟩) (v := ?_) rfl (by kernel_rfl) (by kernel_rfl) (by kernel_rfl) (fun _ _ _ h => h) (Or.inl ⟨by rfl, ?_⟩) (by assumption) ?_
    rotate_left
    · rintro w ⟨yS, rfl⟩; go_simp; first | done | (with_reducible rfl) | (rw [if_pos (by omega)]) | (rw [if_neg (by omega)])
    try simp only [Act.put, List.setIfInBounds_toArray, List.set_cons_zero, List.set_cons_succ]
    refine wpAnyH_done (by kernel_rfl) ?_ _
    go_wp2_with (go_at_call 4; refine Rets.use (HA _ (hg.ext isext)).out ?_; intro _)
    go_ret
    exact ⟨rfl, done⟩
  | inl f =>
    obtain ⟨e, l1, a1⟩ := f
    obtain ⟨fe, fl, fx⟩ := (HE _ rfl).out
    have HX := Lib.hid fx
    simp only at fe fl
    have g3 : (e == 0) = false := beq_eq_false_iff_ne.2 fe
    have g4 : (l1 == 0) = false := beq_eq_false_iff_ne.2 (by omega)
    clear HE fx
    go_enter Tryd.func3, Tryd.ntmps3
    go_wp2_with fail
    go_at_call 5
    refine (HP _ (hg.ext isext)).out.mono ?_
    rintro _ _ ⟨rfl, y5, rfl⟩
    go_wp2_with fail
    clear HP
    refine wp_region_held_drew (S := fun w' => ∃ y : Past ((y5.x.alloc (.cells #[.slice none 0 0, .slice none 0 0, .slice none 0 0] 27)).alloc (.cells #[.int .i64 e, .int .i64 l1, .int .i64 a1] 30)), w' = y.x) (by kernel_rfl) (fin isext) (fun hHeld => ?_)
    refine wpAnyH_take (i := 0) (oi := ⟨some 23, _, _, _, _, _⟩) (v := ?_) rfl (by kernel_rfl) (by kernel_rfl) (by kernel_rfl) (fun _ _ _ h => h) (Or.inl ⟨by rfl, ?_⟩) (by assumption) ?_
    rotate_left
    · rintro w ⟨yS, rfl⟩; go_simp; first | done | (with_reducible rfl) | (rw [if_pos (by omega)]) | (rw [if_neg (by omega)])
    try simp only [Act.put, List.setIfInBounds_toArray, List.set_cons_zero, List.set_cons_succ]
    refine wpAnyH_take (i := 1) (oi := ⟨some 24, _, _, _, _, _⟩) (v := ?_) rfl (by kernel_rfl) (by kernel_rfl) (by kernel_rfl) (fun _ _ _ h => h) (Or.inl ⟨by rfl, ?_⟩) (by assumption) ?_
    rotate_left
    · rintro w ⟨yS, rfl⟩; go_simp; first | done | (with_reducible rfl) | (rw [if_pos (by omega)]) | (rw [if_neg (by omega)])
    try simp only [Act.put, List.setIfInBounds_toArray, List.set_cons_zero, List.set_cons_succ]
    refine wpAnyH_take (i := 2) (oi := ⟨some 25, _, _, _, _, _⟩) (v := ?_) rfl (by kernel_rfl) (by kernel_rfl) (by kernel_rfl) (fun _ _ _ h => h) (Or.inl ⟨by rfl, ?_⟩) (by assumption) ?_
    rotate_left
    · rintro w ⟨yS, rfl⟩; go_simp; first | done | (with_reducible rfl) | (rw [if_pos (by omega)]) | (rw [if_neg (by omega)])
    try simp only [Act.put, List.setIfInBounds_toArray, List.set_cons_zero, List.set_cons_succ]
    refine wpAnyH_take (i := 3) (oi := ⟨some 26, _, _, _, _, _⟩) (v := ?_) rfl (by kernel_rfl) (by kernel_rfl) (by kernel_rfl) (fun _ _ _ h => h) (Or.inl ⟨by rfl, ?_⟩) (by assumption) ?_
    rotate_left
    · rintro w ⟨yS, rfl⟩; go_simp; first | done | (with_reducible rfl) | (rw [if_pos (by omega)]) | (rw [if_neg (by omega)])
    try simp only [Act.put, List.setIfInBounds_toArray, List.set_cons_zero, List.set_cons_succ]
    refine wpAnyH_take (i := 4) (oi := ⟨some 27, _, _, _, _, _⟩) (v := ?_) rfl (by kernel_rfl) (by kernel_rfl) (by kernel_rfl) (fun _ _ _ h => h) (Or.inl ⟨by rfl, ?_⟩) (by assumption) ?_
    rotate_left
    · rintro w ⟨yS, rfl⟩; go_simp; first | done | (with_reducible rfl) | (rw [if_pos (by omega)]) | (rw [if_neg (by omega)])
    try simp only [Act.put, List.setIfInBounds_toArray, List.set_cons_zero, List.set_cons_succ]
    refine wpAnyH_take (i := 5) (oi := ⟨some 28, _, _, _, _, _⟩) (v := ?_) rfl (by kernel_rfl) (by kernel_rfl) (by kernel_rfl) (fun _ _ _ h => h) (Or.inl ⟨by rfl, ?_⟩) (by assumption) ?_
    rotate_left
    · rintro w ⟨yS, rfl⟩; go_simp; first | done | (with_reducible rfl) | (rw [if_pos (by omega)]) | (rw [if_neg (by omega)])
    try simp only [Act.put, List.setIfInBounds_toArray, List.set_cons_zero, List.set_cons_succ]
    refine wpAnyH_take (i := 6) (oi := ⟨some 29, _, _, _, _, _⟩) (v := ?_) rfl (by kernel_rfl) (by kernel_rfl) (by kernel_rfl) (fun _ _ _ h => h) (Or.inl ⟨by rfl, ?_⟩) (by assumption) ?_
    rotate_left
    · rintro w ⟨yS, rfl⟩; go_simp; first | done | (with_reducible rfl) | (rw [if_pos (by omega)]) | (rw [if_neg (by omega)])
    try simp only [Act.put, List.setIfInBounds_toArray, List.set_cons_zero, List.set_cons_succ]
    refine wpAnyH_ready (rs := [7]) (by kernel_rfl) (by simp) ?_
    refine AllReadyH.cons (o := ⟨some 30, _, _, _, _, _⟩) rfl (fun K hK => ?_) ?_
    · go_simp
      refine (HL _).out.mono ?_; rintro _ _ ⟨v, y, rfl, hown, rfl⟩; rw [Hnn.out] at hown; obtain ⟨av, cv, rfl⟩ := owns_shape hown; clear hown
      refine hK.out _ _ ?_ (fun hHeld => ?_)
      · exact fin isext
      clear hK K
      try simp only [Act.put, List.setIfInBounds_toArray, List.set_cons_zero, List.set_cons_succ]
      refine wpAnyH_take (i := 8) (oi := ⟨some 31, _, _, _, _, _⟩) (v := ?_) rfl (by kernel_rfl) (by kernel_rfl) (by kernel_rfl) (fun _ _ _ h => h) (Or.inl ⟨by rfl, ?_⟩) (by assumption) ?_
      rotate_left
      · rintro w ⟨yS, rfl⟩; go_simp; first | done | (with_reducible rfl) | (rw [if_pos (by omega)]) | (rw [if_neg (by omega)])
      try simp only [Act.put, List.setIfInBounds_toArray, List.set_cons_zero, List.set_cons_succ]
      refine wpAnyH_take (i := 9) (oi := ⟨some 32, _, _, _, _, _⟩) (v := ?_) rfl (by kernel_rfl) (by kernel_rfl) (by kernel_rfl) (fun _ _ _ h => h) (Or.inl ⟨by rfl, ?_⟩) (by assumption) ?_
      rotate_left
      · rintro w ⟨yS, rfl⟩; go_simp; first | done | (with_reducible rfl) | (rw [if_pos (by omega)]) | (rw [if_neg (by omega)])
      try simp only [Act.put, List.setIfInBounds_toArray, List.set_cons_zero, List.set_cons_succ]
      refine wpAnyH_take (i := 10) (oi := ⟨some 33, _, _, _, _, _⟩) (v := ?_) rfl (by kernel_rfl) (by kernel_rfl) (by kernel_rfl) (fun _ _ _ h => h) (Or.inl ⟨by rfl, ?_⟩) (by assumption) ?_
      rotate_left
      · rintro w ⟨yS, rfl⟩; go_simp; first | done | (with_reducible rfl) | (rw [if_pos (by omega)]) | (rw [if_neg (by omega)])
      try simp only [Act.put, List.setIfInBounds_toArray, List.set_cons_zero, List.set_cons_succ]
      refine wpAnyH_done (by kernel_rfl) ?_ _
      by_cases hgt : (n : Int) < l1
      · obtain ⟨rfl, rfl⟩ := HX.out hgt
        clear HT HX HP2
        go_wp2_with (go_at_call 4; refine Rets.use (HA _ (hg.ext isext)).out ?_; intro _)
        go_ret
        exact ⟨ret_bool (by simp [*]), done⟩
      · have g5 : decide ((n : Int) < l1) = false := decide_eq_false hgt
        have hQ := (HT _ rfl (by simp only; omega)).out
        clear HT HX
        subst hQ
        go_wp2_with fail
        go_at_call 5
        refine (HP2 _ (hg.ext isext)).out.mono ?_
        rintro _ _ ⟨rfl, y7, rfl⟩
        go_wp2_with (go_at_call 4; refine Rets.use (HA _ (hg.ext isext)).out ?_; intro _)
        go_ret
        exact ⟨ret_bool (by simp [*]), done⟩
    exact AllReadyH.nil
theorem aheadlaw_row (s m : ByteArray) (hs : s.size ≤ maxLen) (hm : m.size ≤ maxLen) (w : World) (hg : GoodW w) : Rets Tryd.prog 3 #[.string s, .string m] w (.bool true) :=
  ahead_law s m hs hm w hg
end Go.Proofs.YtdhbgelijjlifaaDoor
