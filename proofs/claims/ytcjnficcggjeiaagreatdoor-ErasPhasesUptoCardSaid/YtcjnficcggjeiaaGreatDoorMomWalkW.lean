/- Walks of moments: the day on which a spot falls. -/
import Derived.Test.YtcjnficcggjeiaaGreatDoorMomWalkP
import Derived.Test.YtcjnficcggjeiaaGreatDoorMomPlainF
import Derived.Test.YtcjnficcggjeiaaGreatDoorCivWalkJ
import Derived.Test.YtcjnficcggjeiaaGreatDoorMomWalkQ
set_option linter.unusedVariables false
set_option linter.unusedSimpArgs false
namespace Go.Proofs.YtcjnficcggjeiaaGreatDoor
open Go.RowKit

set_option maxHeartbeats 1000000 in
theorem back_any (n wd : Int) (w : World) (h1 : -1000000000 ≤ n) (h2 : n ≤ 1000000000) (h3 : 1 ≤ wd) (h4 : wd ≤ 7) : Rets Tryz.prog 111 #[.int .i64 n, .int .i64 wd] w (.int .i64 (Mom.backI n wd)) := by
  have c2 : (n + 3 - wd + 1).tmod 7 < 7 := Int.tmod_lt_of_pos _ (show (0 : Int) < 7 by omega)
  have c3 : - 7 < (n + 3 - wd + 1).tmod 7 := by have := Int.lt_tmod_of_pos (n + 3 - wd + 1) (show (0 : Int) < 7 by omega); omega
  unfold Rets
  go_enter Tryz.func111, Tryz.ntmps111
  go_wp2
  · have := tmod_neg (n + 3 - wd + 1) 7 (by omega) ‹_›
    go_ret
    exact ⟨ret_int this.2, done⟩
  · have := tmod_pos (n + 3 - wd + 1) 7 (by omega) ‹_›
    go_ret
    exact ⟨ret_int this.2, done⟩
abbrev monthA (f len : Int) : Value := .agg #[.int .i64 f, .int .i64 len]
set_option maxHeartbeats 1000000 in
theorem day_any (f len m k wd d t r : Int) (w : World) (h1 : -600000000 ≤ f) (h2 : f ≤ 600000000) (h3 : 0 ≤ d) (h4 : d ≤ 31) : Rets Tryz.prog 87 #[monthA f len, spotA m k wd d t r] w (.int .i64 (f + d - 1)) := by
  unfold Rets
  go_enter Tryz.func87, Tryz.ntmps87
  go_wp2
  go_ret
  exact ⟨rfl, done⟩
set_option maxHeartbeats 1000000 in
theorem last_any (f len m k wd d t r : Int) (w : World) (h1 : -600000000 ≤ f) (h2 : f ≤ 600000000) (h3 : 0 ≤ len) (h4 : len ≤ 31) (h5 : 1 ≤ wd) (h6 : wd ≤ 7) : Rets Tryz.prog 88 #[monthA f len, spotA m k wd d t r] w (.int .i64 (f + len - 1 - Mom.backI (f + len - 1) wd)) := by
  obtain ⟨b1, b2⟩ := Mom.back_bd (f + len - 1) wd
  have H := fun w => Lib.hid (back_any (f + len - 1) wd w (by omega) (by omega) h5 h6)
  generalize hb : Mom.backI (f + len - 1) wd = B at *
  clear hb
  unfold Rets
  go_enter Tryz.func88, Tryz.ntmps88
  go_wp2_with (go_at_call 111; refine Rets.use (H _).out ?_; intro _)
  go_ret
  exact ⟨rfl, done⟩
set_option maxHeartbeats 1000000 in
theorem after_any (f len m k wd d t r : Int) (w : World) (h1 : -600000000 ≤ f) (h2 : f ≤ 600000000) (h3 : 0 ≤ d) (h4 : d ≤ 31) (h5 : 1 ≤ wd) (h6 : wd ≤ 7) : Rets Tryz.prog 89 #[monthA f len, spotA m k wd d t r] w (.int .i64 (f + d + 5 - Mom.backI (f + d + 5) wd)) := by
  obtain ⟨b1, b2⟩ := Mom.back_bd (f + d + 5) wd
  have H := fun w => Lib.hid (back_any (f + d + 5) wd w (by omega) (by omega) h5 h6)
  generalize hb : Mom.backI (f + d + 5) wd = B at *
  clear hb
  unfold Rets
  go_enter Tryz.func89, Tryz.ntmps89
  go_wp2_with (go_at_call 111; refine Rets.use (H _).out ?_; intro _)
  go_ret
  exact ⟨rfl, done⟩
set_option maxHeartbeats 1000000 in
theorem ahead_any (f len m k wd d t r : Int) (w : World) (h1 : -600000000 ≤ f) (h2 : f ≤ 600000000) (h3 : 0 ≤ d) (h4 : d ≤ 31) (h5 : 1 ≤ wd) (h6 : wd ≤ 7) : Rets Tryz.prog 90 #[monthA f len, spotA m k wd d t r] w (.int .i64 (f + d - 1 - Mom.backI (f + d - 1) wd)) := by
  obtain ⟨b1, b2⟩ := Mom.back_bd (f + d - 1) wd
  have H := fun w => Lib.hid (back_any (f + d - 1) wd w (by omega) (by omega) h5 h6)
  generalize hb : Mom.backI (f + d - 1) wd = B at *
  clear hb
  unfold Rets
  go_enter Tryz.func90, Tryz.ntmps90
  go_wp2_with (go_at_call 111; refine Rets.use (H _).out ?_; intro _)
  go_ret
  exact ⟨rfl, done⟩
end Go.Proofs.YtcjnficcggjeiaaGreatDoor
set_option linter.unusedVariables false
set_option linter.unusedSimpArgs false
namespace Go.Proofs.YtcjnficcggjeiaaGreatDoor
open Go.RowKit

theorem right_whole (m k wd d t r : Int) (w : World) : Rets Tryz.prog 70 #[spotA m k wd d t r] w (.bool (Mom.rightB m k wd d t r)) := by
  by_cases h : Mom.headOk m k t r
  · rw [Mom.right_head h]; exact right_tail_any m k wd d t r w h
  · rw [Mom.right_head_no h]; exact right_head_any m k wd d t r w h
theorem rright_whole (m k wd d t r : Int) (w : World) : Rets Tryz.prog 35 #[spotA m k wd d t r] w (.bool (Mom.rightB m k wd d t r)) := by
  by_cases h : Mom.headOk m k t r
  · rw [Mom.right_head h]; exact rright_tail_any m k wd d t r w h
  · rw [Mom.right_head_no h]; exact rright_head_any m k wd d t r w h

set_option maxRecDepth 100000 in
set_option maxHeartbeats 800000 in
theorem on_no (m k wd d t r y : Int) (w : World) (h : Mom.rightB m k wd d t r = false ∨ (Mom.rightB m k wd d t r = true ∧ y < 1) ∨ (Mom.rightB m k wd d t r = true ∧ decide (y < 1) = false ∧ 300000 < y) ∨ (Mom.rightB m k wd d t r = true ∧ decide (y < 1) = false ∧ decide (300000 < y) = false ∧ Civ.okD y m 1 = false)) :
    Rets Tryz.prog 59 #[spotA m k wd d t r, .int .i64 y] w (.tuple #[.int .i64 0, .bool false]) := by
  have HR := fun w => Lib.hid (right_whole m k wd d t r w)
  have HD := fun w => Lib.hid (days_any y m 1 w)
  unfold Rets
  rcases h with h | ⟨h, g⟩ | ⟨h, g1, g⟩ | ⟨h, g1, g2, g⟩
  all_goals
    rw [h] at HR
    clear h
    try rw [g, dnum_no _ _ _ g] at HD
    go_enter Tryz.func59, Tryz.ntmps59
    go_wp2_with fail
    · refine Rets.use ((HR _).out) ?_
      intro _
      go_wp2_with fail
      all_goals first
        | (go_ret2; exact ⟨rfl, done⟩)
        | (refine Rets.use (HD _).out ?_; intro _; go_wp2_with fail; go_ret2; exact ⟨rfl, done⟩)
theorem fns_0 (w : World) : Sem.run Tryz.prog (Instr.index 119 (Value.agg #[Value.func (Fn.func 87) #[] #[], Value.func (Fn.func 88) #[] #[], Value.func (Fn.func 89) #[] #[], Value.func (Fn.func 90) #[] #[]]) (Value.int IntKind.i64 0)) w = .ok (Value.func (Fn.func 87) #[] #[]) w := by kernel_rfl
theorem fns_1 (w : World) : Sem.run Tryz.prog (Instr.index 119 (Value.agg #[Value.func (Fn.func 87) #[] #[], Value.func (Fn.func 88) #[] #[], Value.func (Fn.func 89) #[] #[], Value.func (Fn.func 90) #[] #[]]) (Value.int IntKind.i64 1)) w = .ok (Value.func (Fn.func 88) #[] #[]) w := by kernel_rfl
theorem fns_2 (w : World) : Sem.run Tryz.prog (Instr.index 119 (Value.agg #[Value.func (Fn.func 87) #[] #[], Value.func (Fn.func 88) #[] #[], Value.func (Fn.func 89) #[] #[], Value.func (Fn.func 90) #[] #[]]) (Value.int IntKind.i64 2)) w = .ok (Value.func (Fn.func 89) #[] #[]) w := by kernel_rfl
theorem fns_3 (w : World) : Sem.run Tryz.prog (Instr.index 119 (Value.agg #[Value.func (Fn.func 87) #[] #[], Value.func (Fn.func 88) #[] #[], Value.func (Fn.func 89) #[] #[], Value.func (Fn.func 90) #[] #[]]) (Value.int IntKind.i64 3)) w = .ok (Value.func (Fn.func 90) #[] #[]) w := by kernel_rfl
set_option maxRecDepth 100000 in
set_option maxHeartbeats 4000000 in
theorem on_yes (m k wd d t r y N : Int) (w : World) (h : Mom.rightB m k wd d t r = true) (y1 : 1 ≤ y) (y2 : y ≤ 300000) (hok : Civ.okD y m 1 = true) (hN : Mom.onI m k wd d y = N) (b : Bool) (V : Int) (hb : (b = true ∧ V = N ∧ N ≤ 100000000) ∨ (b = false ∧ V = 0 ∧ 100000000 < N)) :
    Rets Tryz.prog 59 #[spotA m k wd d t r, .int .i64 y] w (.tuple #[.int .i64 V, .bool b]) := by
  have HR := fun w => Lib.hid (right_whole m k wd d t r w)
  have HD := fun w => Lib.hid (days_any y m 1 w)
  have HL := fun w => Lib.hid (monthlen_any y m w)
  rw [h] at HR
  rw [hok, dnum_yes _ _ _ hok] at HD
  obtain ⟨m1, m2, -, -, -, -, hk⟩ := Mom.right_all h
  obtain ⟨n1, n2⟩ := num_bd y m 1 (by omega) (by omega) m1 m2 (by omega) (by omega)
  obtain ⟨l1, l2⟩ := Civ.mlen_bd y m
  unfold Mom.onI at hN
  generalize Civ.num y m 1 = F at *
  generalize Civ.mlen y m = L at *
  have g1 : decide (y < 1) = false := decide_eq_false (by omega)
  have g2 : decide (300000 < y) = false := decide_eq_false (by omega)
  have p1 : -500001000 ≤ F := n1
  clear h hok
  rcases hk with ⟨rfl, rfl, k2, k3⟩ | ⟨rfl, k1, k2, rfl⟩ | ⟨rfl, k1, k2, k3, k4⟩ | ⟨rfl, k1, k2, k3, k4⟩
  · rw [Mom.fall_0 rfl] at hN
    have HI := fns_0
    have HM := fun w => Lib.hid (day_any F L m 0 0 d t r w (by omega) (by omega) (by omega) (by omega) )
    rw [hN] at HM
    clear hN
    unfold Rets
    rcases hb with ⟨rfl, rfl, hb⟩ | ⟨rfl, rfl, hb⟩
    all_goals
      go_enter Tryz.func59, Tryz.ntmps59
      go_wp2_with (first | (go_at_call 70; refine Rets.use (HR _).out ?_; intro _) | (go_at_call 86; refine Rets.use (HD _).out ?_; intro _))
      refine wp_region_past1 (by kernel_rfl) (by kernel_rfl) ?_
      repeat (go_big_quiet_step (first | (go_at_call 91; exact Rets.quiet (HL _).out) | (go_at_call 87; exact Rets.quiet (HM _).out)))
      refine wpQuiet_nil ?_
      intro _
      go_wp2
      go_ret2
      exact ⟨rfl, done⟩
  · rw [Mom.fall_1 rfl] at hN
    have HI := fns_1
    have HM := fun w => Lib.hid (last_any F L m 1 wd 0 t r w (by omega) (by omega) (by omega) (by omega) (by omega) (by omega) )
    rw [hN] at HM
    clear hN
    unfold Rets
    rcases hb with ⟨rfl, rfl, hb⟩ | ⟨rfl, rfl, hb⟩
    all_goals
      go_enter Tryz.func59, Tryz.ntmps59
      go_wp2_with (first | (go_at_call 70; refine Rets.use (HR _).out ?_; intro _) | (go_at_call 86; refine Rets.use (HD _).out ?_; intro _))
      refine wp_region_past1 (by kernel_rfl) (by kernel_rfl) ?_
      repeat (go_big_quiet_step (first | (go_at_call 91; exact Rets.quiet (HL _).out) | (go_at_call 88; exact Rets.quiet (HM _).out)))
      refine wpQuiet_nil ?_
      intro _
      go_wp2
      go_ret2
      exact ⟨rfl, done⟩
  · rw [Mom.fall_2 rfl] at hN
    have HI := fns_2
    have HM := fun w => Lib.hid (after_any F L m 2 wd d t r w (by omega) (by omega) (by omega) (by omega) (by omega) (by omega) )
    rw [hN] at HM
    clear hN
    unfold Rets
    rcases hb with ⟨rfl, rfl, hb⟩ | ⟨rfl, rfl, hb⟩
    all_goals
      go_enter Tryz.func59, Tryz.ntmps59
      go_wp2_with (first | (go_at_call 70; refine Rets.use (HR _).out ?_; intro _) | (go_at_call 86; refine Rets.use (HD _).out ?_; intro _))
      refine wp_region_past1 (by kernel_rfl) (by kernel_rfl) ?_
      repeat (go_big_quiet_step (first | (go_at_call 91; exact Rets.quiet (HL _).out) | (go_at_call 89; exact Rets.quiet (HM _).out)))
      refine wpQuiet_nil ?_
      intro _
      go_wp2
      go_ret2
      exact ⟨rfl, done⟩
  · rw [Mom.fall_3 rfl] at hN
    have HI := fns_3
    have HM := fun w => Lib.hid (ahead_any F L m 3 wd d t r w (by omega) (by omega) (by omega) (by omega) (by omega) (by omega) )
    rw [hN] at HM
    clear hN
    unfold Rets
    rcases hb with ⟨rfl, rfl, hb⟩ | ⟨rfl, rfl, hb⟩
    all_goals
      go_enter Tryz.func59, Tryz.ntmps59
      go_wp2_with (first | (go_at_call 70; refine Rets.use (HR _).out ?_; intro _) | (go_at_call 86; refine Rets.use (HD _).out ?_; intro _))
      refine wp_region_past1 (by kernel_rfl) (by kernel_rfl) ?_
      repeat (go_big_quiet_step (first | (go_at_call 91; exact Rets.quiet (HL _).out) | (go_at_call 90; exact Rets.quiet (HM _).out)))
      refine wpQuiet_nil ?_
      intro _
      go_wp2
      go_ret2
      exact ⟨rfl, done⟩
end Go.Proofs.YtcjnficcggjeiaaGreatDoor
set_option linter.unusedVariables false
set_option linter.unusedSimpArgs false
namespace Go.Proofs.YtcjnficcggjeiaaGreatDoor
open Go.RowKit

theorem on_cases (m k wd d t r y : Int) : ((Mom.rightB m k wd d t r = false ∨ (Mom.rightB m k wd d t r = true ∧ y < 1) ∨ (Mom.rightB m k wd d t r = true ∧ decide (y < 1) = false ∧ 300000 < y) ∨ (Mom.rightB m k wd d t r = true ∧ decide (y < 1) = false ∧ decide (300000 < y) = false ∧ Civ.okD y m 1 = false)) ∧ Mom.onB m k wd d t r y = false) ∨
    (Mom.rightB m k wd d t r = true ∧ 1 ≤ y ∧ y ≤ 300000 ∧ Civ.okD y m 1 = true) := by
  cases h1 : Mom.rightB m k wd d t r
  · exact .inl ⟨.inl rfl, Mom.onB_right h1⟩
  · by_cases h2 : y < 1
    · exact .inl ⟨.inr (.inl ⟨rfl, h2⟩), Mom.onB_year (.inl h2)⟩
    · by_cases h3 : 300000 < y
      · exact .inl ⟨.inr (.inr (.inl ⟨rfl, decide_eq_false h2, h3⟩)), Mom.onB_year (.inr h3)⟩
      · cases h4 : Civ.okD y m 1
        · exact .inl ⟨.inr (.inr (.inr ⟨rfl, decide_eq_false h2, decide_eq_false h3, rfl⟩)), Mom.onB_day h4⟩
        · exact .inr ⟨rfl, by omega, by omega, rfl⟩
theorem on_end {m k wd d t r y : Int} (h1 : Mom.rightB m k wd d t r = true) (h2 : 1 ≤ y) (h3 : y ≤ 300000) (h4 : Civ.okD y m 1 = true) :
    (Mom.onB m k wd d t r y = true ∧ Mom.onV m k wd d t r y = Mom.onI m k wd d y ∧ Mom.onI m k wd d y ≤ 100000000) ∨ (Mom.onB m k wd d t r y = false ∧ Mom.onV m k wd d t r y = 0 ∧ 100000000 < Mom.onI m k wd d y) := by
  by_cases h : Mom.onI m k wd d y ≤ 100000000
  · have e := Mom.onB_yes h1 h2 h3 h4 h
    exact .inl ⟨e, Mom.onV_yes e, h⟩
  · have e := Mom.onB_end (m := m) (k := k) (wd := wd) (d := d) (t := t) (r := r) (y := y) (by omega)
    exact .inr ⟨e, Mom.onV_no e, by omega⟩
theorem on_any (m k wd d t r y : Int) (w : World) : Rets Tryz.prog 59 #[spotA m k wd d t r, .int .i64 y] w (.tuple #[.int .i64 (Mom.onV m k wd d t r y), .bool (Mom.onB m k wd d t r y)]) := by
  rcases on_cases m k wd d t r y with ⟨h, e⟩ | ⟨h1, h2, h3, h4⟩
  · rw [Mom.onV_no e, e]; exact on_no m k wd d t r y w h
  · exact on_yes m k wd d t r y _ w h1 h2 h3 h4 rfl _ _ (on_end h1 h2 h3 h4)

set_option maxRecDepth 100000 in
set_option maxHeartbeats 4000000 in
theorem ron_no (m k wd d t r y : Int) (w : World) (h : Mom.rightB m k wd d t r = false ∨ (Mom.rightB m k wd d t r = true ∧ y < 1) ∨ (Mom.rightB m k wd d t r = true ∧ decide (y < 1) = false ∧ 300000 < y) ∨ (Mom.rightB m k wd d t r = true ∧ decide (y < 1) = false ∧ decide (300000 < y) = false ∧ Civ.okD y m 1 = false)) :
    Rets Tryz.prog 40 #[spotA m k wd d t r, .int .i64 y] w (.tuple #[.int .i64 0, .bool false]) := by
  have HR := fun w => Lib.hid (rright_whole m k wd d t r w)
  have HD := fun w => Lib.hid (rdays_any y m 1 w)
  unfold Rets
  rcases h with h | ⟨h, g⟩ | ⟨h, g1, g⟩ | ⟨h, g1, g2, g⟩
  all_goals
    rw [h] at HR
    clear h
    try rw [g, dnum_no _ _ _ g] at HD
    go_enter Tryz.func40, Tryz.ntmps40
    go_wp2_with (first | (go_at_call 35; refine Rets.use (HR _).out ?_; intro _) | (go_at_call 64; refine Rets.use (HD _).out ?_; intro _))
    go_ret2
    exact ⟨rfl, done⟩
end Go.Proofs.YtcjnficcggjeiaaGreatDoor
set_option linter.unusedVariables false
set_option linter.unusedSimpArgs false
namespace Go.Proofs.YtcjnficcggjeiaaGreatDoor
open Go.RowKit

theorem seven_eq {n wd Q : Int} (hq : (n + 3) / 7 = Q) : ((n + 3) % 7 + 1 = wd → (n + 3 - 7 * Q + 1 != wd) = false) ∧ ((n + 3) % 7 + 1 ≠ wd → (n + 3 - 7 * Q + 1 != wd) = true) := by
  constructor
  · intro h; rw [bne_eq_false_iff_eq]; omega
  · intro h; rw [bne_iff_ne]; omega
set_option maxRecDepth 100000 in
set_option maxHeartbeats 8000000 in
theorem ron_yes0 (m wd d t r y N : Int) (w : World) (h : Mom.rightB m 0 wd d t r = true) (y1 : 1 ≤ y) (y2 : y ≤ 300000) (hok : Civ.okD y m 1 = true) (hN : Mom.onI m 0 wd d y = N) (b : Bool) (V : Int) (hb : (b = true ∧ V = N ∧ N ≤ 100000000) ∨ (b = false ∧ V = 0 ∧ 100000000 < N)) :
    Rets Tryz.prog 40 #[spotA m 0 wd d t r, .int .i64 y] w (.tuple #[.int .i64 V, .bool b]) := by
  have HR := fun w => Lib.hid (rright_whole m 0 wd d t r w)
  have HD := fun w => Lib.hid (rdays_any y m 1 w)
  rw [h] at HR
  rw [hok, dnum_yes _ _ _ hok] at HD
  obtain ⟨m1, m2, -, -, -, -, hk⟩ := Mom.right_all h
  obtain ⟨n1, n2⟩ := num_bd y m 1 (by omega) (by omega) m1 m2 (by omega) (by omega)
  unfold Mom.onI at hN
  rw [Mom.fall_0 rfl] at hN
  generalize Civ.num y m 1 = F at *
  generalize Civ.mlen y m = L at *
  have g1 : decide (y < 1) = false := decide_eq_false (by omega)
  have g2 : decide (300000 < y) = false := decide_eq_false (by omega)
  obtain ⟨rfl, k2, k3⟩ : wd = 0 ∧ 1 ≤ d ∧ d ≤ 31 := by omega
  clear h hok hk
  subst hN
  unfold Rets
  rcases hb with ⟨rfl, rfl, hb⟩ | ⟨rfl, rfl, hb⟩
  all_goals
    go_enter Tryz.func40, Tryz.ntmps40
    go_wp2_with (first | (go_at_call 35; refine Rets.use (HR _).out ?_; intro _) | (go_at_call 64; refine Rets.use (HD _).out ?_; intro _))
    go_loopw [8] (fun i wr => i = .int .i64 (F + d - 1) ∧ Ext w wr) (fun _ _ => 0)
    case atStart => exact ⟨rfl, isext⟩
    case round =>
      obtain ⟨rfl, hx⟩ := hrel
      obtain ⟨yr, rfl⟩ := fin hx
      clear hx
      go_wp2_with fail
      refine wp_region_past1 (by kernel_rfl) (by kernel_rfl) ?_
      repeat (go_big_quiet_step (fail))
      refine wpQuiet_nil ?_
      intro _
      go_wp2
      go_ret2
      exact ⟨rfl, done⟩
end Go.Proofs.YtcjnficcggjeiaaGreatDoor
set_option linter.unusedVariables false
set_option linter.unusedSimpArgs false
namespace Go.Proofs.YtcjnficcggjeiaaGreatDoor
open Go.RowKit

set_option maxRecDepth 100000 in
set_option maxHeartbeats 8000000 in
theorem ron_yes1 (m wd d t r y N : Int) (w : World) (h : Mom.rightB m 1 wd d t r = true) (y1 : 1 ≤ y) (y2 : y ≤ 300000) (hok : Civ.okD y m 1 = true) (hN : Mom.onI m 1 wd d y = N) (b : Bool) (V : Int) (hb : (b = true ∧ V = N ∧ N ≤ 100000000) ∨ (b = false ∧ V = 0 ∧ 100000000 < N)) :
    Rets Tryz.prog 40 #[spotA m 1 wd d t r, .int .i64 y] w (.tuple #[.int .i64 V, .bool b]) := by
  have HR := fun w => Lib.hid (rright_whole m 1 wd d t r w)
  have HD := fun w => Lib.hid (rdays_any y m 1 w)
  have HL := fun w => Lib.hid (rmlen_any y m w)
  rw [h] at HR
  rw [hok, dnum_yes _ _ _ hok] at HD
  obtain ⟨m1, m2, -, -, -, -, hk⟩ := Mom.right_all h
  obtain ⟨n1, n2⟩ := num_bd y m 1 (by omega) (by omega) m1 m2 (by omega) (by omega)
  obtain ⟨l1, l2⟩ := Civ.mlen_bd y m
  unfold Mom.onI at hN
  rw [Mom.fall_1 rfl] at hN
  generalize Civ.num y m 1 = F at *
  generalize Civ.mlen y m = L at *
  have g1 : decide (y < 1) = false := decide_eq_false (by omega)
  have g2 : decide (300000 < y) = false := decide_eq_false (by omega)
  obtain ⟨k1, k2, rfl⟩ : 1 ≤ wd ∧ wd ≤ 7 ∧ d = 0 := by omega
  obtain ⟨b1, b2⟩ := Mom.back_bd (F + L - 1) wd
  have HT := Lib.hid (Mom.back_wd (n := F + L - 1) k1 k2)
  generalize Mom.backI (F + L - 1) wd = B at *
  clear h hok hk
  have b3 : N ≤ F + L - 1 := by omega
  have b4 : F + L - 7 ≤ N := by omega
  have b5 : -600000000 ≤ N := by omega
  have b6 : N ≤ 600000000 := by omega
  rw [hN] at HT
  clear hN b1 b2
  unfold Rets
  rcases hb with ⟨rfl, hV, hb⟩ | ⟨rfl, hV, hb⟩
  all_goals
    rw [hV]
    clear hV
    go_enter Tryz.func40, Tryz.ntmps40
    go_wp2_with (first | (go_at_call 35; refine Rets.use (HR _).out ?_; intro _) | (go_at_call 64; refine Rets.use (HD _).out ?_; intro _) | (go_at_call 65; refine Rets.use (HL _).out ?_; intro _))
    go_loopw [8] (fun i wr => ∃ n : Int, i = .int .i64 n ∧ N ≤ n ∧ n ≤ F + L - 1 ∧ Ext (w.alloc (.cells #[.int .i64 m, .int .i64 1, .int .i64 wd, .int .i64 0, .int .i64 t, .int .i64 r] 35)) wr) (fun i _ => (intOf i - N).toNat)
    case atStart => exact ⟨_, rfl, by omega, by omega, isext⟩
    case round =>
      obtain ⟨n, rfl, c1, c2, hx⟩ := hrel
      obtain ⟨yr, rfl⟩ := fin hx
      clear hx
      have HW := fun w => Lib.hid (down_any (n + 3) 7 w (by omega) (by omega) (by omega) (by omega))
      obtain ⟨Q, hQ⟩ : ∃ Q, (n + 3) / 7 = Q := ⟨_, rfl⟩
      have q1 : -100000000 ≤ Q := by omega
      have q2 : Q ≤ 100000000 := by omega
      have hz := seven_eq (wd := wd) hQ
      rw [hQ] at HW
      have x1 : IntKind.i64.wrap (n + 3) = n + 3 := by rw [IntKind.wrap_i64]; omega
      have x2 : IntKind.i64.wrap (7 * Q) = 7 * Q := by rw [IntKind.wrap_i64]; omega
      have x3 : IntKind.i64.wrap (n + 3 - 7 * Q) = n + 3 - 7 * Q := by rw [IntKind.wrap_i64]; omega
      have x4 : IntKind.i64.wrap (n + 3 - 7 * Q + 1) = n + 3 - 7 * Q + 1 := by rw [IntKind.wrap_i64]; omega
      by_cases he : n = N
      · subst he
        have f1 := hz.1 HT.out
        clear hz hQ
        go_wp2_with fail
        refine wp_region_past1 (by kernel_rfl) (by kernel_rfl) ?_
        repeat (go_big_quiet_step ((go_at_call 66; exact Rets.quiet (HW _).out)))
        refine wpQuiet_nil ?_
        intro _
        clear x1 x2 x3 x4
        go_wp2
        go_ret2
        exact ⟨rfl, done⟩
      · have f1 := hz.2 (by have := HT.out; omega)
        clear hz hQ
        have c3 : n ≠ N := he
        clear he
        go_wp2_with fail
        refine wp_region_past1 (by kernel_rfl) (by kernel_rfl) ?_
        repeat (go_big_quiet_step ((go_at_call 66; exact Rets.quiet (HW _).out)))
        refine wpQuiet_nil ?_
        intro _
        clear x1 x2 x3 x4
        go_wp2
        go_roundw
        case rel => exact ⟨_, rfl, by omega, by omega, isext⟩
        case measure => simp [intOf]; omega
set_option maxRecDepth 100000 in
set_option maxHeartbeats 8000000 in
theorem ron_yes3 (m wd d t r y N : Int) (w : World) (h : Mom.rightB m 3 wd d t r = true) (y1 : 1 ≤ y) (y2 : y ≤ 300000) (hok : Civ.okD y m 1 = true) (hN : Mom.onI m 3 wd d y = N) (b : Bool) (V : Int) (hb : (b = true ∧ V = N ∧ N ≤ 100000000) ∨ (b = false ∧ V = 0 ∧ 100000000 < N)) :
    Rets Tryz.prog 40 #[spotA m 3 wd d t r, .int .i64 y] w (.tuple #[.int .i64 V, .bool b]) := by
  have HR := fun w => Lib.hid (rright_whole m 3 wd d t r w)
  have HD := fun w => Lib.hid (rdays_any y m 1 w)
  have HL := fun w => Lib.hid (rmlen_any y m w)
  rw [h] at HR
  rw [hok, dnum_yes _ _ _ hok] at HD
  obtain ⟨m1, m2, -, -, -, -, hk⟩ := Mom.right_all h
  obtain ⟨n1, n2⟩ := num_bd y m 1 (by omega) (by omega) m1 m2 (by omega) (by omega)
  obtain ⟨l1, l2⟩ := Civ.mlen_bd y m
  unfold Mom.onI at hN
  rw [Mom.fall_3 rfl] at hN
  generalize Civ.num y m 1 = F at *
  generalize Civ.mlen y m = L at *
  have g1 : decide (y < 1) = false := decide_eq_false (by omega)
  have g2 : decide (300000 < y) = false := decide_eq_false (by omega)
  obtain ⟨k1, k2, k3, k4⟩ : 1 ≤ wd ∧ wd ≤ 7 ∧ 1 ≤ d ∧ d ≤ 31 := by omega
  obtain ⟨b1, b2⟩ := Mom.back_bd (F + d - 1) wd
  have HT := Lib.hid (Mom.back_wd (n := F + d - 1) k1 k2)
  generalize Mom.backI (F + d - 1) wd = B at *
  clear h hok hk
  have b3 : N ≤ F + d - 1 := by omega
  have b4 : F + d - 7 ≤ N := by omega
  have b5 : -600000000 ≤ N := by omega
  have b6 : N ≤ 600000000 := by omega
  rw [hN] at HT
  clear hN b1 b2
  unfold Rets
  rcases hb with ⟨rfl, hV, hb⟩ | ⟨rfl, hV, hb⟩
  all_goals
    rw [hV]
    clear hV
    go_enter Tryz.func40, Tryz.ntmps40
    go_wp2_with (first | (go_at_call 35; refine Rets.use (HR _).out ?_; intro _) | (go_at_call 64; refine Rets.use (HD _).out ?_; intro _))
    go_loopw [8] (fun i wr => ∃ n : Int, i = .int .i64 n ∧ N ≤ n ∧ n ≤ F + d - 1 ∧ Ext (w.alloc (.cells #[.int .i64 m, .int .i64 3, .int .i64 wd, .int .i64 d, .int .i64 t, .int .i64 r] 35)) wr) (fun i _ => (intOf i - N).toNat)
    case atStart => exact ⟨_, rfl, by omega, by omega, isext⟩
    case round =>
      obtain ⟨n, rfl, c1, c2, hx⟩ := hrel
      obtain ⟨yr, rfl⟩ := fin hx
      clear hx
      have HW := fun w => Lib.hid (down_any (n + 3) 7 w (by omega) (by omega) (by omega) (by omega))
      obtain ⟨Q, hQ⟩ : ∃ Q, (n + 3) / 7 = Q := ⟨_, rfl⟩
      have q1 : -100000000 ≤ Q := by omega
      have q2 : Q ≤ 100000000 := by omega
      have hz := seven_eq (wd := wd) hQ
      rw [hQ] at HW
      have x1 : IntKind.i64.wrap (n + 3) = n + 3 := by rw [IntKind.wrap_i64]; omega
      have x2 : IntKind.i64.wrap (7 * Q) = 7 * Q := by rw [IntKind.wrap_i64]; omega
      have x3 : IntKind.i64.wrap (n + 3 - 7 * Q) = n + 3 - 7 * Q := by rw [IntKind.wrap_i64]; omega
      have x4 : IntKind.i64.wrap (n + 3 - 7 * Q + 1) = n + 3 - 7 * Q + 1 := by rw [IntKind.wrap_i64]; omega
      by_cases he : n = N
      · subst he
        have f1 := hz.1 HT.out
        clear hz hQ
        go_wp2_with fail
        refine wp_region_past1 (by kernel_rfl) (by kernel_rfl) ?_
        repeat (go_big_quiet_step ((go_at_call 66; exact Rets.quiet (HW _).out)))
        refine wpQuiet_nil ?_
        intro _
        clear x1 x2 x3 x4
        go_wp2
        go_ret2
        exact ⟨rfl, done⟩
      · have f1 := hz.2 (by have := HT.out; omega)
        clear hz hQ
        have c3 : n ≠ N := he
        clear he
        go_wp2_with fail
        refine wp_region_past1 (by kernel_rfl) (by kernel_rfl) ?_
        repeat (go_big_quiet_step ((go_at_call 66; exact Rets.quiet (HW _).out)))
        refine wpQuiet_nil ?_
        intro _
        clear x1 x2 x3 x4
        go_wp2
        go_roundw
        case rel => exact ⟨_, rfl, by omega, by omega, isext⟩
        case measure => simp [intOf]; omega
set_option maxRecDepth 100000 in
set_option maxHeartbeats 8000000 in
theorem ron_yes2 (m wd d t r y N : Int) (w : World) (h : Mom.rightB m 2 wd d t r = true) (y1 : 1 ≤ y) (y2 : y ≤ 300000) (hok : Civ.okD y m 1 = true) (hN : Mom.onI m 2 wd d y = N) (b : Bool) (V : Int) (hb : (b = true ∧ V = N ∧ N ≤ 100000000) ∨ (b = false ∧ V = 0 ∧ 100000000 < N)) :
    Rets Tryz.prog 40 #[spotA m 2 wd d t r, .int .i64 y] w (.tuple #[.int .i64 V, .bool b]) := by
  have HR := fun w => Lib.hid (rright_whole m 2 wd d t r w)
  have HD := fun w => Lib.hid (rdays_any y m 1 w)
  have HL := fun w => Lib.hid (rmlen_any y m w)
  rw [h] at HR
  rw [hok, dnum_yes _ _ _ hok] at HD
  obtain ⟨m1, m2, -, -, -, -, hk⟩ := Mom.right_all h
  obtain ⟨n1, n2⟩ := num_bd y m 1 (by omega) (by omega) m1 m2 (by omega) (by omega)
  obtain ⟨l1, l2⟩ := Civ.mlen_bd y m
  unfold Mom.onI at hN
  rw [Mom.fall_2 rfl] at hN
  generalize Civ.num y m 1 = F at *
  generalize Civ.mlen y m = L at *
  have g1 : decide (y < 1) = false := decide_eq_false (by omega)
  have g2 : decide (300000 < y) = false := decide_eq_false (by omega)
  obtain ⟨k1, k2, k3, k4⟩ : 1 ≤ wd ∧ wd ≤ 7 ∧ 1 ≤ d ∧ d ≤ 31 := by omega
  obtain ⟨b1, b2⟩ := Mom.back_bd (F + d + 5) wd
  have HT := Lib.hid (Mom.back_wd (n := F + d + 5) k1 k2)
  generalize Mom.backI (F + d + 5) wd = B at *
  clear h hok hk
  have b3 : N ≤ F + d + 5 := by omega
  have b4 : F + d - 1 ≤ N := by omega
  have b5 : -600000000 ≤ N := by omega
  have b6 : N ≤ 600000000 := by omega
  rw [hN] at HT
  clear hN b1 b2
  unfold Rets
  rcases hb with ⟨rfl, hV, hb⟩ | ⟨rfl, hV, hb⟩
  all_goals
    rw [hV]
    clear hV
    go_enter Tryz.func40, Tryz.ntmps40
    go_wp2_with (first | (go_at_call 35; refine Rets.use (HR _).out ?_; intro _) | (go_at_call 64; refine Rets.use (HD _).out ?_; intro _))
    go_loopw [8] (fun i wr => ∃ n : Int, i = .int .i64 n ∧ F + d - 1 ≤ n ∧ n ≤ N ∧ Ext (w.alloc (.cells #[.int .i64 m, .int .i64 2, .int .i64 wd, .int .i64 d, .int .i64 t, .int .i64 r] 35)) wr) (fun i _ => (N - intOf i).toNat)
    case atStart => exact ⟨_, rfl, by omega, by omega, isext⟩
    case round =>
      obtain ⟨n, rfl, c1, c2, hx⟩ := hrel
      obtain ⟨yr, rfl⟩ := fin hx
      clear hx
      have HW := fun w => Lib.hid (down_any (n + 3) 7 w (by omega) (by omega) (by omega) (by omega))
      obtain ⟨Q, hQ⟩ : ∃ Q, (n + 3) / 7 = Q := ⟨_, rfl⟩
      have q1 : -100000000 ≤ Q := by omega
      have q2 : Q ≤ 100000000 := by omega
      have hz := seven_eq (wd := wd) hQ
      rw [hQ] at HW
      have x1 : IntKind.i64.wrap (n + 3) = n + 3 := by rw [IntKind.wrap_i64]; omega
      have x2 : IntKind.i64.wrap (7 * Q) = 7 * Q := by rw [IntKind.wrap_i64]; omega
      have x3 : IntKind.i64.wrap (n + 3 - 7 * Q) = n + 3 - 7 * Q := by rw [IntKind.wrap_i64]; omega
      have x4 : IntKind.i64.wrap (n + 3 - 7 * Q + 1) = n + 3 - 7 * Q + 1 := by rw [IntKind.wrap_i64]; omega
      by_cases he : n = N
      · subst he
        have f1 := hz.1 HT.out
        clear hz hQ
        go_wp2_with fail
        refine wp_region_past1 (by kernel_rfl) (by kernel_rfl) ?_
        repeat (go_big_quiet_step ((go_at_call 66; exact Rets.quiet (HW _).out)))
        refine wpQuiet_nil ?_
        intro _
        clear x1 x2 x3 x4
        go_wp2
        go_ret2
        exact ⟨rfl, done⟩
      · have f1 := hz.2 (by have := HT.out; omega)
        clear hz hQ
        have c3 : n ≠ N := he
        clear he
        go_wp2_with fail
        refine wp_region_past1 (by kernel_rfl) (by kernel_rfl) ?_
        repeat (go_big_quiet_step ((go_at_call 66; exact Rets.quiet (HW _).out)))
        refine wpQuiet_nil ?_
        intro _
        clear x1 x2 x3 x4
        go_wp2
        go_roundw
        case rel => exact ⟨_, rfl, by omega, by omega, isext⟩
        case measure => simp [intOf]; omega
end Go.Proofs.YtcjnficcggjeiaaGreatDoor
set_option linter.unusedVariables false
set_option linter.unusedSimpArgs false
namespace Go.Proofs.YtcjnficcggjeiaaGreatDoor
open Go.RowKit

theorem ron_any (m k wd d t r y : Int) (w : World) : Rets Tryz.prog 40 #[spotA m k wd d t r, .int .i64 y] w (.tuple #[.int .i64 (Mom.onV m k wd d t r y), .bool (Mom.onB m k wd d t r y)]) := by
  rcases on_cases m k wd d t r y with ⟨h, e⟩ | ⟨h1, h2, h3, h4⟩
  · rw [Mom.onV_no e, e]; exact ron_no m k wd d t r y w h
  · have hk := Mom.right_all h1
    have he := on_end h1 h2 h3 h4
    generalize Mom.onV m k wd d t r y = V at *
    generalize Mom.onB m k wd d t r y = b at *
    obtain rfl | rfl | rfl | rfl : k = 0 ∨ k = 1 ∨ k = 2 ∨ k = 3 := by omega
    · exact ron_yes0 m wd d t r y _ w h1 h2 h3 h4 rfl _ _ he
    · exact ron_yes1 m wd d t r y _ w h1 h2 h3 h4 rfl _ _ he
    · exact ron_yes2 m wd d t r y _ w h1 h2 h3 h4 rfl _ _ he
    · exact ron_yes3 m wd d t r y _ w h1 h2 h3 h4 rfl _ _ he
theorem on_bd {m k wd d t r y : Int} (h : Mom.onB m k wd d t r y = true) : -1000000000 ≤ Mom.onI m k wd d y ∧ Mom.onI m k wd d y ≤ 100000000 ∧ -604799 ≤ t ∧ t ≤ 604799 := by
  obtain ⟨h1, h2, h3, h4, h5⟩ := Mom.onB_all h
  obtain ⟨m1, m2, t1, t2, -, -, hk⟩ := Mom.right_all h1
  obtain ⟨n1, n2⟩ := num_bd y m 1 (by omega) (by omega) m1 m2 (by omega) (by omega)
  obtain ⟨l1, l2⟩ := Civ.mlen_bd y m
  refine ⟨?_, h5, t1, t2⟩
  unfold Mom.onI
  generalize Civ.num y m 1 = F at *
  generalize Civ.mlen y m = L at *
  rcases hk with ⟨rfl, k2⟩ | ⟨rfl, k2⟩ | ⟨rfl, k2⟩ | ⟨rfl, k2⟩
  · rw [Mom.fall_0 rfl]; omega
  · rw [Mom.fall_1 rfl]; have := Mom.back_bd (F + L - 1) wd; omega
  · rw [Mom.fall_2 rfl]; have := Mom.back_bd (F + d + 5) wd; omega
  · rw [Mom.fall_3 rfl]; have := Mom.back_bd (F + d - 1) wd; omega
def locV (m k wd d t r y : Int) : Int := if Mom.onB m k wd d t r y = true then Mom.onI m k wd d y * 86400 + t else 0
set_option maxRecDepth 100000 in
set_option maxHeartbeats 2000000 in
theorem local_any (m k wd d t r y : Int) (w : World) : Rets Tryz.prog 33 #[spotA m k wd d t r, .int .i64 y] w (.tuple #[.int .i64 (locV m k wd d t r y), .bool (Mom.onB m k wd d t r y)]) := by
  have HO := fun w => Lib.hid (on_any m k wd d t r y w)
  unfold Rets
  cases hb : Mom.onB m k wd d t r y
  · have E : Hid (locV m k wd d t r y = 0) := by show _ = _; unfold locV; rw [hb]; rfl
    rw [hb, Mom.onV_no hb] at HO
    clear hb
    go_enter Tryz.func33, Tryz.ntmps33
    go_wp2_with (go_at_call 59; refine Rets.use (HO _).out ?_; intro _)
    go_ret2
    exact ⟨ret_days E.out.symm rfl, done⟩
  · have E : Hid (locV m k wd d t r y = Mom.onI m k wd d y * 86400 + t) := by show _ = _; unfold locV; rw [hb]; rfl
    obtain ⟨n1, n2, t1, t2⟩ := on_bd hb
    rw [hb, Mom.onV_yes hb] at HO
    generalize Mom.onI m k wd d y = N at *
    clear hb
    go_enter Tryz.func33, Tryz.ntmps33
    go_wp2_with (go_at_call 59; refine Rets.use (HO _).out ?_; intro _)
    go_ret2
    exact ⟨ret_days E.out.symm rfl, done⟩
set_option maxRecDepth 100000 in
set_option maxHeartbeats 2000000 in
theorem rlocal_any (m k wd d t r y : Int) (w : World) : Rets Tryz.prog 21 #[spotA m k wd d t r, .int .i64 y] w (.tuple #[.int .i64 (locV m k wd d t r y), .bool (Mom.onB m k wd d t r y)]) := by
  have HO := fun w => Lib.hid (ron_any m k wd d t r y w)
  unfold Rets
  cases hb : Mom.onB m k wd d t r y
  · have E : Hid (locV m k wd d t r y = 0) := by show _ = _; unfold locV; rw [hb]; rfl
    rw [hb, Mom.onV_no hb] at HO
    clear hb
    go_enter Tryz.func21, Tryz.ntmps21
    go_wp2_with (go_at_call 40; refine Rets.use (HO _).out ?_; intro _)
    go_ret2
    exact ⟨ret_days E.out.symm rfl, done⟩
  · have E : Hid (locV m k wd d t r y = Mom.onI m k wd d y * 86400 + t) := by show _ = _; unfold locV; rw [hb]; rfl
    obtain ⟨n1, n2, t1, t2⟩ := on_bd hb
    rw [hb, Mom.onV_yes hb] at HO
    generalize Mom.onI m k wd d y = N at *
    clear hb
    go_enter Tryz.func21, Tryz.ntmps21
    go_wp2_with (go_at_call 40; refine Rets.use (HO _).out ?_; intro _)
    go_ret2
    exact ⟨ret_days E.out.symm rfl, done⟩
end Go.Proofs.YtcjnficcggjeiaaGreatDoor
