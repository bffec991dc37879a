/- Walks of moments: the day on which a spot falls. -/
import Derived.Test.YtcjnficcggjeiaaDoorMomWalkP
import Derived.Test.YtcjnficcggjeiaaDoorMomPlainF
import Derived.Test.YtcjnficcggjeiaaDoorCivWalkJ
import Derived.Test.YtcjnficcggjeiaaDoorMomWalkQ
set_option linter.unusedVariables false
set_option linter.unusedSimpArgs false
namespace Go.Proofs.YtcjnficcggjeiaaDoor
open Go.RowKit

set_option maxHeartbeats 1000000 in
theorem back_any (n wd : Int) (w : World) (h1 : -1000000000 ≤ n) (h2 : n ≤ 1000000000) (h3 : 1 ≤ wd) (h4 : wd ≤ 7) : Rets Tryd.prog 94 #[.int .i64 n, .int .i64 wd] w (.int .i64 (Mom.backI n wd)) := by
  have c2 : (n + 3 - wd + 1).tmod 7 < 7 := Int.tmod_lt_of_pos _ (show (0 : Int) < 7 by omega)
  have c3 : - 7 < (n + 3 - wd + 1).tmod 7 := by have := Int.lt_tmod_of_pos (n + 3 - wd + 1) (show (0 : Int) < 7 by omega); omega
  unfold Rets
  go_enter Tryd.func94, Tryd.ntmps94
  go_wp2
  · have := tmod_neg (n + 3 - wd + 1) 7 (by omega) ‹_›
    go_ret
    exact ⟨ret_int this.2, done⟩
  · have := tmod_pos (n + 3 - wd + 1) 7 (by omega) ‹_›
    go_ret
    exact ⟨ret_int this.2, done⟩
abbrev monthA (f len : Int) : Value := .agg #[.int .i64 f, .int .i64 len]
set_option maxHeartbeats 1000000 in
theorem day_any (f len m k wd d t r : Int) (w : World) (h1 : -600000000 ≤ f) (h2 : f ≤ 600000000) (h3 : 0 ≤ d) (h4 : d ≤ 31) : Rets Tryd.prog 80 #[monthA f len, spotA m k wd d t r] w (.int .i64 (f + d - 1)) := by
  unfold Rets
  go_enter Tryd.func80, Tryd.ntmps80
  go_wp2
  go_ret
  exact ⟨rfl, done⟩
set_option maxHeartbeats 1000000 in
theorem last_any (f len m k wd d t r : Int) (w : World) (h1 : -600000000 ≤ f) (h2 : f ≤ 600000000) (h3 : 0 ≤ len) (h4 : len ≤ 31) (h5 : 1 ≤ wd) (h6 : wd ≤ 7) : Rets Tryd.prog 81 #[monthA f len, spotA m k wd d t r] w (.int .i64 (f + len - 1 - Mom.backI (f + len - 1) wd)) := by
  obtain ⟨b1, b2⟩ := Mom.back_bd (f + len - 1) wd
  have H := fun w => Lib.hid (back_any (f + len - 1) wd w (by omega) (by omega) h5 h6)
  generalize hb : Mom.backI (f + len - 1) wd = B at *
  clear hb
  unfold Rets
  go_enter Tryd.func81, Tryd.ntmps81
  go_wp2_with (go_at_call 94; refine Rets.use (H _).out ?_; intro _)
  go_ret
  exact ⟨rfl, done⟩
set_option maxHeartbeats 1000000 in
theorem after_any (f len m k wd d t r : Int) (w : World) (h1 : -600000000 ≤ f) (h2 : f ≤ 600000000) (h3 : 0 ≤ d) (h4 : d ≤ 31) (h5 : 1 ≤ wd) (h6 : wd ≤ 7) : Rets Tryd.prog 82 #[monthA f len, spotA m k wd d t r] w (.int .i64 (f + d + 5 - Mom.backI (f + d + 5) wd)) := by
  obtain ⟨b1, b2⟩ := Mom.back_bd (f + d + 5) wd
  have H := fun w => Lib.hid (back_any (f + d + 5) wd w (by omega) (by omega) h5 h6)
  generalize hb : Mom.backI (f + d + 5) wd = B at *
  clear hb
  unfold Rets
  go_enter Tryd.func82, Tryd.ntmps82
  go_wp2_with (go_at_call 94; refine Rets.use (H _).out ?_; intro _)
  go_ret
  exact ⟨rfl, done⟩
set_option maxHeartbeats 1000000 in
theorem ahead_any (f len m k wd d t r : Int) (w : World) (h1 : -600000000 ≤ f) (h2 : f ≤ 600000000) (h3 : 0 ≤ d) (h4 : d ≤ 31) (h5 : 1 ≤ wd) (h6 : wd ≤ 7) : Rets Tryd.prog 83 #[monthA f len, spotA m k wd d t r] w (.int .i64 (f + d - 1 - Mom.backI (f + d - 1) wd)) := by
  obtain ⟨b1, b2⟩ := Mom.back_bd (f + d - 1) wd
  have H := fun w => Lib.hid (back_any (f + d - 1) wd w (by omega) (by omega) h5 h6)
  generalize hb : Mom.backI (f + d - 1) wd = B at *
  clear hb
  unfold Rets
  go_enter Tryd.func83, Tryd.ntmps83
  go_wp2_with (go_at_call 94; refine Rets.use (H _).out ?_; intro _)
  go_ret
  exact ⟨rfl, done⟩
end Go.Proofs.YtcjnficcggjeiaaDoor
set_option linter.unusedVariables false
set_option linter.unusedSimpArgs false
namespace Go.Proofs.YtcjnficcggjeiaaDoor
open Go.RowKit

theorem right_whole (m k wd d t r : Int) (w : World) : Rets Tryd.prog 56 #[spotA m k wd d t r] w (.bool (Mom.rightB m k wd d t r)) := by
  by_cases h : Mom.headOk m k t r
  · rw [Mom.right_head h]; exact right_tail_any m k wd d t r w h
  · rw [Mom.right_head_no h]; exact right_head_any m k wd d t r w h
theorem rright_whole (m k wd d t r : Int) (w : World) : Rets Tryd.prog 43 #[spotA m k wd d t r] w (.bool (Mom.rightB m k wd d t r)) := by
  by_cases h : Mom.headOk m k t r
  · rw [Mom.right_head h]; exact rright_tail_any m k wd d t r w h
  · rw [Mom.right_head_no h]; exact rright_head_any m k wd d t r w h

set_option maxRecDepth 100000 in
set_option maxHeartbeats 800000 in
theorem on_no (m k wd d t r y : Int) (w : World) (h : Mom.rightB m k wd d t r = false ∨ (Mom.rightB m k wd d t r = true ∧ y < 1) ∨ (Mom.rightB m k wd d t r = true ∧ decide (y < 1) = false ∧ 300000 < y) ∨ (Mom.rightB m k wd d t r = true ∧ decide (y < 1) = false ∧ decide (300000 < y) = false ∧ Civ.okD y m 1 = false)) :
    Rets Tryd.prog 61 #[spotA m k wd d t r, .int .i64 y] w (.tuple #[.int .i64 0, .bool false]) := by
  have HR := fun w => Lib.hid (right_whole m k wd d t r w)
  have HD := fun w => Lib.hid (days_any y m 1 w)
  unfold Rets
  rcases h with h | ⟨h, g⟩ | ⟨h, g1, g⟩ | ⟨h, g1, g2, g⟩
  all_goals
    rw [h] at HR
    clear h
    try rw [g, dnum_no _ _ _ g] at HD
    go_enter Tryd.func61, Tryd.ntmps61
    go_wp2_with fail
    · refine Rets.use ((HR _).out) ?_
      intro _
      go_wp2_with fail
      all_goals first
        | (go_ret2; exact ⟨rfl, done⟩)
        | (refine Rets.use (HD _).out ?_; intro _; go_wp2_with fail; go_ret2; exact ⟨rfl, done⟩)
theorem fns_0 (w : World) : Sem.run Tryd.prog (Instr.index 119 (Value.agg #[Value.func (Fn.func 80) #[] #[], Value.func (Fn.func 81) #[] #[], Value.func (Fn.func 82) #[] #[], Value.func (Fn.func 83) #[] #[]]) (Value.int IntKind.i64 0)) w = .ok (Value.func (Fn.func 80) #[] #[]) w := by kernel_rfl
theorem fns_1 (w : World) : Sem.run Tryd.prog (Instr.index 119 (Value.agg #[Value.func (Fn.func 80) #[] #[], Value.func (Fn.func 81) #[] #[], Value.func (Fn.func 82) #[] #[], Value.func (Fn.func 83) #[] #[]]) (Value.int IntKind.i64 1)) w = .ok (Value.func (Fn.func 81) #[] #[]) w := by kernel_rfl
theorem fns_2 (w : World) : Sem.run Tryd.prog (Instr.index 119 (Value.agg #[Value.func (Fn.func 80) #[] #[], Value.func (Fn.func 81) #[] #[], Value.func (Fn.func 82) #[] #[], Value.func (Fn.func 83) #[] #[]]) (Value.int IntKind.i64 2)) w = .ok (Value.func (Fn.func 82) #[] #[]) w := by kernel_rfl
theorem fns_3 (w : World) : Sem.run Tryd.prog (Instr.index 119 (Value.agg #[Value.func (Fn.func 80) #[] #[], Value.func (Fn.func 81) #[] #[], Value.func (Fn.func 82) #[] #[], Value.func (Fn.func 83) #[] #[]]) (Value.int IntKind.i64 3)) w = .ok (Value.func (Fn.func 83) #[] #[]) w := by kernel_rfl
set_option maxRecDepth 100000 in
set_option maxHeartbeats 4000000 in
theorem on_yes (m k wd d t r y N : Int) (w : World) (h : Mom.rightB m k wd d t r = true) (y1 : 1 ≤ y) (y2 : y ≤ 300000) (hok : Civ.okD y m 1 = true) (hN : Mom.onI m k wd d y = N) (b : Bool) (V : Int) (hb : (b = true ∧ V = N ∧ N ≤ 100000000) ∨ (b = false ∧ V = 0 ∧ 100000000 < N)) :
    Rets Tryd.prog 61 #[spotA m k wd d t r, .int .i64 y] w (.tuple #[.int .i64 V, .bool b]) := by
  have HR := fun w => Lib.hid (right_whole m k wd d t r w)
  have HD := fun w => Lib.hid (days_any y m 1 w)
  have HL := fun w => Lib.hid (monthlen_any y m w)
  rw [h] at HR
  rw [hok, dnum_yes _ _ _ hok] at HD
  obtain ⟨m1, m2, -, -, -, -, hk⟩ := Mom.right_all h
  obtain ⟨n1, n2⟩ := num_bd y m 1 (by omega) (by omega) m1 m2 (by omega) (by omega)
  obtain ⟨l1, l2⟩ := Civ.mlen_bd y m
  unfold Mom.onI at hN
  generalize Civ.num y m 1 = F at *
  generalize Civ.mlen y m = L at *
  have g1 : decide (y < 1) = false := decide_eq_false (by omega)
  have g2 : decide (300000 < y) = false := decide_eq_false (by omega)
  have p1 : -500001000 ≤ F := n1
  clear h hok
  rcases hk with ⟨rfl, rfl, k2, k3⟩ | ⟨rfl, k1, k2, rfl⟩ | ⟨rfl, k1, k2, k3, k4⟩ | ⟨rfl, k1, k2, k3, k4⟩
  · rw [Mom.fall_0 rfl] at hN
    have HI := fns_0
    have HM := fun w => Lib.hid (day_any F L m 0 0 d t r w (by omega) (by omega) (by omega) (by omega) )
    rw [hN] at HM
    clear hN
    unfold Rets
    rcases hb with ⟨rfl, rfl, hb⟩ | ⟨rfl, rfl, hb⟩
    all_goals
      go_enter Tryd.func61, Tryd.ntmps61
      go_wp2_with (first | (go_at_call 56; refine Rets.use (HR _).out ?_; intro _) | (go_at_call 79; refine Rets.use (HD _).out ?_; intro _))
      refine wp_region_past1 (by kernel_rfl) (by kernel_rfl) ?_
      repeat (go_big_quiet_step (first | (go_at_call 84; exact Rets.quiet (HL _).out) | (go_at_call 80; exact Rets.quiet (HM _).out)))
      refine wpQuiet_nil ?_
      intro _
      go_wp2
      go_ret2
      exact ⟨rfl, done⟩
  · rw [Mom.fall_1 rfl] at hN
    have HI := fns_1
    have HM := fun w => Lib.hid (last_any F L m 1 wd 0 t r w (by omega) (by omega) (by omega) (by omega) (by omega) (by omega) )
    rw [hN] at HM
    clear hN
    unfold Rets
    rcases hb with ⟨rfl, rfl, hb⟩ | ⟨rfl, rfl, hb⟩
    all_goals
      go_enter Tryd.func61, Tryd.ntmps61
      go_wp2_with (first | (go_at_call 56; refine Rets.use (HR _).out ?_; intro _) | (go_at_call 79; refine Rets.use (HD _).out ?_; intro _))
      refine wp_region_past1 (by kernel_rfl) (by kernel_rfl) ?_
      repeat (go_big_quiet_step (first | (go_at_call 84; exact Rets.quiet (HL _).out) | (go_at_call 81; exact Rets.quiet (HM _).out)))
      refine wpQuiet_nil ?_
      intro _
      go_wp2
      go_ret2
      exact ⟨rfl, done⟩
  · rw [Mom.fall_2 rfl] at hN
    have HI := fns_2
    have HM := fun w => Lib.hid (after_any F L m 2 wd d t r w (by omega) (by omega) (by omega) (by omega) (by omega) (by omega) )
    rw [hN] at HM
    clear hN
    unfold Rets
    rcases hb with ⟨rfl, rfl, hb⟩ | ⟨rfl, rfl, hb⟩
    all_goals
      go_enter Tryd.func61, Tryd.ntmps61
      go_wp2_with (first | (go_at_call 56; refine Rets.use (HR _).out ?_; intro _) | (go_at_call 79; refine Rets.use (HD _).out ?_; intro _))
      refine wp_region_past1 (by kernel_rfl) (by kernel_rfl) ?_
      repeat (go_big_quiet_step (first | (go_at_call 84; exact Rets.quiet (HL _).out) | (go_at_call 82; exact Rets.quiet (HM _).out)))
      refine wpQuiet_nil ?_
      intro _
      go_wp2
      go_ret2
      exact ⟨rfl, done⟩
  · rw [Mom.fall_3 rfl] at hN
    have HI := fns_3
    have HM := fun w => Lib.hid (ahead_any F L m 3 wd d t r w (by omega) (by omega) (by omega) (by omega) (by omega) (by omega) )
    rw [hN] at HM
    clear hN
    unfold Rets
    rcases hb with ⟨rfl, rfl, hb⟩ | ⟨rfl, rfl, hb⟩
    all_goals
      go_enter Tryd.func61, Tryd.ntmps61
      go_wp2_with (first | (go_at_call 56; refine Rets.use (HR _).out ?_; intro _) | (go_at_call 79; refine Rets.use (HD _).out ?_; intro _))
      refine wp_region_past1 (by kernel_rfl) (by kernel_rfl) ?_
      repeat (go_big_quiet_step (first | (go_at_call 84; exact Rets.quiet (HL _).out) | (go_at_call 83; exact Rets.quiet (HM _).out)))
      refine wpQuiet_nil ?_
      intro _
      go_wp2
      go_ret2
      exact ⟨rfl, done⟩
end Go.Proofs.YtcjnficcggjeiaaDoor
set_option linter.unusedVariables false
set_option linter.unusedSimpArgs false
namespace Go.Proofs.YtcjnficcggjeiaaDoor
open Go.RowKit

theorem on_cases (m k wd d t r y : Int) : ((Mom.rightB m k wd d t r = false ∨ (Mom.rightB m k wd d t r = true ∧ y < 1) ∨ (Mom.rightB m k wd d t r = true ∧ decide (y < 1) = false ∧ 300000 < y) ∨ (Mom.rightB m k wd d t r = true ∧ decide (y < 1) = false ∧ decide (300000 < y) = false ∧ Civ.okD y m 1 = false)) ∧ Mom.onB m k wd d t r y = false) ∨
    (Mom.rightB m k wd d t r = true ∧ 1 ≤ y ∧ y ≤ 300000 ∧ Civ.okD y m 1 = true) := by
  cases h1 : Mom.rightB m k wd d t r
  · exact .inl ⟨.inl rfl, Mom.onB_right h1⟩
  · by_cases h2 : y < 1
    · exact .inl ⟨.inr (.inl ⟨rfl, h2⟩), Mom.onB_year (.inl h2)⟩
    · by_cases h3 : 300000 < y
      · exact .inl ⟨.inr (.inr (.inl ⟨rfl, decide_eq_false h2, h3⟩)), Mom.onB_year (.inr h3)⟩
      · cases h4 : Civ.okD y m 1
        · exact .inl ⟨.inr (.inr (.inr ⟨rfl, decide_eq_false h2, decide_eq_false h3, rfl⟩)), Mom.onB_day h4⟩
        · exact .inr ⟨rfl, by omega, by omega, rfl⟩
theorem on_end {m k wd d t r y : Int} (h1 : Mom.rightB m k wd d t r = true) (h2 : 1 ≤ y) (h3 : y ≤ 300000) (h4 : Civ.okD y m 1 = true) :
    (Mom.onB m k wd d t r y = true ∧ Mom.onV m k wd d t r y = Mom.onI m k wd d y ∧ Mom.onI m k wd d y ≤ 100000000) ∨ (Mom.onB m k wd d t r y = false ∧ Mom.onV m k wd d t r y = 0 ∧ 100000000 < Mom.onI m k wd d y) := by
  by_cases h : Mom.onI m k wd d y ≤ 100000000
  · have e := Mom.onB_yes h1 h2 h3 h4 h
    exact .inl ⟨e, Mom.onV_yes e, h⟩
  · have e := Mom.onB_end (m := m) (k := k) (wd := wd) (d := d) (t := t) (r := r) (y := y) (by omega)
    exact .inr ⟨e, Mom.onV_no e, by omega⟩
theorem on_any (m k wd d t r y : Int) (w : World) : Rets Tryd.prog 61 #[spotA m k wd d t r, .int .i64 y] w (.tuple #[.int .i64 (Mom.onV m k wd d t r y), .bool (Mom.onB m k wd d t r y)]) := by
  rcases on_cases m k wd d t r y with ⟨h, e⟩ | ⟨h1, h2, h3, h4⟩
  · rw [Mom.onV_no e, e]; exact on_no m k wd d t r y w h
  · exact on_yes m k wd d t r y _ w h1 h2 h3 h4 rfl _ _ (on_end h1 h2 h3 h4)

end Go.Proofs.YtcjnficcggjeiaaDoor
set_option linter.unusedVariables false
set_option linter.unusedSimpArgs false
namespace Go.Proofs.YtcjnficcggjeiaaDoor
open Go.RowKit

theorem seven_eq {n wd Q : Int} (hq : (n + 3) / 7 = Q) : ((n + 3) % 7 + 1 = wd → (n + 3 - 7 * Q + 1 != wd) = false) ∧ ((n + 3) % 7 + 1 ≠ wd → (n + 3 - 7 * Q + 1 != wd) = true) := by
  constructor
  · intro h; rw [bne_eq_false_iff_eq]; omega
  · intro h; rw [bne_iff_ne]; omega
end Go.Proofs.YtcjnficcggjeiaaDoor
set_option linter.unusedVariables false
set_option linter.unusedSimpArgs false
namespace Go.Proofs.YtcjnficcggjeiaaDoor
open Go.RowKit

end Go.Proofs.YtcjnficcggjeiaaDoor
set_option linter.unusedVariables false
set_option linter.unusedSimpArgs false
namespace Go.Proofs.YtcjnficcggjeiaaDoor
open Go.RowKit

theorem on_bd {m k wd d t r y : Int} (h : Mom.onB m k wd d t r y = true) : -1000000000 ≤ Mom.onI m k wd d y ∧ Mom.onI m k wd d y ≤ 100000000 ∧ -604799 ≤ t ∧ t ≤ 604799 := by
  obtain ⟨h1, h2, h3, h4, h5⟩ := Mom.onB_all h
  obtain ⟨m1, m2, t1, t2, -, -, hk⟩ := Mom.right_all h1
  obtain ⟨n1, n2⟩ := num_bd y m 1 (by omega) (by omega) m1 m2 (by omega) (by omega)
  obtain ⟨l1, l2⟩ := Civ.mlen_bd y m
  refine ⟨?_, h5, t1, t2⟩
  unfold Mom.onI
  generalize Civ.num y m 1 = F at *
  generalize Civ.mlen y m = L at *
  rcases hk with ⟨rfl, k2⟩ | ⟨rfl, k2⟩ | ⟨rfl, k2⟩ | ⟨rfl, k2⟩
  · rw [Mom.fall_0 rfl]; omega
  · rw [Mom.fall_1 rfl]; have := Mom.back_bd (F + L - 1) wd; omega
  · rw [Mom.fall_2 rfl]; have := Mom.back_bd (F + d + 5) wd; omega
  · rw [Mom.fall_3 rfl]; have := Mom.back_bd (F + d - 1) wd; omega
def locV (m k wd d t r y : Int) : Int := if Mom.onB m k wd d t r y = true then Mom.onI m k wd d y * 86400 + t else 0
set_option maxRecDepth 100000 in
set_option maxHeartbeats 2000000 in
theorem local_any (m k wd d t r y : Int) (w : World) : Rets Tryd.prog 40 #[spotA m k wd d t r, .int .i64 y] w (.tuple #[.int .i64 (locV m k wd d t r y), .bool (Mom.onB m k wd d t r y)]) := by
  have HO := fun w => Lib.hid (on_any m k wd d t r y w)
  unfold Rets
  cases hb : Mom.onB m k wd d t r y
  · have E : Hid (locV m k wd d t r y = 0) := by show _ = _; unfold locV; rw [hb]; rfl
    rw [hb, Mom.onV_no hb] at HO
    clear hb
    go_enter Tryd.func40, Tryd.ntmps40
    go_wp2_with (go_at_call 61; refine Rets.use (HO _).out ?_; intro _)
    go_ret2
    exact ⟨ret_days E.out.symm rfl, done⟩
  · have E : Hid (locV m k wd d t r y = Mom.onI m k wd d y * 86400 + t) := by show _ = _; unfold locV; rw [hb]; rfl
    obtain ⟨n1, n2, t1, t2⟩ := on_bd hb
    rw [hb, Mom.onV_yes hb] at HO
    generalize Mom.onI m k wd d y = N at *
    clear hb
    go_enter Tryd.func40, Tryd.ntmps40
    go_wp2_with (go_at_call 61; refine Rets.use (HO _).out ?_; intro _)
    go_ret2
    exact ⟨ret_days E.out.symm rfl, done⟩
end Go.Proofs.YtcjnficcggjeiaaDoor
