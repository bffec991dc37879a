/- Walks of moments: the day on which the document's spot falls, by weekday. -/
import Derived.Test.YtodcgalcpnckaaaMomWalkU
set_option linter.unusedVariables false
set_option linter.unusedSimpArgs false
namespace Go.Proofs.Ytodcgalcpnckaaa
open Go.RowKit

set_option maxRecDepth 100000 in
set_option maxHeartbeats 8000000 in
theorem ron_yes1 (m wd d t r y N : Int) (w : World) (h : Mom.rightB m 1 wd d t r = true) (y1 : 1 ≤ y) (y2 : y ≤ 300000) (hok : Civ.okD y m 1 = true) (hN : Mom.onI m 1 wd d y = N) (b : Bool) (V : Int) (hb : (b = true ∧ V = N ∧ N ≤ 100000000) ∨ (b = false ∧ V = 0 ∧ 100000000 < N)) :
    Rets Try.prog 60 #[spotA m 1 wd d t r, .int .i64 y] w (.tuple #[.int .i64 V, .bool b]) := by
  have HR := fun w => Lib.hid (rright_whole m 1 wd d t r w)
  have HD := fun w => Lib.hid (rdays_any y m 1 w)
  have HL := fun w => Lib.hid (rmlen_any y m w)
  rw [h] at HR
  rw [hok, dnum_yes _ _ _ hok] at HD
  obtain ⟨m1, m2, -, -, -, -, hk⟩ := Mom.right_all h
  obtain ⟨n1, n2⟩ := num_bd y m 1 (by omega) (by omega) m1 m2 (by omega) (by omega)
  obtain ⟨l1, l2⟩ := Civ.mlen_bd y m
  unfold Mom.onI at hN
  rw [Mom.fall_1 rfl] at hN
  generalize Civ.num y m 1 = F at *
  generalize Civ.mlen y m = L at *
  have g1 : decide (y < 1) = false := decide_eq_false (by omega)
  have g2 : decide (300000 < y) = false := decide_eq_false (by omega)
  obtain ⟨k1, k2, rfl⟩ : 1 ≤ wd ∧ wd ≤ 7 ∧ d = 0 := by omega
  obtain ⟨b1, b2⟩ := Mom.back_bd (F + L - 1) wd
  have HT := Lib.hid (Mom.back_wd (n := F + L - 1) k1 k2)
  generalize Mom.backI (F + L - 1) wd = B at *
  clear h hok hk
  have b3 : N ≤ F + L - 1 := by omega
  have b4 : F + L - 7 ≤ N := by omega
  have b5 : -600000000 ≤ N := by omega
  have b6 : N ≤ 600000000 := by omega
  rw [hN] at HT
  clear hN b1 b2
  unfold Rets
  rcases hb with ⟨rfl, hV, hb⟩ | ⟨rfl, hV, hb⟩
  all_goals
    rw [hV]
    clear hV
    go_enter Try.func60, Try.ntmps60
    go_wp2_with (first | (go_at_call 29; refine Rets.use (HR _).out ?_; intro _) | (go_at_call 71; refine Rets.use (HD _).out ?_; intro _) | (go_at_call 56; refine Rets.use (HL _).out ?_; intro _))
    go_loopw [8] (fun i wr => ∃ n : Int, i = .int .i64 n ∧ N ≤ n ∧ n ≤ F + L - 1 ∧ Ext (w.alloc (.cells #[.int .i64 m, .int .i64 1, .int .i64 wd, .int .i64 0, .int .i64 t, .int .i64 r] 41)) wr) (fun i _ => (intOf i - N).toNat)
    case atStart => exact ⟨_, rfl, by omega, by omega, isext⟩
    case round =>
      obtain ⟨n, rfl, c1, c2, hx⟩ := hrel
      obtain ⟨yr, rfl⟩ := fin hx
      clear hx
      have HW := fun w => Lib.hid (down_any (n + 3) 7 w (by omega) (by omega) (by omega) (by omega))
      obtain ⟨Q, hQ⟩ : ∃ Q, (n + 3) / 7 = Q := ⟨_, rfl⟩
      have q1 : -100000000 ≤ Q := by omega
      have q2 : Q ≤ 100000000 := by omega
      have hz := seven_eq (wd := wd) hQ
      rw [hQ] at HW
      have x1 : IntKind.i64.wrap (n + 3) = n + 3 := by rw [IntKind.wrap_i64]; omega
      have x2 : IntKind.i64.wrap (7 * Q) = 7 * Q := by rw [IntKind.wrap_i64]; omega
      have x3 : IntKind.i64.wrap (n + 3 - 7 * Q) = n + 3 - 7 * Q := by rw [IntKind.wrap_i64]; omega
      have x4 : IntKind.i64.wrap (n + 3 - 7 * Q + 1) = n + 3 - 7 * Q + 1 := by rw [IntKind.wrap_i64]; omega
      by_cases he : n = N
      · subst he
        have f1 := hz.1 HT.out
        clear hz hQ
        go_wp2_with fail
        refine wp_region_past1 (by kernel_rfl) (by kernel_rfl) ?_
        repeat (go_big_quiet_step ((go_at_call 54; exact Rets.quiet (HW _).out)))
        refine wpQuiet_nil ?_
        intro _
        clear x1 x2 x3 x4
        go_wp2
        go_ret2
        exact ⟨rfl, done⟩
      · have f1 := hz.2 (by have := HT.out; omega)
        clear hz hQ
        have c3 : n ≠ N := he
        clear he
        go_wp2_with fail
        refine wp_region_past1 (by kernel_rfl) (by kernel_rfl) ?_
        repeat (go_big_quiet_step ((go_at_call 54; exact Rets.quiet (HW _).out)))
        refine wpQuiet_nil ?_
        intro _
        clear x1 x2 x3 x4
        go_wp2
        go_roundw
        case rel => exact ⟨_, rfl, by omega, by omega, isext⟩
        case measure => simp [intOf]; omega
set_option maxRecDepth 100000 in
set_option maxHeartbeats 8000000 in
theorem ron_yes3 (m wd d t r y N : Int) (w : World) (h : Mom.rightB m 3 wd d t r = true) (y1 : 1 ≤ y) (y2 : y ≤ 300000) (hok : Civ.okD y m 1 = true) (hN : Mom.onI m 3 wd d y = N) (b : Bool) (V : Int) (hb : (b = true ∧ V = N ∧ N ≤ 100000000) ∨ (b = false ∧ V = 0 ∧ 100000000 < N)) :
    Rets Try.prog 60 #[spotA m 3 wd d t r, .int .i64 y] w (.tuple #[.int .i64 V, .bool b]) := by
  have HR := fun w => Lib.hid (rright_whole m 3 wd d t r w)
  have HD := fun w => Lib.hid (rdays_any y m 1 w)
  have HL := fun w => Lib.hid (rmlen_any y m w)
  rw [h] at HR
  rw [hok, dnum_yes _ _ _ hok] at HD
  obtain ⟨m1, m2, -, -, -, -, hk⟩ := Mom.right_all h
  obtain ⟨n1, n2⟩ := num_bd y m 1 (by omega) (by omega) m1 m2 (by omega) (by omega)
  obtain ⟨l1, l2⟩ := Civ.mlen_bd y m
  unfold Mom.onI at hN
  rw [Mom.fall_3 rfl] at hN
  generalize Civ.num y m 1 = F at *
  generalize Civ.mlen y m = L at *
  have g1 : decide (y < 1) = false := decide_eq_false (by omega)
  have g2 : decide (300000 < y) = false := decide_eq_false (by omega)
  obtain ⟨k1, k2, k3, k4⟩ : 1 ≤ wd ∧ wd ≤ 7 ∧ 1 ≤ d ∧ d ≤ 31 := by omega
  obtain ⟨b1, b2⟩ := Mom.back_bd (F + d - 1) wd
  have HT := Lib.hid (Mom.back_wd (n := F + d - 1) k1 k2)
  generalize Mom.backI (F + d - 1) wd = B at *
  clear h hok hk
  have b3 : N ≤ F + d - 1 := by omega
  have b4 : F + d - 7 ≤ N := by omega
  have b5 : -600000000 ≤ N := by omega
  have b6 : N ≤ 600000000 := by omega
  rw [hN] at HT
  clear hN b1 b2
  unfold Rets
  rcases hb with ⟨rfl, hV, hb⟩ | ⟨rfl, hV, hb⟩
  all_goals
    rw [hV]
    clear hV
    go_enter Try.func60, Try.ntmps60
    go_wp2_with (first | (go_at_call 29; refine Rets.use (HR _).out ?_; intro _) | (go_at_call 71; refine Rets.use (HD _).out ?_; intro _))
    go_loopw [8] (fun i wr => ∃ n : Int, i = .int .i64 n ∧ N ≤ n ∧ n ≤ F + d - 1 ∧ Ext (w.alloc (.cells #[.int .i64 m, .int .i64 3, .int .i64 wd, .int .i64 d, .int .i64 t, .int .i64 r] 41)) wr) (fun i _ => (intOf i - N).toNat)
    case atStart => exact ⟨_, rfl, by omega, by omega, isext⟩
    case round =>
      obtain ⟨n, rfl, c1, c2, hx⟩ := hrel
      obtain ⟨yr, rfl⟩ := fin hx
      clear hx
      have HW := fun w => Lib.hid (down_any (n + 3) 7 w (by omega) (by omega) (by omega) (by omega))
      obtain ⟨Q, hQ⟩ : ∃ Q, (n + 3) / 7 = Q := ⟨_, rfl⟩
      have q1 : -100000000 ≤ Q := by omega
      have q2 : Q ≤ 100000000 := by omega
      have hz := seven_eq (wd := wd) hQ
      rw [hQ] at HW
      have x1 : IntKind.i64.wrap (n + 3) = n + 3 := by rw [IntKind.wrap_i64]; omega
      have x2 : IntKind.i64.wrap (7 * Q) = 7 * Q := by rw [IntKind.wrap_i64]; omega
      have x3 : IntKind.i64.wrap (n + 3 - 7 * Q) = n + 3 - 7 * Q := by rw [IntKind.wrap_i64]; omega
      have x4 : IntKind.i64.wrap (n + 3 - 7 * Q + 1) = n + 3 - 7 * Q + 1 := by rw [IntKind.wrap_i64]; omega
      by_cases he : n = N
      · subst he
        have f1 := hz.1 HT.out
        clear hz hQ
        go_wp2_with fail
        refine wp_region_past1 (by kernel_rfl) (by kernel_rfl) ?_
        repeat (go_big_quiet_step ((go_at_call 54; exact Rets.quiet (HW _).out)))
        refine wpQuiet_nil ?_
        intro _
        clear x1 x2 x3 x4
        go_wp2
        go_ret2
        exact ⟨rfl, done⟩
      · have f1 := hz.2 (by have := HT.out; omega)
        clear hz hQ
        have c3 : n ≠ N := he
        clear he
        go_wp2_with fail
        refine wp_region_past1 (by kernel_rfl) (by kernel_rfl) ?_
        repeat (go_big_quiet_step ((go_at_call 54; exact Rets.quiet (HW _).out)))
        refine wpQuiet_nil ?_
        intro _
        clear x1 x2 x3 x4
        go_wp2
        go_roundw
        case rel => exact ⟨_, rfl, by omega, by omega, isext⟩
        case measure => simp [intOf]; omega
set_option maxRecDepth 100000 in
set_option maxHeartbeats 8000000 in
theorem ron_yes2 (m wd d t r y N : Int) (w : World) (h : Mom.rightB m 2 wd d t r = true) (y1 : 1 ≤ y) (y2 : y ≤ 300000) (hok : Civ.okD y m 1 = true) (hN : Mom.onI m 2 wd d y = N) (b : Bool) (V : Int) (hb : (b = true ∧ V = N ∧ N ≤ 100000000) ∨ (b = false ∧ V = 0 ∧ 100000000 < N)) :
    Rets Try.prog 60 #[spotA m 2 wd d t r, .int .i64 y] w (.tuple #[.int .i64 V, .bool b]) := by
  have HR := fun w => Lib.hid (rright_whole m 2 wd d t r w)
  have HD := fun w => Lib.hid (rdays_any y m 1 w)
  have HL := fun w => Lib.hid (rmlen_any y m w)
  rw [h] at HR
  rw [hok, dnum_yes _ _ _ hok] at HD
  obtain ⟨m1, m2, -, -, -, -, hk⟩ := Mom.right_all h
  obtain ⟨n1, n2⟩ := num_bd y m 1 (by omega) (by omega) m1 m2 (by omega) (by omega)
  obtain ⟨l1, l2⟩ := Civ.mlen_bd y m
  unfold Mom.onI at hN
  rw [Mom.fall_2 rfl] at hN
  generalize Civ.num y m 1 = F at *
  generalize Civ.mlen y m = L at *
  have g1 : decide (y < 1) = false := decide_eq_false (by omega)
  have g2 : decide (300000 < y) = false := decide_eq_false (by omega)
  obtain ⟨k1, k2, k3, k4⟩ : 1 ≤ wd ∧ wd ≤ 7 ∧ 1 ≤ d ∧ d ≤ 31 := by omega
  obtain ⟨b1, b2⟩ := Mom.back_bd (F + d + 5) wd
  have HT := Lib.hid (Mom.back_wd (n := F + d + 5) k1 k2)
  generalize Mom.backI (F + d + 5) wd = B at *
  clear h hok hk
  have b3 : N ≤ F + d + 5 := by omega
  have b4 : F + d - 1 ≤ N := by omega
  have b5 : -600000000 ≤ N := by omega
  have b6 : N ≤ 600000000 := by omega
  rw [hN] at HT
  clear hN b1 b2
  unfold Rets
  rcases hb with ⟨rfl, hV, hb⟩ | ⟨rfl, hV, hb⟩
  all_goals
    rw [hV]
    clear hV
    go_enter Try.func60, Try.ntmps60
    go_wp2_with (first | (go_at_call 29; refine Rets.use (HR _).out ?_; intro _) | (go_at_call 71; refine Rets.use (HD _).out ?_; intro _))
    go_loopw [8] (fun i wr => ∃ n : Int, i = .int .i64 n ∧ F + d - 1 ≤ n ∧ n ≤ N ∧ Ext (w.alloc (.cells #[.int .i64 m, .int .i64 2, .int .i64 wd, .int .i64 d, .int .i64 t, .int .i64 r] 41)) wr) (fun i _ => (N - intOf i).toNat)
    case atStart => exact ⟨_, rfl, by omega, by omega, isext⟩
    case round =>
      obtain ⟨n, rfl, c1, c2, hx⟩ := hrel
      obtain ⟨yr, rfl⟩ := fin hx
      clear hx
      have HW := fun w => Lib.hid (down_any (n + 3) 7 w (by omega) (by omega) (by omega) (by omega))
      obtain ⟨Q, hQ⟩ : ∃ Q, (n + 3) / 7 = Q := ⟨_, rfl⟩
      have q1 : -100000000 ≤ Q := by omega
      have q2 : Q ≤ 100000000 := by omega
      have hz := seven_eq (wd := wd) hQ
      rw [hQ] at HW
      have x1 : IntKind.i64.wrap (n + 3) = n + 3 := by rw [IntKind.wrap_i64]; omega
      have x2 : IntKind.i64.wrap (7 * Q) = 7 * Q := by rw [IntKind.wrap_i64]; omega
      have x3 : IntKind.i64.wrap (n + 3 - 7 * Q) = n + 3 - 7 * Q := by rw [IntKind.wrap_i64]; omega
      have x4 : IntKind.i64.wrap (n + 3 - 7 * Q + 1) = n + 3 - 7 * Q + 1 := by rw [IntKind.wrap_i64]; omega
      by_cases he : n = N
      · subst he
        have f1 := hz.1 HT.out
        clear hz hQ
        go_wp2_with fail
        refine wp_region_past1 (by kernel_rfl) (by kernel_rfl) ?_
        repeat (go_big_quiet_step ((go_at_call 54; exact Rets.quiet (HW _).out)))
        refine wpQuiet_nil ?_
        intro _
        clear x1 x2 x3 x4
        go_wp2
        go_ret2
        exact ⟨rfl, done⟩
      · have f1 := hz.2 (by have := HT.out; omega)
        clear hz hQ
        have c3 : n ≠ N := he
        clear he
        go_wp2_with fail
        refine wp_region_past1 (by kernel_rfl) (by kernel_rfl) ?_
        repeat (go_big_quiet_step ((go_at_call 54; exact Rets.quiet (HW _).out)))
        refine wpQuiet_nil ?_
        intro _
        clear x1 x2 x3 x4
        go_wp2
        go_roundw
        case rel => exact ⟨_, rfl, by omega, by omega, isext⟩
        case measure => simp [intOf]; omega
end Go.Proofs.Ytodcgalcpnckaaa
