/- Walks of moments: the laws of what is written, and of what is read again. -/
import Derived.Test.YtgnjmejmngljjaaMomWalkZH
import Derived.Test.YtgnjmejmngljjaaMomPlainI
set_option linter.unusedVariables false
set_option linter.unusedSimpArgs false
namespace Go.Proofs.Ytgnjmejmngljjaa
open Go.RowKit

theorem i64_bd {x : Int} (h : (Lit.int .i64 x).wf = true) : -9223372036854775808 ≤ x ∧ x ≤ 9223372036854775807 := by
  have h1 : IntKind.i64.min = -9223372036854775808 := rfl
  have h2 : IntKind.i64.max = 9223372036854775807 := rfl
  simp [Lit.wf, h1, h2] at h; omega
theorem strs_map (ws : List (List UInt8)) : strs ws = (ws.map fun s => (⟨s.toArray⟩ : ByteArray)).map Value.string := by simp [strs]
set_option maxRecDepth 100000 in
set_option maxHeartbeats 4000000 in
theorem prints_no (m k wd d t r n : Int) (hn : (Lit.int .i64 n).wf = true) (w : World) (mx : Int) (hm : w.cell? ⟨0, 0, none⟩ = some (.int .i64 mx)) (hw0 : 0 < w.heap.size) (hR : Mom.rightB m k wd d t r = false) :
    Rets Try.prog 8 #[spotA m k wd d t r, .int .i64 n] w (.bool true) := by
  haveI : InW 0 w := ⟨hw0⟩
  have HP := fun w => Lib.hid (print_no m k wd d t r w hR)
  have H1 := fun w => Lib.hid (right_whole m k wd d t r w)
  have H2 := fun w => Lib.hid (rright_whole m k wd d t r w)
  have H3 := fun w => Lib.hid (time_any n (i64_bd hn) w)
  have H4 := fun w => Lib.hid (rtime_any n (i64_bd hn) w)
  rw [hR] at H1 H2
  clear hR hn
  generalize Mom.timeD n = T at *
  unfold Rets
  go_enter Try.func8, Try.ntmps8
  go_wp2_with (go_at_call 29; refine Rets.use (HP _).out ?_; intro _)
  refine wp_region_past1 (by kernel_rfl) (by kernel_rfl) ?_
  repeat (go_big_quiet_step (first | (go_at_call 14; exact Rets.quiet (malive_any _ mx (max_at isext hw0 hm) (Nat.lt_of_lt_of_le hw0 (Below.size isext)))) | (go_at_call 25; exact Rets.quiet (H1 _).out) | (go_at_call 30; exact Rets.quiet (H2 _).out) | (go_at_call 31; exact Rets.quiet (H3 _).out) | (go_at_call 32; exact Rets.quiet (H4 _).out)))
  refine wpQuiet_nil ?_
  intro _
  go_wp2_with (go_at_call 30; refine Rets.use (H2 _).out ?_; intro _)
  go_ret
  exact ⟨rfl, done⟩
set_option maxRecDepth 100000 in
set_option maxHeartbeats 4000000 in
theorem prints_yes (i K W D R : Nat) (t n : Int) (hn : (Lit.int .i64 n).wf = true) (w : World) (mx : Int) (hm : w.cell? ⟨0, 0, none⟩ = some (.int .i64 mx)) (hw0 : 0 < w.heap.size) (hR : Mom.rightB ((i : Int) + 1) K W D t R = true)
    (HP : ∀ w, PrintOf 29 #[spotA ((i : Int) + 1) K W D t R] w (Mom.printD (i + 1) K W D t R) 3) (HQ : ∀ w, TextsOf 34 #[spotA ((i : Int) + 1) K W D t R] w (Mom.printD (i + 1) K W D t R) 3) :
    Rets Try.prog 8 #[spotA ((i : Int) + 1) K W D t R, .int .i64 n] w (.bool true) := by
  haveI : InW 0 w := ⟨hw0⟩
  have HP := fun w => Lib.hid (HP w)
  have HQ := fun w => Lib.hid (HQ w)
  have H1 := fun w => Lib.hid (right_whole ((i : Int) + 1) K W D t R w)
  have H2 := fun w => Lib.hid (rright_whole ((i : Int) + 1) K W D t R w)
  have H3 := fun w => Lib.hid (time_any n (i64_bd hn) w)
  have H4 := fun w => Lib.hid (rtime_any n (i64_bd hn) w)
  rw [hR] at H1 H2
  clear hR hn
  generalize Mom.timeD n = T at *
  have hl : (Mom.printD (i + 1) K W D t R).length = 3 := rfl
  generalize Mom.printD (i + 1) K W D t R = L at *
  have HS := fun va vb (w0 : World) ha hb => Lib.hid (texts_same (L.map fun s => (⟨s.toArray⟩ : ByteArray)) 3 (by simpa using hl) va vb w0 ha hb)
  rw [← strs_map] at HS
  unfold Rets
  go_enter Try.func8, Try.ntmps8
  go_wp2_with fail
  refine ((HP _).out).mono ?_
  rintro _ _ ⟨v, y, rfl, hr, rfl⟩
  go_wp2_with fail
  refine wp_region_past (by kernel_rfl) (by kernel_rfl) ?_
  repeat (go_big_quiet_step (first | (go_at_call 14; exact Rets.quiet (malive_any _ mx (max_at isext hw0 hm) (Nat.lt_of_lt_of_le hw0 (Below.size isext)))) | (go_at_call 25; exact Rets.quiet (H1 _).out) | (go_at_call 30; exact Rets.quiet (H2 _).out) | (go_at_call 31; exact Rets.quiet (H3 _).out) | (go_at_call 32; exact Rets.quiet (H4 _).out)))
  refine wpQuiet_nil ?_
  intro z
  go_wp2_with (go_at_call 30; refine Rets.use (H2 _).out ?_; intro _)
  refine ((HQ _).out).mono ?_
  rintro _ _ ⟨v2, y2, rfl, hr2, rfl⟩
  go_wp2_with fail
  refine Rets.use (HS _ _ _ (hr.ext isext) (hr2.ext isext)).out ?_
  intro _
  go_wp2
  go_ret
  exact ⟨rfl, done⟩
theorem printslaw_any (m k wd d t r n : Int) (hn : (Lit.int .i64 n).wf = true) (w : World) (mx : Int) (hm : w.cell? ⟨0, 0, none⟩ = some (.int .i64 mx)) (hw0 : 0 < w.heap.size) :
    Rets Try.prog 8 #[spotA m k wd d t r, .int .i64 n] w (.bool true) := by
  cases hR : Mom.rightB m k wd d t r
  · exact prints_no m k wd d t r n hn w mx hm hw0 hR
  · obtain ⟨i, K, W, D, R, hi, rfl, hK, rfl, hW, rfl, hD, rfl, hR2, rfl, t1, t2, k1, k2, k3, k4⟩ := right_nat hR
    refine prints_yes i K W D R t n hn w mx hm hw0 hR (fun w => print_nat i K W D R t w hi hK hW hD hR2 t1 t2 hR) (fun w => ?_)
    exact rprint_any (i + 1) K W D R t w (by omega) (by omega) hK hW hD t1 t2 hR2 (fun h => (k1 h).1)
/-- What is written reads as it was. -/
theorem parse_print (i K W D R : Nat) (t : Int) (hi : i < 12) (hK : K ≤ 3) (hW : W < 8) (hD : D ≤ 31) (hR : R ≤ 2) (t1 : -604799 ≤ t) (t2 : t ≤ 604799) (k1 : K = 0 → W = 0 ∧ 1 ≤ D) (k2 : K = 1 → D = 0) (k3 : K ≠ 0 → 1 ≤ W) (k4 : K ≠ 1 → 1 ≤ D) :
    parseR (Mom.printD (i + 1) K W D t R) = .inr ⟨(i : Int) + 1, K, W, D, t, R⟩ := by
  have e1 := Mom.month_back (m := i + 1) (by omega) (by omega)
  have e2 := Mom.day_back (k := K) (wd := W) (d := D) hK (fun h => ⟨k3 h, by omega⟩) (fun h => (k1 h).1) (fun h => ⟨k4 h, hD⟩) k2
  have e3 := Mom.clock_back t1 t2 hR
  rw [Mom.clock_eq] at e3
  unfold parseR Mom.printD
  rw [if_neg (by simp)]
  simp only [contR, e1, e2, e3]
  rw [if_neg (by omega)]
  rfl
theorem print_short (i K W D R : Nat) (t : Int) (hi : i < 12) (hW : W < 8) (hD : D ≤ 31) (t1 : -604799 ≤ t) (t2 : t ≤ 604799) : ∀ s ∈ Mom.printD (i + 1) K W D t R, s.length ≤ 2000 := by
  have lD : (Mom.dec D).length ≤ 2 := Mom.dec_len 2 D (by omega) (by omega)
  have lT := timeD_len t1 t2
  have lA := wdD_len W hW
  have lM := short_len i hi
  have lR : (Mom.refD R).length ≤ 1 := by unfold Mom.refD; split; · simp
                                          split <;> simp
  intro s hs
  unfold Mom.printD at hs
  simp only [List.mem_cons, List.not_mem_nil, or_false] at hs
  rcases hs with rfl | rfl | rfl
  · rw [show i + 1 - 1 = i from rfl]; omega
  · unfold Mom.dayD
    split
    · omega
    · split
      · simp only [List.length_append, List.length_cons, List.length_nil]; omega
      · split <;> (simp only [List.length_append, List.length_cons, List.length_nil]; omega)
  · simp only [List.length_append]; omega
set_option maxRecDepth 100000 in
set_option maxHeartbeats 4000000 in
theorem back_no (m k wd d t r : Int) (w : World) (mx : Int) (hm : w.cell? ⟨0, 0, none⟩ = some (.int .i64 mx)) (hw0 : 0 < w.heap.size) (hR : Mom.rightB m k wd d t r = false) :
    Rets Try.prog 9 #[spotA m k wd d t r] w (.bool true) := by
  haveI : InW 0 w := ⟨hw0⟩
  have HP := fun w => Lib.hid (print_no m k wd d t r w hR)
  have H1 := fun w => Lib.hid (right_whole m k wd d t r w)
  rw [hR] at H1
  clear hR
  unfold Rets
  go_enter Try.func9, Try.ntmps9
  go_wp2_with (first | (go_at_call 29; refine Rets.use (HP _).out ?_; intro _) | (go_at_call 25; refine Rets.use (H1 _).out ?_; intro _) | (go_at_call 14; refine Rets.use (malive_any _ mx (max_at isext hw0 hm) (Nat.lt_of_lt_of_le hw0 (Below.size isext))) ?_; intro _))
  go_ret
  exact ⟨rfl, done⟩
set_option maxRecDepth 100000 in
set_option maxHeartbeats 4000000 in
theorem back_yes (m k wd d t r : Int) (L : List (List UInt8)) (hl : L.length = 3) (hs : ∀ s ∈ L, s.length ≤ 2000) (w : World) (mx : Int) (hm : w.cell? ⟨0, 0, none⟩ = some (.int .i64 mx)) (hw0 : 0 < w.heap.size) (hR : Mom.rightB m k wd d t r = true)
    (HP : ∀ w, PrintOf 29 #[spotA m k wd d t r] w L 3) (hp : parseR L = .inr ⟨m, k, wd, d, t, r⟩) :
    Rets Try.prog 9 #[spotA m k wd d t r] w (.bool true) := by
  haveI : InW 0 w := ⟨hw0⟩
  have HP := fun w => Lib.hid (HP w)
  have H1 := fun w => Lib.hid (right_whole m k wd d t r w)
  rw [hR] at H1
  have HQ : ∀ (v : Value) (w : World) (_ : Reads w v 3 (strs L)) (_ : w.cell? ⟨0, 0, none⟩ = some (.int .i64 mx)) (_ : 0 < w.heap.size), Hid (Rets Try.prog 15 #[v] w (.tuple #[.agg #[.int .i64 m, .int .i64 k, .int .i64 wd, .int .i64 d, .int .i64 t, .int .i64 r], .int .i64 0, .int .i64 0])) := fun v w h1 h2 h3 => by
    have := parse_any L 3 hl v w mx h1 (fun _ => hs) h2 h3
    rw [hp] at this; exact this
  clear hR hp hs hl
  unfold Rets
  go_enter Try.func9, Try.ntmps9
  go_wp2_with fail
  refine ((HP _).out).mono ?_
  rintro _ _ ⟨v, y, rfl, hr, rfl⟩
  go_wp2_with fail
  refine Rets.use (HQ _ _ hr (max_at isext hw0 hm) (Nat.lt_of_lt_of_le hw0 (Below.size isext))).out ?_
  intro _
  go_wp2_with (first | (go_at_call 25; refine Rets.use (H1 _).out ?_; intro _) | (go_at_call 14; refine Rets.use (malive_any _ mx (max_at isext hw0 hm) (Nat.lt_of_lt_of_le hw0 (Below.size isext))) ?_; intro _))
  go_ret
  exact ⟨rfl, done⟩
theorem backlaw_any (m k wd d t r : Int) (w : World) (mx : Int) (hm : w.cell? ⟨0, 0, none⟩ = some (.int .i64 mx)) (hw0 : 0 < w.heap.size) :
    Rets Try.prog 9 #[spotA m k wd d t r] w (.bool true) := by
  cases hR : Mom.rightB m k wd d t r
  · exact back_no m k wd d t r w mx hm hw0 hR
  · obtain ⟨i, K, W, D, R, hi, rfl, hK, rfl, hW, rfl, hD, rfl, hR2, rfl, t1, t2, k1, k2, k3, k4⟩ := right_nat hR
    exact back_yes _ _ _ _ _ _ (Mom.printD (i + 1) K W D t R) rfl (print_short i K W D R t hi hW hD t1 t2) w mx hm hw0 hR (fun w => print_nat i K W D R t w hi hK hW hD hR2 t1 t2 hR) (parse_print i K W D R t hi hK hW hD hR2 t1 t2 k1 k2 k3 k4)
end Go.Proofs.Ytgnjmejmngljjaa
