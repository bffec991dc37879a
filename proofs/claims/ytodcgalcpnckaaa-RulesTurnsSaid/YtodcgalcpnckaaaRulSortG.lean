/- Walks of rules: the library's stable sort of more than 19 turns, up to 60. -/
import Derived.Test.YtodcgalcpnckaaaRulSortF
set_option linter.unusedVariables false
set_option linter.unusedSimpArgs false
namespace Go.Proofs.Ytodcgalcpnckaaa
open Go.RowKit Go.Sort Go.Shelf

set_option maxRecDepth 100000 in
set_option maxHeartbeats 4000000 in
theorem stable_b (X Y : List Turn) (n g cap : Nat) (w0 w : World) (hX : X.length = 20) (hY : 20 + Y.length = n) (h0 : 0 < Y.length) (h1 : n < 40) (hW : RW w0 w g (X ++ Y)) :
    Calls Try.prog 45 #[.slice (some ⟨g, 0, none⟩) n cap, .int .i64 n, .func (.func 27) #[] #[]] w fun e w' => e = .returned (.tuple #[]) ∧ RW w0 w' g (Rul.sortT (X ++ Y)) := by
  have H1 : ∀ w', RW w0 w' g (X ++ Y) → Hid (Calls Try.prog 58 #[.slice (some ⟨g, 0, none⟩) n cap, .int .i64 0, .int .i64 20, .func (.func 27) #[] #[]] w' fun e w'' => e = .returned (.tuple #[]) ∧ RW w0 w'' g (Rul.sortT X ++ Y)) := fun w' hw => by
    have := insort_part ([]) (X) (Y) 0 20 n g cap w0 w' (by first | omega | (simp [Rul.sortT_length]; done) | (simp [Rul.sortT_length]; omega)) (by first | omega | (simp [Rul.sortT_length]; done) | (simp [Rul.sortT_length]; omega)) (by first | omega | (simp [Rul.sortT_length]; done) | (simp [Rul.sortT_length]; omega)) (by simpa using hw) (by omega)
    refine this.mono ?_
    rintro _ w'' ⟨rfl, h9⟩
    exact ⟨rfl, by simpa [Rul.sortT] using h9⟩
  have H2 : ∀ w', RW w0 w' g (Rul.sortT X ++ Y) → Hid (Calls Try.prog 58 #[.slice (some ⟨g, 0, none⟩) n cap, .int .i64 20, .int .i64 n, .func (.func 27) #[] #[]] w' fun e w'' => e = .returned (.tuple #[]) ∧ RW w0 w'' g (Rul.sortT X ++ Rul.sortT Y)) := fun w' hw => by
    have := insort_part (Rul.sortT X) (Y) ([]) 20 n n g cap w0 w' (by first | omega | (simp [Rul.sortT_length]; done) | (simp [Rul.sortT_length]; omega)) (by first | omega | (simp [Rul.sortT_length]; done) | (simp [Rul.sortT_length]; omega)) (by first | omega | (simp [Rul.sortT_length]; done) | (simp [Rul.sortT_length]; omega)) (by simpa using hw) (by omega)
    refine this.mono ?_
    rintro _ w'' ⟨rfl, h9⟩
    exact ⟨rfl, by simpa [Rul.sortT] using h9⟩
  have H3 : ∀ w', RW w0 w' g (Rul.sortT X ++ Rul.sortT Y) → Hid (Calls Try.prog 59 #[.slice (some ⟨g, 0, none⟩) n cap, .int .i64 0, .int .i64 20, .int .i64 n, .func (.func 27) #[] #[]] w' fun e w'' => e = .returned (.tuple #[]) ∧ RW w0 w'' g (Rul.sortT (X ++ Y))) := fun w' hw => by
    have := symmerge_any [] (Rul.sortT X) (Rul.sortT Y) ([]) 0 20 n n g cap w0 w' rfl (by first | omega | (simp [Rul.sortT_length]; done) | (simp [Rul.sortT_length]; omega)) (by first | omega | (simp [Rul.sortT_length]; done) | (simp [Rul.sortT_length]; omega)) (by first | omega | (simp [Rul.sortT_length]; done) | (simp [Rul.sortT_length]; omega)) (by first | omega | (simp [Rul.sortT_length]; done) | (simp [Rul.sortT_length]; omega)) (Rul.up_sort X) (Rul.up_sort Y) (by first | omega | (simp [Rul.sortT_length]; done) | (simp [Rul.sortT_length]; omega)) (by simpa using hw) (by omega)
    rw [Rul.mrg_sorted] at this
    refine this.mono ?_
    rintro _ w'' ⟨rfl, h9⟩
    exact ⟨rfl, by simpa using h9⟩
  have q0 : (20 : Int) ≤ (n : Int) := by omega
  have q1 : decide ((40 : Int) ≤ (n : Int)) = false := decide_eq_false (by omega)
  have q2 : (20 : Int) < (n : Int) := by omega
  have q3 : decide ((40 : Int) < (n : Int)) = false := decide_eq_false (by omega)
  have W0 := Lib.hid hW
  clear hW
  clear h1
  go_enter Try.func45, Try.ntmps45
  go_wp2_with fail
  refine wp_loop_rounds 2 ?_
  simp only [rounds_succ]
  go_wp2_with fail
  go_at_call 58
  refine (H1 _ W0.out).out.mono ?_
  rintro _ w1 ⟨rfl, h9⟩
  have W1 := Lib.hid h9
  clear h9
  go_wp2_with fail
  simp only [rounds_succ]
  go_wp2_with fail
  go_at_call 58
  refine (H2 _ W1.out).out.mono ?_
  rintro _ w2 ⟨rfl, h9⟩
  have W2 := Lib.hid h9
  clear h9
  go_wp2_with fail
  refine wp_loop_rounds 2 ?_
  simp only [rounds_succ]
  go_wp2_with fail
  refine wp_loop_rounds 1 ?_
  simp only [rounds_succ]
  go_wp2_with fail
  go_at_call 59
  refine (H3 _ W2.out).out.mono ?_
  rintro _ w3 ⟨rfl, h9⟩
  have W3 := Lib.hid h9
  clear h9
  go_wp2_with fail
  simp only [rounds_succ]
  go_wp2
  go_end0
  exact ⟨rfl, W3.out⟩
set_option maxRecDepth 100000 in
set_option maxHeartbeats 4000000 in
theorem stable_a (X : List Turn) (n g cap : Nat) (w0 w : World) (hX : X.length = 20) (h1 : n = 20) (hW : RW w0 w g (X)) :
    Calls Try.prog 45 #[.slice (some ⟨g, 0, none⟩) n cap, .int .i64 n, .func (.func 27) #[] #[]] w fun e w' => e = .returned (.tuple #[]) ∧ RW w0 w' g (Rul.sortT (X)) := by
  have H1 : ∀ w', RW w0 w' g (X) → Hid (Calls Try.prog 58 #[.slice (some ⟨g, 0, none⟩) n cap, .int .i64 0, .int .i64 20, .func (.func 27) #[] #[]] w' fun e w'' => e = .returned (.tuple #[]) ∧ RW w0 w'' g (Rul.sortT X)) := fun w' hw => by
    have := insort_part ([]) (X) ([]) 0 20 n g cap w0 w' (by first | omega | (simp [Rul.sortT_length]; done) | (simp [Rul.sortT_length]; omega)) (by first | omega | (simp [Rul.sortT_length]; done) | (simp [Rul.sortT_length]; omega)) (by first | omega | (simp [Rul.sortT_length]; done) | (simp [Rul.sortT_length]; omega)) (by simpa using hw) (by omega)
    refine this.mono ?_
    rintro _ w'' ⟨rfl, h9⟩
    exact ⟨rfl, by simpa [Rul.sortT] using h9⟩
  have H2 : ∀ w', RW w0 w' g (Rul.sortT X) → Hid (Calls Try.prog 58 #[.slice (some ⟨g, 0, none⟩) n cap, .int .i64 20, .int .i64 n, .func (.func 27) #[] #[]] w' fun e w'' => e = .returned (.tuple #[]) ∧ RW w0 w'' g (Rul.sortT X)) := fun w' hw => by
    have := insort_part (Rul.sortT X) ([]) ([]) 20 n n g cap w0 w' (by first | omega | (simp [Rul.sortT_length]; done) | (simp [Rul.sortT_length]; omega)) (by first | omega | (simp [Rul.sortT_length]; done) | (simp [Rul.sortT_length]; omega)) (by first | omega | (simp [Rul.sortT_length]; done) | (simp [Rul.sortT_length]; omega)) (by simpa using hw) (by omega)
    refine this.mono ?_
    rintro _ w'' ⟨rfl, h9⟩
    exact ⟨rfl, by simpa [Rul.sortT] using h9⟩
  have q0 : (20 : Int) ≤ (n : Int) := by omega
  have q1 : decide ((40 : Int) ≤ (n : Int)) = false := decide_eq_false (by omega)
  have q2 : decide ((20 : Int) < (n : Int)) = false := decide_eq_false (by omega)
  have W0 := Lib.hid hW
  clear hW
  clear h1
  go_enter Try.func45, Try.ntmps45
  go_wp2_with fail
  refine wp_loop_rounds 2 ?_
  simp only [rounds_succ]
  go_wp2_with fail
  go_at_call 58
  refine (H1 _ W0.out).out.mono ?_
  rintro _ w1 ⟨rfl, h9⟩
  have W1 := Lib.hid h9
  clear h9
  go_wp2_with fail
  simp only [rounds_succ]
  go_wp2_with fail
  go_at_call 58
  refine (H2 _ W1.out).out.mono ?_
  rintro _ w2 ⟨rfl, h9⟩
  have W2 := Lib.hid h9
  clear h9
  go_wp2_with fail
  refine wp_loop_rounds 1 ?_
  simp only [rounds_succ]
  go_wp2
  go_end0
  exact ⟨rfl, W2.out⟩
set_option maxRecDepth 100000 in
set_option maxHeartbeats 4000000 in
theorem stable_c (X Y : List Turn) (n g cap : Nat) (w0 w : World) (hX : X.length = 20) (hY : Y.length = 20) (h1 : n = 40) (hW : RW w0 w g (X ++ Y)) :
    Calls Try.prog 45 #[.slice (some ⟨g, 0, none⟩) n cap, .int .i64 n, .func (.func 27) #[] #[]] w fun e w' => e = .returned (.tuple #[]) ∧ RW w0 w' g (Rul.sortT (X ++ Y)) := by
  have H1 : ∀ w', RW w0 w' g (X ++ Y) → Hid (Calls Try.prog 58 #[.slice (some ⟨g, 0, none⟩) n cap, .int .i64 0, .int .i64 20, .func (.func 27) #[] #[]] w' fun e w'' => e = .returned (.tuple #[]) ∧ RW w0 w'' g (Rul.sortT X ++ Y)) := fun w' hw => by
    have := insort_part ([]) (X) (Y) 0 20 n g cap w0 w' (by first | omega | (simp [Rul.sortT_length]; done) | (simp [Rul.sortT_length]; omega)) (by first | omega | (simp [Rul.sortT_length]; done) | (simp [Rul.sortT_length]; omega)) (by first | omega | (simp [Rul.sortT_length]; done) | (simp [Rul.sortT_length]; omega)) (by simpa using hw) (by omega)
    refine this.mono ?_
    rintro _ w'' ⟨rfl, h9⟩
    exact ⟨rfl, by simpa [Rul.sortT] using h9⟩
  have H2 : ∀ w', RW w0 w' g (Rul.sortT X ++ Y) → Hid (Calls Try.prog 58 #[.slice (some ⟨g, 0, none⟩) n cap, .int .i64 20, .int .i64 40, .func (.func 27) #[] #[]] w' fun e w'' => e = .returned (.tuple #[]) ∧ RW w0 w'' g (Rul.sortT X ++ Rul.sortT Y)) := fun w' hw => by
    have := insort_part (Rul.sortT X) (Y) ([]) 20 40 n g cap w0 w' (by first | omega | (simp [Rul.sortT_length]; done) | (simp [Rul.sortT_length]; omega)) (by first | omega | (simp [Rul.sortT_length]; done) | (simp [Rul.sortT_length]; omega)) (by first | omega | (simp [Rul.sortT_length]; done) | (simp [Rul.sortT_length]; omega)) (by simpa using hw) (by omega)
    refine this.mono ?_
    rintro _ w'' ⟨rfl, h9⟩
    exact ⟨rfl, by simpa [Rul.sortT] using h9⟩
  have H3 : ∀ w', RW w0 w' g (Rul.sortT X ++ Rul.sortT Y) → Hid (Calls Try.prog 58 #[.slice (some ⟨g, 0, none⟩) n cap, .int .i64 40, .int .i64 n, .func (.func 27) #[] #[]] w' fun e w'' => e = .returned (.tuple #[]) ∧ RW w0 w'' g (Rul.sortT X ++ Rul.sortT Y)) := fun w' hw => by
    have := insort_part (Rul.sortT X ++ Rul.sortT Y) ([]) ([]) 40 n n g cap w0 w' (by first | omega | (simp [Rul.sortT_length]; done) | (simp [Rul.sortT_length]; omega)) (by first | omega | (simp [Rul.sortT_length]; done) | (simp [Rul.sortT_length]; omega)) (by first | omega | (simp [Rul.sortT_length]; done) | (simp [Rul.sortT_length]; omega)) (by simpa using hw) (by omega)
    refine this.mono ?_
    rintro _ w'' ⟨rfl, h9⟩
    exact ⟨rfl, by simpa [Rul.sortT] using h9⟩
  have H4 : ∀ w', RW w0 w' g (Rul.sortT X ++ Rul.sortT Y) → Hid (Calls Try.prog 59 #[.slice (some ⟨g, 0, none⟩) n cap, .int .i64 0, .int .i64 20, .int .i64 40, .func (.func 27) #[] #[]] w' fun e w'' => e = .returned (.tuple #[]) ∧ RW w0 w'' g (Rul.sortT (X ++ Y))) := fun w' hw => by
    have := symmerge_any [] (Rul.sortT X) (Rul.sortT Y) ([]) 0 20 40 n g cap w0 w' rfl (by first | omega | (simp [Rul.sortT_length]; done) | (simp [Rul.sortT_length]; omega)) (by first | omega | (simp [Rul.sortT_length]; done) | (simp [Rul.sortT_length]; omega)) (by first | omega | (simp [Rul.sortT_length]; done) | (simp [Rul.sortT_length]; omega)) (by first | omega | (simp [Rul.sortT_length]; done) | (simp [Rul.sortT_length]; omega)) (Rul.up_sort X) (Rul.up_sort Y) (by first | omega | (simp [Rul.sortT_length]; done) | (simp [Rul.sortT_length]; omega)) (by simpa using hw) (by omega)
    rw [Rul.mrg_sorted] at this
    refine this.mono ?_
    rintro _ w'' ⟨rfl, h9⟩
    exact ⟨rfl, by simpa using h9⟩
  have q0 : (20 : Int) ≤ (n : Int) := by omega
  have q1 : (40 : Int) ≤ (n : Int) := by omega
  have q2 : decide ((60 : Int) ≤ (n : Int)) = false := decide_eq_false (by omega)
  have q3 : decide ((80 : Int) ≤ (n : Int)) = false := decide_eq_false (by omega)
  have q4 : (20 : Int) < (n : Int) := by omega
  have q5 : decide ((40 : Int) < (n : Int)) = false := decide_eq_false (by omega)
  have q6 : decide ((60 : Int) < (n : Int)) = false := decide_eq_false (by omega)
  have W0 := Lib.hid hW
  clear hW
  clear h1
  go_enter Try.func45, Try.ntmps45
  go_wp2_with fail
  refine wp_loop_rounds 3 ?_
  simp only [rounds_succ]
  go_wp2_with fail
  go_at_call 58
  refine (H1 _ W0.out).out.mono ?_
  rintro _ w1 ⟨rfl, h9⟩
  have W1 := Lib.hid h9
  clear h9
  go_wp2_with fail
  simp only [rounds_succ]
  go_wp2_with fail
  go_at_call 58
  refine (H2 _ W1.out).out.mono ?_
  rintro _ w2 ⟨rfl, h9⟩
  have W2 := Lib.hid h9
  clear h9
  go_wp2_with fail
  simp only [rounds_succ]
  go_wp2_with fail
  go_at_call 58
  refine (H3 _ W2.out).out.mono ?_
  rintro _ w3 ⟨rfl, h9⟩
  have W3 := Lib.hid h9
  clear h9
  go_wp2_with fail
  refine wp_loop_rounds 2 ?_
  simp only [rounds_succ]
  go_wp2_with fail
  refine wp_loop_rounds 2 ?_
  simp only [rounds_succ]
  go_wp2_with fail
  go_at_call 59
  refine (H4 _ W3.out).out.mono ?_
  rintro _ w4 ⟨rfl, h9⟩
  have W4 := Lib.hid h9
  clear h9
  go_wp2_with fail
  simp only [rounds_succ]
  go_wp2_with fail
  simp only [rounds_succ]
  go_wp2
  go_end0
  exact ⟨rfl, W4.out⟩
set_option maxRecDepth 100000 in
set_option maxHeartbeats 4000000 in
theorem stable_d (X Y Z : List Turn) (n g cap : Nat) (w0 w : World) (hX : X.length = 20) (hY : Y.length = 20) (hZ : 40 + Z.length = n) (h0 : 0 < Z.length) (h1 : n < 60) (hW : RW w0 w g (X ++ Y ++ Z)) :
    Calls Try.prog 45 #[.slice (some ⟨g, 0, none⟩) n cap, .int .i64 n, .func (.func 27) #[] #[]] w fun e w' => e = .returned (.tuple #[]) ∧ RW w0 w' g (Rul.sortT (X ++ Y ++ Z)) := by
  have H1 : ∀ w', RW w0 w' g (X ++ Y ++ Z) → Hid (Calls Try.prog 58 #[.slice (some ⟨g, 0, none⟩) n cap, .int .i64 0, .int .i64 20, .func (.func 27) #[] #[]] w' fun e w'' => e = .returned (.tuple #[]) ∧ RW w0 w'' g (Rul.sortT X ++ Y ++ Z)) := fun w' hw => by
    have := insort_part ([]) (X) (Y ++ Z) 0 20 n g cap w0 w' (by first | omega | (simp [Rul.sortT_length]; done) | (simp [Rul.sortT_length]; omega)) (by first | omega | (simp [Rul.sortT_length]; done) | (simp [Rul.sortT_length]; omega)) (by first | omega | (simp [Rul.sortT_length]; done) | (simp [Rul.sortT_length]; omega)) (by simpa using hw) (by omega)
    refine this.mono ?_
    rintro _ w'' ⟨rfl, h9⟩
    exact ⟨rfl, by simpa [Rul.sortT] using h9⟩
  have H2 : ∀ w', RW w0 w' g (Rul.sortT X ++ Y ++ Z) → Hid (Calls Try.prog 58 #[.slice (some ⟨g, 0, none⟩) n cap, .int .i64 20, .int .i64 40, .func (.func 27) #[] #[]] w' fun e w'' => e = .returned (.tuple #[]) ∧ RW w0 w'' g (Rul.sortT X ++ Rul.sortT Y ++ Z)) := fun w' hw => by
    have := insort_part (Rul.sortT X) (Y) (Z) 20 40 n g cap w0 w' (by first | omega | (simp [Rul.sortT_length]; done) | (simp [Rul.sortT_length]; omega)) (by first | omega | (simp [Rul.sortT_length]; done) | (simp [Rul.sortT_length]; omega)) (by first | omega | (simp [Rul.sortT_length]; done) | (simp [Rul.sortT_length]; omega)) (by simpa using hw) (by omega)
    refine this.mono ?_
    rintro _ w'' ⟨rfl, h9⟩
    exact ⟨rfl, by simpa [Rul.sortT] using h9⟩
  have H3 : ∀ w', RW w0 w' g (Rul.sortT X ++ Rul.sortT Y ++ Z) → Hid (Calls Try.prog 58 #[.slice (some ⟨g, 0, none⟩) n cap, .int .i64 40, .int .i64 n, .func (.func 27) #[] #[]] w' fun e w'' => e = .returned (.tuple #[]) ∧ RW w0 w'' g (Rul.sortT X ++ Rul.sortT Y ++ Rul.sortT Z)) := fun w' hw => by
    have := insort_part (Rul.sortT X ++ Rul.sortT Y) (Z) ([]) 40 n n g cap w0 w' (by first | omega | (simp [Rul.sortT_length]; done) | (simp [Rul.sortT_length]; omega)) (by first | omega | (simp [Rul.sortT_length]; done) | (simp [Rul.sortT_length]; omega)) (by first | omega | (simp [Rul.sortT_length]; done) | (simp [Rul.sortT_length]; omega)) (by simpa using hw) (by omega)
    refine this.mono ?_
    rintro _ w'' ⟨rfl, h9⟩
    exact ⟨rfl, by simpa [Rul.sortT] using h9⟩
  have H5 : ∀ w', RW w0 w' g (Rul.sortT X ++ Rul.sortT Y ++ Rul.sortT Z) → Hid (Calls Try.prog 59 #[.slice (some ⟨g, 0, none⟩) n cap, .int .i64 0, .int .i64 20, .int .i64 40, .func (.func 27) #[] #[]] w' fun e w'' => e = .returned (.tuple #[]) ∧ RW w0 w'' g (Rul.sortT (X ++ Y) ++ Rul.sortT Z)) := fun w' hw => by
    have := symmerge_any [] (Rul.sortT X) (Rul.sortT Y) (Rul.sortT Z) 0 20 40 n g cap w0 w' rfl (by first | omega | (simp [Rul.sortT_length]; done) | (simp [Rul.sortT_length]; omega)) (by first | omega | (simp [Rul.sortT_length]; done) | (simp [Rul.sortT_length]; omega)) (by first | omega | (simp [Rul.sortT_length]; done) | (simp [Rul.sortT_length]; omega)) (by first | omega | (simp [Rul.sortT_length]; done) | (simp [Rul.sortT_length]; omega)) (Rul.up_sort X) (Rul.up_sort Y) (by first | omega | (simp [Rul.sortT_length]; done) | (simp [Rul.sortT_length]; omega)) (by simpa using hw) (by omega)
    rw [Rul.mrg_sorted] at this
    refine this.mono ?_
    rintro _ w'' ⟨rfl, h9⟩
    exact ⟨rfl, by simpa using h9⟩
  have H6 : ∀ w', RW w0 w' g (Rul.sortT (X ++ Y) ++ Rul.sortT Z) → Hid (Calls Try.prog 59 #[.slice (some ⟨g, 0, none⟩) n cap, .int .i64 0, .int .i64 40, .int .i64 n, .func (.func 27) #[] #[]] w' fun e w'' => e = .returned (.tuple #[]) ∧ RW w0 w'' g (Rul.sortT (X ++ Y ++ Z))) := fun w' hw => by
    have := symmerge_any [] (Rul.sortT (X ++ Y)) (Rul.sortT Z) ([]) 0 40 n n g cap w0 w' rfl (by first | omega | (simp [Rul.sortT_length]; done) | (simp [Rul.sortT_length]; omega)) (by first | omega | (simp [Rul.sortT_length]; done) | (simp [Rul.sortT_length]; omega)) (by first | omega | (simp [Rul.sortT_length]; done) | (simp [Rul.sortT_length]; omega)) (by first | omega | (simp [Rul.sortT_length]; done) | (simp [Rul.sortT_length]; omega)) (Rul.up_sort (X ++ Y)) (Rul.up_sort Z) (by first | omega | (simp [Rul.sortT_length]; done) | (simp [Rul.sortT_length]; omega)) (by simpa using hw) (by omega)
    rw [Rul.mrg_sorted] at this
    refine this.mono ?_
    rintro _ w'' ⟨rfl, h9⟩
    exact ⟨rfl, by simpa using h9⟩
  have q0 : (20 : Int) ≤ (n : Int) := by omega
  have q1 : (40 : Int) ≤ (n : Int) := by omega
  have q2 : decide ((60 : Int) ≤ (n : Int)) = false := decide_eq_false (by omega)
  have q3 : decide ((80 : Int) ≤ (n : Int)) = false := decide_eq_false (by omega)
  have q4 : (20 : Int) < (n : Int) := by omega
  have q5 : (40 : Int) < (n : Int) := by omega
  have q6 : decide ((60 : Int) < (n : Int)) = false := decide_eq_false (by omega)
  have q7 : decide ((80 : Int) < (n : Int)) = false := decide_eq_false (by omega)
  have W0 := Lib.hid hW
  clear hW
  clear h1
  go_enter Try.func45, Try.ntmps45
  go_wp2_with fail
  refine wp_loop_rounds 3 ?_
  simp only [rounds_succ]
  go_wp2_with fail
  go_at_call 58
  refine (H1 _ W0.out).out.mono ?_
  rintro _ w1 ⟨rfl, h9⟩
  have W1 := Lib.hid h9
  clear h9
  go_wp2_with fail
  simp only [rounds_succ]
  go_wp2_with fail
  go_at_call 58
  refine (H2 _ W1.out).out.mono ?_
  rintro _ w2 ⟨rfl, h9⟩
  have W2 := Lib.hid h9
  clear h9
  go_wp2_with fail
  simp only [rounds_succ]
  go_wp2_with fail
  go_at_call 58
  refine (H3 _ W2.out).out.mono ?_
  rintro _ w3 ⟨rfl, h9⟩
  have W3 := Lib.hid h9
  clear h9
  go_wp2_with fail
  refine wp_loop_rounds 3 ?_
  simp only [rounds_succ]
  go_wp2_with fail
  refine wp_loop_rounds 2 ?_
  simp only [rounds_succ]
  go_wp2_with fail
  go_at_call 59
  refine (H5 _ W3.out).out.mono ?_
  rintro _ w4 ⟨rfl, h9⟩
  have W4 := Lib.hid h9
  clear h9
  go_wp2_with fail
  simp only [rounds_succ]
  go_wp2_with fail
  simp only [rounds_succ]
  go_wp2_with fail
  refine wp_loop_rounds 1 ?_
  simp only [rounds_succ]
  go_wp2_with fail
  go_at_call 59
  refine (H6 _ W4.out).out.mono ?_
  rintro _ w5 ⟨rfl, h9⟩
  have W5 := Lib.hid h9
  clear h9
  go_wp2_with fail
  simp only [rounds_succ]
  go_wp2
  go_end0
  exact ⟨rfl, W5.out⟩
set_option maxRecDepth 100000 in
set_option maxHeartbeats 4000000 in
theorem stable_e (X Y Z : List Turn) (n g cap : Nat) (w0 w : World) (hX : X.length = 20) (hY : Y.length = 20) (hZ : 40 + Z.length = n) (h1 : n = 60) (hW : RW w0 w g (X ++ Y ++ Z)) :
    Calls Try.prog 45 #[.slice (some ⟨g, 0, none⟩) n cap, .int .i64 n, .func (.func 27) #[] #[]] w fun e w' => e = .returned (.tuple #[]) ∧ RW w0 w' g (Rul.sortT (X ++ Y ++ Z)) := by
  have H1 : ∀ w', RW w0 w' g (X ++ Y ++ Z) → Hid (Calls Try.prog 58 #[.slice (some ⟨g, 0, none⟩) n cap, .int .i64 0, .int .i64 20, .func (.func 27) #[] #[]] w' fun e w'' => e = .returned (.tuple #[]) ∧ RW w0 w'' g (Rul.sortT X ++ Y ++ Z)) := fun w' hw => by
    have := insort_part ([]) (X) (Y ++ Z) 0 20 n g cap w0 w' (by first | omega | (simp [Rul.sortT_length]; done) | (simp [Rul.sortT_length]; omega)) (by first | omega | (simp [Rul.sortT_length]; done) | (simp [Rul.sortT_length]; omega)) (by first | omega | (simp [Rul.sortT_length]; done) | (simp [Rul.sortT_length]; omega)) (by simpa using hw) (by omega)
    refine this.mono ?_
    rintro _ w'' ⟨rfl, h9⟩
    exact ⟨rfl, by simpa [Rul.sortT] using h9⟩
  have H2 : ∀ w', RW w0 w' g (Rul.sortT X ++ Y ++ Z) → Hid (Calls Try.prog 58 #[.slice (some ⟨g, 0, none⟩) n cap, .int .i64 20, .int .i64 40, .func (.func 27) #[] #[]] w' fun e w'' => e = .returned (.tuple #[]) ∧ RW w0 w'' g (Rul.sortT X ++ Rul.sortT Y ++ Z)) := fun w' hw => by
    have := insort_part (Rul.sortT X) (Y) (Z) 20 40 n g cap w0 w' (by first | omega | (simp [Rul.sortT_length]; done) | (simp [Rul.sortT_length]; omega)) (by first | omega | (simp [Rul.sortT_length]; done) | (simp [Rul.sortT_length]; omega)) (by first | omega | (simp [Rul.sortT_length]; done) | (simp [Rul.sortT_length]; omega)) (by simpa using hw) (by omega)
    refine this.mono ?_
    rintro _ w'' ⟨rfl, h9⟩
    exact ⟨rfl, by simpa [Rul.sortT] using h9⟩
  have H3 : ∀ w', RW w0 w' g (Rul.sortT X ++ Rul.sortT Y ++ Z) → Hid (Calls Try.prog 58 #[.slice (some ⟨g, 0, none⟩) n cap, .int .i64 40, .int .i64 60, .func (.func 27) #[] #[]] w' fun e w'' => e = .returned (.tuple #[]) ∧ RW w0 w'' g (Rul.sortT X ++ Rul.sortT Y ++ Rul.sortT Z)) := fun w' hw => by
    have := insort_part (Rul.sortT X ++ Rul.sortT Y) (Z) ([]) 40 60 n g cap w0 w' (by first | omega | (simp [Rul.sortT_length]; done) | (simp [Rul.sortT_length]; omega)) (by first | omega | (simp [Rul.sortT_length]; done) | (simp [Rul.sortT_length]; omega)) (by first | omega | (simp [Rul.sortT_length]; done) | (simp [Rul.sortT_length]; omega)) (by simpa using hw) (by omega)
    refine this.mono ?_
    rintro _ w'' ⟨rfl, h9⟩
    exact ⟨rfl, by simpa [Rul.sortT] using h9⟩
  have H4 : ∀ w', RW w0 w' g (Rul.sortT X ++ Rul.sortT Y ++ Rul.sortT Z) → Hid (Calls Try.prog 58 #[.slice (some ⟨g, 0, none⟩) n cap, .int .i64 60, .int .i64 n, .func (.func 27) #[] #[]] w' fun e w'' => e = .returned (.tuple #[]) ∧ RW w0 w'' g (Rul.sortT X ++ Rul.sortT Y ++ Rul.sortT Z)) := fun w' hw => by
    have := insort_part (Rul.sortT X ++ Rul.sortT Y ++ Rul.sortT Z) ([]) ([]) 60 n n g cap w0 w' (by first | omega | (simp [Rul.sortT_length]; done) | (simp [Rul.sortT_length]; omega)) (by first | omega | (simp [Rul.sortT_length]; done) | (simp [Rul.sortT_length]; omega)) (by first | omega | (simp [Rul.sortT_length]; done) | (simp [Rul.sortT_length]; omega)) (by simpa using hw) (by omega)
    refine this.mono ?_
    rintro _ w'' ⟨rfl, h9⟩
    exact ⟨rfl, by simpa [Rul.sortT] using h9⟩
  have H5 : ∀ w', RW w0 w' g (Rul.sortT X ++ Rul.sortT Y ++ Rul.sortT Z) → Hid (Calls Try.prog 59 #[.slice (some ⟨g, 0, none⟩) n cap, .int .i64 0, .int .i64 20, .int .i64 40, .func (.func 27) #[] #[]] w' fun e w'' => e = .returned (.tuple #[]) ∧ RW w0 w'' g (Rul.sortT (X ++ Y) ++ Rul.sortT Z)) := fun w' hw => by
    have := symmerge_any [] (Rul.sortT X) (Rul.sortT Y) (Rul.sortT Z) 0 20 40 n g cap w0 w' rfl (by first | omega | (simp [Rul.sortT_length]; done) | (simp [Rul.sortT_length]; omega)) (by first | omega | (simp [Rul.sortT_length]; done) | (simp [Rul.sortT_length]; omega)) (by first | omega | (simp [Rul.sortT_length]; done) | (simp [Rul.sortT_length]; omega)) (by first | omega | (simp [Rul.sortT_length]; done) | (simp [Rul.sortT_length]; omega)) (Rul.up_sort X) (Rul.up_sort Y) (by first | omega | (simp [Rul.sortT_length]; done) | (simp [Rul.sortT_length]; omega)) (by simpa using hw) (by omega)
    rw [Rul.mrg_sorted] at this
    refine this.mono ?_
    rintro _ w'' ⟨rfl, h9⟩
    exact ⟨rfl, by simpa using h9⟩
  have H6 : ∀ w', RW w0 w' g (Rul.sortT (X ++ Y) ++ Rul.sortT Z) → Hid (Calls Try.prog 59 #[.slice (some ⟨g, 0, none⟩) n cap, .int .i64 0, .int .i64 40, .int .i64 n, .func (.func 27) #[] #[]] w' fun e w'' => e = .returned (.tuple #[]) ∧ RW w0 w'' g (Rul.sortT (X ++ Y ++ Z))) := fun w' hw => by
    have := symmerge_any [] (Rul.sortT (X ++ Y)) (Rul.sortT Z) ([]) 0 40 n n g cap w0 w' rfl (by first | omega | (simp [Rul.sortT_length]; done) | (simp [Rul.sortT_length]; omega)) (by first | omega | (simp [Rul.sortT_length]; done) | (simp [Rul.sortT_length]; omega)) (by first | omega | (simp [Rul.sortT_length]; done) | (simp [Rul.sortT_length]; omega)) (by first | omega | (simp [Rul.sortT_length]; done) | (simp [Rul.sortT_length]; omega)) (Rul.up_sort (X ++ Y)) (Rul.up_sort Z) (by first | omega | (simp [Rul.sortT_length]; done) | (simp [Rul.sortT_length]; omega)) (by simpa using hw) (by omega)
    rw [Rul.mrg_sorted] at this
    refine this.mono ?_
    rintro _ w'' ⟨rfl, h9⟩
    exact ⟨rfl, by simpa using h9⟩
  have q0 : (20 : Int) ≤ (n : Int) := by omega
  have q1 : (40 : Int) ≤ (n : Int) := by omega
  have q2 : (60 : Int) ≤ (n : Int) := by omega
  have q3 : decide ((80 : Int) ≤ (n : Int)) = false := decide_eq_false (by omega)
  have q4 : (20 : Int) < (n : Int) := by omega
  have q5 : (40 : Int) < (n : Int) := by omega
  have q6 : decide ((60 : Int) < (n : Int)) = false := decide_eq_false (by omega)
  have q7 : decide ((80 : Int) < (n : Int)) = false := decide_eq_false (by omega)
  have W0 := Lib.hid hW
  clear hW
  clear h1
  go_enter Try.func45, Try.ntmps45
  go_wp2_with fail
  refine wp_loop_rounds 4 ?_
  simp only [rounds_succ]
  go_wp2_with fail
  go_at_call 58
  refine (H1 _ W0.out).out.mono ?_
  rintro _ w1 ⟨rfl, h9⟩
  have W1 := Lib.hid h9
  clear h9
  go_wp2_with fail
  simp only [rounds_succ]
  go_wp2_with fail
  go_at_call 58
  refine (H2 _ W1.out).out.mono ?_
  rintro _ w2 ⟨rfl, h9⟩
  have W2 := Lib.hid h9
  clear h9
  go_wp2_with fail
  simp only [rounds_succ]
  go_wp2_with fail
  go_at_call 58
  refine (H3 _ W2.out).out.mono ?_
  rintro _ w3 ⟨rfl, h9⟩
  have W3 := Lib.hid h9
  clear h9
  go_wp2_with fail
  simp only [rounds_succ]
  go_wp2_with fail
  go_at_call 58
  refine (H4 _ W3.out).out.mono ?_
  rintro _ w4 ⟨rfl, h9⟩
  have W4 := Lib.hid h9
  clear h9
  go_wp2_with fail
  refine wp_loop_rounds 3 ?_
  simp only [rounds_succ]
  go_wp2_with fail
  refine wp_loop_rounds 2 ?_
  simp only [rounds_succ]
  go_wp2_with fail
  go_at_call 59
  refine (H5 _ W4.out).out.mono ?_
  rintro _ w5 ⟨rfl, h9⟩
  have W5 := Lib.hid h9
  clear h9
  go_wp2_with fail
  simp only [rounds_succ]
  go_wp2_with fail
  simp only [rounds_succ]
  go_wp2_with fail
  refine wp_loop_rounds 1 ?_
  simp only [rounds_succ]
  go_wp2_with fail
  go_at_call 59
  refine (H6 _ W5.out).out.mono ?_
  rintro _ w6 ⟨rfl, h9⟩
  have W6 := Lib.hid h9
  clear h9
  go_wp2_with fail
  simp only [rounds_succ]
  go_wp2
  go_end0
  exact ⟨rfl, W6.out⟩
theorem stable_many (l : List Turn) (n g cap : Nat) (w0 w : World) (hl : l.length = n) (h1 : 20 ≤ n) (h2 : n ≤ 60) (hW : RW w0 w g l) :
    Calls Try.prog 45 #[.slice (some ⟨g, 0, none⟩) n cap, .int .i64 n, .func (.func 27) #[] #[]] w fun e w' => e = .returned (.tuple #[]) ∧ RW w0 w' g (Rul.sortT l) := by
  rcases Nat.lt_or_ge 40 n with h4 | h4
  · have e : (l.take 20 ++ (l.drop 20).take 20) ++ (l.drop 20).drop 20 = l := by rw [List.append_assoc, List.take_append_drop, List.take_append_drop]
    rw [← e] at hW ⊢
    rcases Nat.lt_or_ge n 60 with h5 | h5
    · exact stable_d _ _ _ n g cap w0 w (by simp; omega) (by simp; omega) (by simp; omega) (by simp; omega) h5 hW
    · exact stable_e _ _ _ n g cap w0 w (by simp; omega) (by simp; omega) (by simp; omega) (by omega) hW
  · rcases Nat.lt_or_ge 20 n with h5 | h5
    · have e : l.take 20 ++ l.drop 20 = l := List.take_append_drop ..
      rw [← e] at hW ⊢
      rcases Nat.lt_or_ge n 40 with h6 | h6
      · exact stable_b _ _ n g cap w0 w (by simp; omega) (by simp; omega) (by simp; omega) h6 hW
      · exact stable_c _ _ n g cap w0 w (by simp; omega) (by simp; omega) (by omega) hW
    · exact stable_a l n g cap w0 w (by omega) (by omega) hW
end Go.Proofs.Ytodcgalcpnckaaa
