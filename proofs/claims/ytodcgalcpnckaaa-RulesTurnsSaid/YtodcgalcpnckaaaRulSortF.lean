/- Walks of rules: the library's merge of two runs, at turns, whole; an insertion sort of a part of a row. -/
import Derived.Test.YtodcgalcpnckaaaRulSortE
set_option linter.unusedVariables false
set_option linter.unusedSimpArgs false
namespace Go.Proofs.Ytodcgalcpnckaaa
open Go.RowKit Go.Sort Go.Shelf

theorem symmerge_up (N g cap : Nat) (w0 : World) (hsz : N < 1000) : ∀ (k : Nat) (P A B S : List Turn) (a m b : Nat) (W : World), b - a ≤ k → P.length = a → a + A.length = m → m + B.length = b → 0 < A.length → 0 < B.length → Rul.Up A → Rul.Up B → (P ++ A ++ B ++ S).length = N → RW w0 W g (P ++ A ++ B ++ S) → Merges w0 W g cap N P A B S a m b := by
  intro k
  induction k with
  | zero => intro P A B S a m b W h1 h2 h3 h4 h5; omega
  | succ k ih =>
    intro P A B S a m b W hk hP hA hB hA0 hB0 uA uB hN hW
    by_cases c1 : A.length = 1
    · obtain ⟨x, rfl⟩ := List.length_eq_one_iff.1 c1
      exact merge_one P B S x a m b N g cap w0 W hP (by simp at hA; omega) (by simp at hA; omega) hB uB hN hW hsz
    by_cases c2 : B.length = 1
    · obtain ⟨y, rfl⟩ := List.length_eq_one_iff.1 c2
      exact merge_last P A S y a m b N g cap w0 W hP (by omega) hA (by simp at hB; omega) (by simp at hB; omega) uA hN hW hsz
    have IH : ∀ (P A B S : List Turn) (a' m' b' : Nat) (W : World), b' - a' < b - a → P.length = a' → a' + A.length = m' → m' + B.length = b' → 0 < A.length → 0 < B.length → Rul.Up A → Rul.Up B → (P ++ A ++ B ++ S).length = N → RW w0 W g (P ++ A ++ B ++ S) → Merges w0 W g cap N P A B S a' m' b' :=
      fun P A B S a' m' b' W q1 => ih P A B S a' m' b' W (by omega)
    by_cases c3 : (a + b) / 2 < m
    · exact merge_gen P A B S a m b ((a + b) / 2) ((a + b) / 2 + m) ((a + b) / 2 + m - b) ((a + b) / 2) ((a + b) / 2 + m - 1) N g cap w0 W hP hA hB (by omega) (by omega) uA uB hN hW hsz (by omega) (by omega) (by omega) (.inl ⟨c3, by omega, by omega, by omega⟩) IH
    · exact merge_gen P A B S a m b ((a + b) / 2) ((a + b) / 2 + m) a m ((a + b) / 2 + m - 1) N g cap w0 W hP hA hB (by omega) (by omega) uA uB hN hW hsz (by omega) (by omega) (by omega) (.inr ⟨by omega, by omega, by omega, by omega, by omega⟩) IH
theorem symmerge_any (P A B S : List Turn) (a m b N g cap : Nat) (w0 W : World) (hP : P.length = a) (hA : a + A.length = m) (hB : m + B.length = b) (hA0 : 0 < A.length) (hB0 : 0 < B.length) (uA : Rul.Up A) (uB : Rul.Up B) (hN : (P ++ A ++ B ++ S).length = N) (hW : RW w0 W g (P ++ A ++ B ++ S)) (hsz : N < 1000) :
    Calls Try.prog 59 #[.slice (some ⟨g, 0, none⟩) N cap, .int .i64 a, .int .i64 m, .int .i64 b, .func (.func 27) #[] #[]] W fun e w' => e = .returned (.tuple #[]) ∧ RW w0 w' g (P ++ Rul.mrg A B ++ S) :=
  symmerge_up N g cap w0 hsz (b - a) P A B S a m b W (Nat.le_refl _) hP hA hB hA0 hB0 uA uB hN hW
theorem insort_part (Q X T : List Turn) (a b N g cap : Nat) (w0 W : World) (hQ : Q.length = a) (hX : a + X.length = b) (hN : (Q ++ X ++ T).length = N) (hW : RW w0 W g (Q ++ X ++ T)) (hsz : N < 1000) :
    Calls Try.prog 58 #[.slice (some ⟨g, 0, none⟩) N cap, .int .i64 a, .int .i64 b, .func (.func 27) #[] #[]] W fun e w' => e = .returned (.tuple #[]) ∧ RW w0 w' g (Q ++ Rul.sortT X ++ T) := by
  subst hQ hX
  have := AnyQ.insertionSortCmpFunc Try.lays20 4 Try.isAgg30 Try.sizeOf30 turnCells (fun _ => rfl) (fun x v hv => by simp [turnCells] at hv; rcases hv with rfl | rfl | rfl | rfl <;> rfl) (fun x y => cmpI x.at' y.at') 27 #[] g 0 cap Q.length (Q.length + X.length) (Q ++ X ++ T).toArray W
    (enters_of Try.func27 (by kernel_rfl) rfl) (cmp_lays g 0 _ W) hW.hold hW.lt (by omega) (by simp) (by simp only [List.size_toArray]; omega)
  rw [ins_part _ lt_turn] at this
  simp only [List.size_toArray, hN] at this
  refine this.mono ?_
  rintro e w' ⟨he, m, os, h⟩
  exact ⟨he, hW.of (by simp [Rul.sortT_length]) ⟨m, os, h⟩⟩
end Go.Proofs.Ytodcgalcpnckaaa
