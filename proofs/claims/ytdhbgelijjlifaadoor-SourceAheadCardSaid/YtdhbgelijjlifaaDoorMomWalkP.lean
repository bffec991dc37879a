/- Walks of moments: which may be. -/
import Derived.Test.YtdhbgelijjlifaaDoorProg
import Derived.WalkKit
import Derived.WalkSpells
import Derived.WalkLawsBesides
import Derived.Test.YtdhbgelijjlifaaDoorOwns
import Derived.Test.YtdhbgelijjlifaaDoorSrcPlainB
set_option linter.unusedVariables false
set_option linter.unusedSimpArgs false
namespace Go.Proofs.YtdhbgelijjlifaaDoor
open Go.RowKit

abbrev spotA (m k wd d t r : Int) : Value := .agg #[.int .i64 m, .int .i64 k, .int .i64 wd, .int .i64 d, .int .i64 t, .int .i64 r]
theorem tail_eq {k wd d : Int} {b : Bool} (h : b = true ↔ ((k = 0 ∧ wd = 0 ∧ 1 ≤ d ∧ d ≤ 31) ∨ (k = 1 ∧ 1 ≤ wd ∧ wd ≤ 7 ∧ d = 0) ∨ (k ≠ 0 ∧ k ≠ 1 ∧ 1 ≤ wd ∧ wd ≤ 7 ∧ 1 ≤ d ∧ d ≤ 31))) : b = Mom.tailOkB k wd d := by
  rw [Bool.eq_iff_iff, h]; unfold Mom.tailOkB; rw [decide_eq_true_eq]
theorem three (x lo hi : Int) : (decide (lo ≤ x) = false ∧ decide (x < lo) = true ∧ x < lo) ∨ (lo ≤ x ∧ decide (x < lo) = false ∧ decide (x ≤ hi) = false ∧ decide (hi < x) = true ∧ hi < x) ∨ (lo ≤ x ∧ decide (x < lo) = false ∧ x ≤ hi ∧ decide (hi < x) = false) := by
  by_cases h1 : lo ≤ x
  · by_cases h2 : x ≤ hi
    · exact .inr (.inr ⟨h1, decide_eq_false (by omega), h2, decide_eq_false (by omega)⟩)
    · exact .inr (.inl ⟨h1, decide_eq_false (by omega), decide_eq_false h2, decide_eq_true (by omega), by omega⟩)
  · exact .inl ⟨decide_eq_false h1, decide_eq_true (by omega), by omega⟩
theorem eqn (x c : Int) : ((x == c) = true ∧ (x != c) = false ∧ x = c) ∨ ((x == c) = false ∧ (x != c) = true ∧ x ≠ c) := by
  by_cases h : x = c
  · subst h; exact .inl ⟨by simp, by simp, rfl⟩
  · exact .inr ⟨beq_eq_false_iff_ne.2 h, by rw [bne_iff_ne]; exact h, h⟩
end Go.Proofs.YtdhbgelijjlifaaDoor
