/- Walks of moments: which may be. -/
import Derived.Test.YtdhbgelijjlifaaGreatDoorProg
import Derived.WalkKit
import Derived.WalkSpells
import Derived.WalkLawsBesides
import Derived.Test.YtdhbgelijjlifaaGreatDoorOwns
import Derived.Test.YtdhbgelijjlifaaGreatDoorSrcPlainB
set_option linter.unusedVariables false
set_option linter.unusedSimpArgs false
namespace Go.Proofs.YtdhbgelijjlifaaGreatDoor
open Go.RowKit
theorem three (x lo hi : Int) : (decide (lo ≤ x) = false ∧ decide (x < lo) = true ∧ x < lo) ∨ (lo ≤ x ∧ decide (x < lo) = false ∧ decide (x ≤ hi) = false ∧ decide (hi < x) = true ∧ hi < x) ∨ (lo ≤ x ∧ decide (x < lo) = false ∧ x ≤ hi ∧ decide (hi < x) = false) := by
 by_cases h1 : lo ≤ x
 · by_cases h2 : x ≤ hi
   · exact .inr (.inr ⟨h1, decide_eq_false (by omega), h2, decide_eq_false (by omega)⟩)
   · exact .inr (.inl ⟨h1, decide_eq_false (by omega), decide_eq_false h2, decide_eq_true (by omega), by omega⟩)
 · exact .inl ⟨decide_eq_false h1, decide_eq_true (by omega), by omega⟩
end Go.Proofs.YtdhbgelijjlifaaGreatDoor
