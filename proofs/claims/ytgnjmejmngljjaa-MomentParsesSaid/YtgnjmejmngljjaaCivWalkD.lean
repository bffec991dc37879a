/- Walk: the reference's date of a number. -/
import Derived.Test.YtgnjmejmngljjaaCivWalkC
set_option linter.unusedVariables false
set_option linter.unusedSimpArgs false
namespace Go.Proofs.Ytgnjmejmngljjaa
open Go.RowKit

theorem jan_era_le (n : Int) : ∀ c, (n + 719528) / 146097 = c → Civ.jan (400 * c) ≤ n ∧ n < Civ.jan (400 * c + 400) := by
  intro c hc
  unfold Civ.jan; omega

end Go.Proofs.Ytgnjmejmngljjaa
