/- Walks: the reference's Regulate; the law. -/
import Derived.Test.YtgnjmejmngljjaaCivWalkF
set_option linter.unusedVariables false
set_option linter.unusedSimpArgs false
namespace Go.Proofs.Ytgnjmejmngljjaa
open Go.RowKit

theorem no4 {y m d o : Int} (h : regE y m d o = 4) (a : Int) : regYes y m d o a = 0 := no_of (by rw [h]; omega) a
theorem reg4 {e : Int} {k : Bool} (h : e = if k = true then 0 else 4) (g : (!k) = true) : e = 4 := by simp at g; rw [h, if_neg (by simp [g])]
theorem reg0 {e : Int} {k : Bool} (h : e = if k = true then 0 else 4) (g : (!k) = false) : e = 0 := by simp at g; rw [h, if_pos g]

theorem rreg2_cases (y m d : Int) : m < 1 ∨ (decide (m < 1) = false ∧ 12 < m) ∨ (decide (m < 1) = false ∧ decide (12 < m) = false ∧ d < 1) ∨ (decide (m < 1) = false ∧ decide (12 < m) = false ∧ decide (d < 1) = false ∧ Civ.mlen y m < d)
    ∨ (decide (m < 1) = false ∧ decide (12 < m) = false ∧ decide (d < 1) = false ∧ decide (Civ.mlen y m < d) = false) := by
  simp only [decide_eq_false_iff_not]; omega
theorem clip_m (m : Int) : (m < 1 ∧ minB 12 (max1 m) = 1) ∨ (1 ≤ m ∧ 12 < m ∧ minB 12 (max1 m) = 12) ∨ (1 ≤ m ∧ m ≤ 12 ∧ minB 12 (max1 m) = m) := by
  unfold minB max1; repeat' split
  all_goals omega
theorem clip_d (L d : Int) (h : 28 ≤ L) : (d < 1 ∧ minB L (max1 d) = 1) ∨ (1 ≤ d ∧ L < d ∧ minB L (max1 d) = L) ∨ (1 ≤ d ∧ d ≤ L ∧ minB L (max1 d) = d) := by
  unfold minB max1; repeat' split
  all_goals omega
end Go.Proofs.Ytgnjmejmngljjaa
