/- Walks: two dates held against each other. -/
import Derived.Test.YtgnjmejmngljjaaCivWalkH
import Derived.Test.YtgnjmejmngljjaaTail
set_option linter.unusedVariables false
set_option linter.unusedSimpArgs false
namespace Go.Proofs.Ytgnjmejmngljjaa
open Go.RowKit

def cmpI (a b : Int) : Int := if a < b then -1 else if b < a then 1 else 0
theorem cmpI_lt {a b : Int} (h : a < b) : cmpI a b = -1 := if_pos h
theorem cmpI_gt {a b : Int} (h : b < a) : cmpI a b = 1 := by unfold cmpI; rw [if_neg (by omega), if_pos h]
theorem cmpI_eq {a b : Int} (h1 : ¬ a < b) (h2 : ¬ b < a) : cmpI a b = 0 := by unfold cmpI; rw [if_neg h1, if_neg h2]
theorem cmpI_bd (a b : Int) : -1 ≤ cmpI a b ∧ cmpI a b ≤ 1 := by
  unfold cmpI
  by_cases h1 : a < b
  · rw [if_pos h1]; omega
  · rw [if_neg h1]; by_cases h2 : b < a
    · rw [if_pos h2]; omega
    · rw [if_neg h2]; omega
/-- The first that is not 0. -/
def or3 (a b c : Int) : Int := if a ≠ 0 then a else if b ≠ 0 then b else c
theorem or3_1 {a b c : Int} (h : a ≠ 0) : or3 a b c = a := if_pos h
theorem or3_2 {a b c : Int} (h : a = 0) (k : b ≠ 0) : or3 a b c = b := by unfold or3; rw [if_neg (by omega), if_pos k]
theorem or3_3 {a b c : Int} (h : a = 0) (k : b = 0) : or3 a b c = c := by unfold or3; rw [if_neg (by omega), if_neg (by omega)]

def cmpD (y m d y' m' d' : Int) : Int := or3 (cmpI y y') (cmpI m m') (cmpI d d')
theorem cmpD_cases (y m d y' m' d' : Int) : (y = y' ∧ m = m' ∧ d = d' ∧ cmpD y m d y' m' d' = 0) ∨ (¬ (y = y' ∧ m = m' ∧ d = d') ∧ (y < y' ∨ (y = y' ∧ (m < m' ∨ (m = m' ∧ d < d')))) ∧ cmpD y m d y' m' d' = -1) ∨
    (¬ (y = y' ∧ m = m' ∧ d = d') ∧ ¬ (y < y' ∨ (y = y' ∧ (m < m' ∨ (m = m' ∧ d < d')))) ∧ cmpD y m d y' m' d' = 1) := by
  unfold cmpD
  rcases Int.lt_trichotomy y y' with h | h | h
  · rw [cmpI_lt h, or3_1 (by omega)]; exact .inr (.inl ⟨by omega, .inl h, rfl⟩)
  · subst h
    rw [cmpI_eq (by omega) (by omega)]
    rcases Int.lt_trichotomy m m' with k | k | k
    · rw [cmpI_lt k, or3_2 rfl (by omega)]; exact .inr (.inl ⟨by omega, .inr ⟨rfl, .inl k⟩, rfl⟩)
    · subst k
      rw [cmpI_eq (by omega) (by omega), or3_3 rfl rfl]
      rcases Int.lt_trichotomy d d' with l | l | l
      · rw [cmpI_lt l]; exact .inr (.inl ⟨by omega, .inr ⟨rfl, .inr ⟨rfl, l⟩⟩, rfl⟩)
      · subst l; rw [cmpI_eq (by omega) (by omega)]; exact .inl ⟨rfl, rfl, rfl, rfl⟩
      · rw [cmpI_gt l]; exact .inr (.inr ⟨by omega, by omega, rfl⟩)
    · rw [cmpI_gt k, or3_2 rfl (by omega)]; exact .inr (.inr ⟨by omega, by omega, rfl⟩)
  · rw [cmpI_gt h, or3_1 (by omega)]; exact .inr (.inr ⟨by omega, by omega, rfl⟩)

theorem cmpD_y1 {y m d y' m' d' : Int} (h : y < y') : cmpD y m d y' m' d' = -1 := by unfold cmpD; rw [cmpI_lt h, or3_1 (by omega)]
theorem cmpD_y2 {y m d y' m' d' : Int} (h : y' < y) : cmpD y m d y' m' d' = 1 := by unfold cmpD; rw [cmpI_gt h, or3_1 (by omega)]
theorem cmpD_m1 {y m d m' d' : Int} (h : m < m') : cmpD y m d y m' d' = -1 := by unfold cmpD; rw [cmpI_eq (by omega) (by omega), cmpI_lt h, or3_2 rfl (by omega)]
theorem cmpD_m2 {y m d m' d' : Int} (h : m' < m) : cmpD y m d y m' d' = 1 := by unfold cmpD; rw [cmpI_eq (by omega) (by omega), cmpI_gt h, or3_2 rfl (by omega)]
theorem cmpD_d (y m d d' : Int) : cmpD y m d y m d' = cmpI d d' := by unfold cmpD; rw [cmpI_eq (by omega) (by omega), cmpI_eq (by omega) (by omega), or3_3 rfl rfl]

end Go.Proofs.Ytgnjmejmngljjaa
