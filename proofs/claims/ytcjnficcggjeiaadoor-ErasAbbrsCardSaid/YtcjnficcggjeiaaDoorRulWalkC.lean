/- Walks of rules: which sets may be, by the document. -/
import Derived.Test.YtcjnficcggjeiaaDoorRulWalkB
set_option linter.unusedVariables false
set_option linter.unusedSimpArgs false
namespace Go.Proofs.YtcjnficcggjeiaaDoor
open Go.RowKit

theorem rrule_cases (x : Rule) : (Rul.rightB x = false ∧ (x.a < 1 ∨ (decide (x.a < 1) = false ∧ 9999 < x.a) ∨ (decide (x.a < 1) = false ∧ decide (9999 < x.a) = false ∧ x.b < 1) ∨
      (decide (x.a < 1) = false ∧ decide (9999 < x.a) = false ∧ decide (x.b < 1) = false ∧ 9999 < x.b ∧ (x.b != 1000000) = true))) ∨
    (decide (x.a < 1) = false ∧ decide (9999 < x.a) = false ∧ ((decide (x.b < 1) = false ∧ decide (9999 < x.b) = false) ∨ x.b = 1000000) ∧
      ((Rul.spotB x = false ∧ Rul.rightB x = false) ∨ (Rul.spotB x = true ∧ 43200 < x.s ∧ Rul.rightB x = false) ∨ (Rul.spotB x = true ∧ decide (43200 < x.s) = false ∧ x.s < -43200 ∧ Rul.rightB x = false) ∨
        (Rul.spotB x = true ∧ decide (43200 < x.s) = false ∧ decide (x.s < -43200) = false ∧ Rul.rightB x = true))) := by
  unfold Rul.rightB Rul.yearB
  by_cases h1 : x.a < 1
  · exact .inl ⟨by simp; omega, .inl h1⟩
  by_cases h2 : 9999 < x.a
  · exact .inl ⟨by simp; omega, .inr (.inl ⟨decide_eq_false h1, h2⟩)⟩
  by_cases h3 : x.b < 1
  · exact .inl ⟨by simp; omega, .inr (.inr (.inl ⟨decide_eq_false h1, decide_eq_false h2, h3⟩))⟩
  by_cases h4 : 9999 < x.b ∧ x.b ≠ 1000000
  · exact .inl ⟨by simp; omega, .inr (.inr (.inr ⟨decide_eq_false h1, decide_eq_false h2, decide_eq_false h3, h4.1, by simpa using h4.2⟩))⟩
  right
  refine ⟨decide_eq_false h1, decide_eq_false h2, ?_, ?_⟩
  · by_cases h5 : x.b = 1000000
    · exact .inr h5
    · exact .inl ⟨decide_eq_false h3, decide_eq_false (by omega)⟩
  · have e : (decide (1 ≤ x.a ∧ x.a ≤ 9999) && (decide (1 ≤ x.b ∧ x.b ≤ 9999) || x.b == 1000000)) = true := by simp; omega
    rw [e]
    cases h6 : Rul.spotB x
    · exact .inl ⟨rfl, rfl⟩
    · right
      by_cases h7 : 43200 < x.s
      · exact .inl ⟨rfl, h7, by simp; omega⟩
      · right
        by_cases h8 : x.s < -43200
        · exact .inl ⟨rfl, decide_eq_false h7, h8, by simp; omega⟩
        · exact .inr ⟨rfl, decide_eq_false h7, decide_eq_false h8, by simp; omega⟩
theorem allB_split (l : List Rule) (j : Nat) (h : j < l.length) (hp : Rul.allB (l.take j) = true) : (Rul.rightB l[j] = false → Rul.allB l = false) ∧ (Rul.rightB l[j] = true → Rul.allB (l.take (j + 1)) = true) := by
  unfold Rul.allB at *
  constructor
  · intro hb
    rw [Bool.eq_false_iff]; intro ha
    have := List.all_eq_true.1 ha _ (List.getElem_mem h)
    rw [hb] at this; cases this
  · intro hb
    rw [List.take_succ_eq_append_getElem h, List.all_append, hp]; simp [hb]
end Go.Proofs.YtcjnficcggjeiaaDoor
