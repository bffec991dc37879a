/- Plain laws of moments: which may be, and on which day they fall. -/
set_option linter.unusedVariables false
set_option linter.unusedSimpArgs false
namespace Go.Proofs.YtcjnficcggjeiaaDoor
namespace Mom
def headOk (m k t r : Int) : Prop := 1 ≤ m ∧ m ≤ 12 ∧ 0 ≤ k ∧ k ≤ 3 ∧ -604799 ≤ t ∧ t ≤ 604799 ∧ 0 ≤ r ∧ r ≤ 2
instance (m k t r : Int) : Decidable (headOk m k t r) := by unfold headOk; infer_instance
def tailOkB (k wd d : Int) : Bool := decide ((k = 0 ∧ wd = 0 ∧ 1 ≤ d ∧ d ≤ 31) ∨ (k = 1 ∧ 1 ≤ wd ∧ wd ≤ 7 ∧ d = 0) ∨ (k ≠ 0 ∧ k ≠ 1 ∧ 1 ≤ wd ∧ wd ≤ 7 ∧ 1 ≤ d ∧ d ≤ 31))
def rightB (m k wd d t r : Int) : Bool := decide (headOk m k t r) && tailOkB k wd d
theorem right_yes {m k wd d t r : Int} (h : rightB m k wd d t r = true) : headOk m k t r ∧ tailOkB k wd d = true := by
  unfold rightB at h
  rw [Bool.and_eq_true] at h
  exact ⟨of_decide_eq_true h.1, h.2⟩
theorem right_head_no {m k wd d t r : Int} (h : ¬ headOk m k t r) : rightB m k wd d t r = false := by
  unfold rightB; rw [Bool.and_eq_false_iff]; left; exact decide_eq_false h
theorem right_head {m k wd d t r : Int} (h : headOk m k t r) : rightB m k wd d t r = tailOkB k wd d := by
  unfold rightB; rw [decide_eq_true h, Bool.true_and]
theorem head_cases (m k t r : Int) : m < 1 ∨ (decide (m < 1) = false ∧ 12 < m) ∨ (decide (m < 1) = false ∧ decide (12 < m) = false ∧ k < 0) ∨ (decide (m < 1) = false ∧ decide (12 < m) = false ∧ decide (k < 0) = false ∧ 3 < k) ∨
    (decide (m < 1) = false ∧ decide (12 < m) = false ∧ decide (k < 0) = false ∧ decide (3 < k) = false ∧ t < -604799) ∨
    (decide (m < 1) = false ∧ decide (12 < m) = false ∧ decide (k < 0) = false ∧ decide (3 < k) = false ∧ decide (t < -604799) = false ∧ 604799 < t) ∨
    (decide (m < 1) = false ∧ decide (12 < m) = false ∧ decide (k < 0) = false ∧ decide (3 < k) = false ∧ decide (t < -604799) = false ∧ decide (604799 < t) = false ∧ r < 0) ∨
    (decide (m < 1) = false ∧ decide (12 < m) = false ∧ decide (k < 0) = false ∧ decide (3 < k) = false ∧ decide (t < -604799) = false ∧ decide (604799 < t) = false ∧ decide (r < 0) = false ∧ 2 < r) ∨
    (decide (m < 1) = false ∧ decide (12 < m) = false ∧ decide (k < 0) = false ∧ decide (3 < k) = false ∧ decide (t < -604799) = false ∧ decide (604799 < t) = false ∧ decide (r < 0) = false ∧ decide (2 < r) = false ∧ headOk m k t r) := by
  by_cases h1 : m < 1
  · exact .inl h1
  by_cases h2 : 12 < m
  · exact .inr (.inl ⟨decide_eq_false h1, h2⟩)
  by_cases h3 : k < 0
  · exact .inr (.inr (.inl ⟨decide_eq_false h1, decide_eq_false h2, h3⟩))
  by_cases h4 : 3 < k
  · exact .inr (.inr (.inr (.inl ⟨decide_eq_false h1, decide_eq_false h2, decide_eq_false h3, h4⟩)))
  by_cases h5 : t < -604799
  · exact .inr (.inr (.inr (.inr (.inl ⟨decide_eq_false h1, decide_eq_false h2, decide_eq_false h3, decide_eq_false h4, h5⟩))))
  by_cases h6 : 604799 < t
  · exact .inr (.inr (.inr (.inr (.inr (.inl ⟨decide_eq_false h1, decide_eq_false h2, decide_eq_false h3, decide_eq_false h4, decide_eq_false h5, h6⟩)))))
  by_cases h7 : r < 0
  · exact .inr (.inr (.inr (.inr (.inr (.inr (.inl ⟨decide_eq_false h1, decide_eq_false h2, decide_eq_false h3, decide_eq_false h4, decide_eq_false h5, decide_eq_false h6, h7⟩))))))
  by_cases h8 : 2 < r
  · exact .inr (.inr (.inr (.inr (.inr (.inr (.inr (.inl ⟨decide_eq_false h1, decide_eq_false h2, decide_eq_false h3, decide_eq_false h4, decide_eq_false h5, decide_eq_false h6, decide_eq_false h7, h8⟩)))))))
  · exact .inr (.inr (.inr (.inr (.inr (.inr (.inr (.inr ⟨decide_eq_false h1, decide_eq_false h2, decide_eq_false h3, decide_eq_false h4, decide_eq_false h5, decide_eq_false h6, decide_eq_false h7, decide_eq_false h8, by unfold headOk; omega⟩)))))))
end Mom
end Go.Proofs.YtcjnficcggjeiaaDoor
