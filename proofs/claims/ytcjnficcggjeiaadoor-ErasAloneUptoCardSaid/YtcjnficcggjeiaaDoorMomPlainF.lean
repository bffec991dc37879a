/- Plain laws of moments: which may be, and on which day they fall. -/
import Derived.Test.YtcjnficcggjeiaaDoorCivPlain
set_option linter.unusedVariables false
set_option linter.unusedSimpArgs false
namespace Go.Proofs.YtcjnficcggjeiaaDoor
namespace Mom
def headOk (m k t r : Int) : Prop := 1 ≤ m ∧ m ≤ 12 ∧ 0 ≤ k ∧ k ≤ 3 ∧ -604799 ≤ t ∧ t ≤ 604799 ∧ 0 ≤ r ∧ r ≤ 2
instance (m k t r : Int) : Decidable (headOk m k t r) := by unfold headOk; infer_instance
def tailOkB (k wd d : Int) : Bool := decide ((k = 0 ∧ wd = 0 ∧ 1 ≤ d ∧ d ≤ 31) ∨ (k = 1 ∧ 1 ≤ wd ∧ wd ≤ 7 ∧ d = 0) ∨ (k ≠ 0 ∧ k ≠ 1 ∧ 1 ≤ wd ∧ wd ≤ 7 ∧ 1 ≤ d ∧ d ≤ 31))
def rightB (m k wd d t r : Int) : Bool := decide (headOk m k t r) && tailOkB k wd d
theorem right_yes {m k wd d t r : Int} (h : rightB m k wd d t r = true) : headOk m k t r ∧ tailOkB k wd d = true := by
  unfold rightB at h
  rw [Bool.and_eq_true] at h
  exact ⟨of_decide_eq_true h.1, h.2⟩
theorem right_head_no {m k wd d t r : Int} (h : ¬ headOk m k t r) : rightB m k wd d t r = false := by
  unfold rightB; rw [Bool.and_eq_false_iff]; left; exact decide_eq_false h
theorem right_head {m k wd d t r : Int} (h : headOk m k t r) : rightB m k wd d t r = tailOkB k wd d := by
  unfold rightB; rw [decide_eq_true h, Bool.true_and]
theorem head_cases (m k t r : Int) : m < 1 ∨ (decide (m < 1) = false ∧ 12 < m) ∨ (decide (m < 1) = false ∧ decide (12 < m) = false ∧ k < 0) ∨ (decide (m < 1) = false ∧ decide (12 < m) = false ∧ decide (k < 0) = false ∧ 3 < k) ∨
    (decide (m < 1) = false ∧ decide (12 < m) = false ∧ decide (k < 0) = false ∧ decide (3 < k) = false ∧ t < -604799) ∨
    (decide (m < 1) = false ∧ decide (12 < m) = false ∧ decide (k < 0) = false ∧ decide (3 < k) = false ∧ decide (t < -604799) = false ∧ 604799 < t) ∨
    (decide (m < 1) = false ∧ decide (12 < m) = false ∧ decide (k < 0) = false ∧ decide (3 < k) = false ∧ decide (t < -604799) = false ∧ decide (604799 < t) = false ∧ r < 0) ∨
    (decide (m < 1) = false ∧ decide (12 < m) = false ∧ decide (k < 0) = false ∧ decide (3 < k) = false ∧ decide (t < -604799) = false ∧ decide (604799 < t) = false ∧ decide (r < 0) = false ∧ 2 < r) ∨
    (decide (m < 1) = false ∧ decide (12 < m) = false ∧ decide (k < 0) = false ∧ decide (3 < k) = false ∧ decide (t < -604799) = false ∧ decide (604799 < t) = false ∧ decide (r < 0) = false ∧ decide (2 < r) = false ∧ headOk m k t r) := by
  by_cases h1 : m < 1
  · exact .inl h1
  by_cases h2 : 12 < m
  · exact .inr (.inl ⟨decide_eq_false h1, h2⟩)
  by_cases h3 : k < 0
  · exact .inr (.inr (.inl ⟨decide_eq_false h1, decide_eq_false h2, h3⟩))
  by_cases h4 : 3 < k
  · exact .inr (.inr (.inr (.inl ⟨decide_eq_false h1, decide_eq_false h2, decide_eq_false h3, h4⟩)))
  by_cases h5 : t < -604799
  · exact .inr (.inr (.inr (.inr (.inl ⟨decide_eq_false h1, decide_eq_false h2, decide_eq_false h3, decide_eq_false h4, h5⟩))))
  by_cases h6 : 604799 < t
  · exact .inr (.inr (.inr (.inr (.inr (.inl ⟨decide_eq_false h1, decide_eq_false h2, decide_eq_false h3, decide_eq_false h4, decide_eq_false h5, h6⟩)))))
  by_cases h7 : r < 0
  · exact .inr (.inr (.inr (.inr (.inr (.inr (.inl ⟨decide_eq_false h1, decide_eq_false h2, decide_eq_false h3, decide_eq_false h4, decide_eq_false h5, decide_eq_false h6, h7⟩))))))
  by_cases h8 : 2 < r
  · exact .inr (.inr (.inr (.inr (.inr (.inr (.inr (.inl ⟨decide_eq_false h1, decide_eq_false h2, decide_eq_false h3, decide_eq_false h4, decide_eq_false h5, decide_eq_false h6, decide_eq_false h7, h8⟩)))))))
  · exact .inr (.inr (.inr (.inr (.inr (.inr (.inr (.inr ⟨decide_eq_false h1, decide_eq_false h2, decide_eq_false h3, decide_eq_false h4, decide_eq_false h5, decide_eq_false h6, decide_eq_false h7, decide_eq_false h8, by unfold headOk; omega⟩)))))))
end Mom
end Go.Proofs.YtcjnficcggjeiaaDoor
set_option linter.unusedVariables false
set_option linter.unusedSimpArgs false
namespace Go.Proofs.YtcjnficcggjeiaaDoor
namespace Mom
def backI (n wd : Int) : Int := (n + 3 - wd + 1) % 7
theorem back_bd (n wd : Int) : 0 ≤ backI n wd ∧ backI n wd ≤ 6 := by unfold backI; omega
theorem back_wd {n wd : Int} (h1 : 1 ≤ wd) (h2 : wd ≤ 7) : (n - backI n wd + 3) % 7 + 1 = wd := by unfold backI; omega
def fallI (k wd d f len : Int) : Int := if k = 0 then f + d - 1 else if k = 1 then f + len - 1 - backI (f + len - 1) wd else if k = 2 then f + d + 5 - backI (f + d + 5) wd else f + d - 1 - backI (f + d - 1) wd
theorem fall_0 {k wd d f len : Int} (h : k = 0) : fallI k wd d f len = f + d - 1 := if_pos h
theorem fall_1 {k wd d f len : Int} (h : k = 1) : fallI k wd d f len = f + len - 1 - backI (f + len - 1) wd := by unfold fallI; rw [if_neg (by omega), if_pos h]
theorem fall_2 {k wd d f len : Int} (h : k = 2) : fallI k wd d f len = f + d + 5 - backI (f + d + 5) wd := by unfold fallI; rw [if_neg (by omega), if_neg (by omega), if_pos h]
theorem fall_3 {k wd d f len : Int} (h : k = 3) : fallI k wd d f len = f + d - 1 - backI (f + d - 1) wd := by unfold fallI; rw [if_neg (by omega), if_neg (by omega), if_neg (by omega)]
def onI (m k wd d y : Int) : Int := fallI k wd d (Civ.num y m 1) (Civ.mlen y m)
def onB (m k wd d t r y : Int) : Bool := rightB m k wd d t r && decide (1 ≤ y ∧ y ≤ 300000) && Civ.okD y m 1 && decide (onI m k wd d y ≤ 100000000)
def onV (m k wd d t r y : Int) : Int := if onB m k wd d t r y = true then onI m k wd d y else 0
theorem onB_right {m k wd d t r y : Int} (h : rightB m k wd d t r = false) : onB m k wd d t r y = false := by unfold onB; rw [h]; rfl
theorem onB_year {m k wd d t r y : Int} (h : y < 1 ∨ 300000 < y) : onB m k wd d t r y = false := by
  unfold onB; rw [show decide (1 ≤ y ∧ y ≤ 300000) = false from decide_eq_false (by omega), Bool.and_false]; rfl
theorem onB_day {m k wd d t r y : Int} (h : Civ.okD y m 1 = false) : onB m k wd d t r y = false := by
  unfold onB; rw [h, Bool.and_false]; rfl
theorem onB_end {m k wd d t r y : Int} (h : 100000000 < onI m k wd d y) : onB m k wd d t r y = false := by
  unfold onB; rw [show decide (onI m k wd d y ≤ 100000000) = false from decide_eq_false (by omega), Bool.and_false]
theorem onB_yes {m k wd d t r y : Int} (h1 : rightB m k wd d t r = true) (h2 : 1 ≤ y) (h3 : y ≤ 300000) (h4 : Civ.okD y m 1 = true) (h5 : onI m k wd d y ≤ 100000000) : onB m k wd d t r y = true := by
  unfold onB; rw [h1, h4, show decide (1 ≤ y ∧ y ≤ 300000) = true from decide_eq_true ⟨h2, h3⟩, decide_eq_true h5]; rfl
theorem onB_all {m k wd d t r y : Int} (h : onB m k wd d t r y = true) : rightB m k wd d t r = true ∧ 1 ≤ y ∧ y ≤ 300000 ∧ Civ.okD y m 1 = true ∧ onI m k wd d y ≤ 100000000 := by
  unfold onB at h
  simp only [Bool.and_eq_true, decide_eq_true_eq] at h
  obtain ⟨⟨⟨a, b, c⟩, e⟩, f⟩ := h
  exact ⟨a, b, c, e, f⟩
theorem onV_no {m k wd d t r y : Int} (h : onB m k wd d t r y = false) : onV m k wd d t r y = 0 := by unfold onV; rw [h]; rfl
theorem onV_yes {m k wd d t r y : Int} (h : onB m k wd d t r y = true) : onV m k wd d t r y = onI m k wd d y := if_pos h
theorem right_all {m k wd d t r : Int} (h : rightB m k wd d t r = true) : 1 ≤ m ∧ m ≤ 12 ∧ -604799 ≤ t ∧ t ≤ 604799 ∧ 0 ≤ r ∧ r ≤ 2 ∧ ((k = 0 ∧ wd = 0 ∧ 1 ≤ d ∧ d ≤ 31) ∨ (k = 1 ∧ 1 ≤ wd ∧ wd ≤ 7 ∧ d = 0) ∨ (k = 2 ∧ 1 ≤ wd ∧ wd ≤ 7 ∧ 1 ≤ d ∧ d ≤ 31) ∨ (k = 3 ∧ 1 ≤ wd ∧ wd ≤ 7 ∧ 1 ≤ d ∧ d ≤ 31)) := by
  obtain ⟨h1, h2⟩ := right_yes h
  unfold headOk at h1
  unfold tailOkB at h2
  rw [decide_eq_true_eq] at h2
  omega
end Mom
end Go.Proofs.YtcjnficcggjeiaaDoor
