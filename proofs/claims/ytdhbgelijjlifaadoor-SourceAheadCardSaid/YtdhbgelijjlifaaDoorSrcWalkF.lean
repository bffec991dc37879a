/- Walks of sources: which eras may be. -/
import Derived.Test.YtdhbgelijjlifaaDoorSrcWalkD
set_option linter.unusedVariables false
set_option linter.unusedSimpArgs false
namespace Go.Proofs.YtdhbgelijjlifaaDoor
open Go.RowKit

/-- What stands of an era behind its kind. -/
theorem end_eq (x : Era) : Src.endB x = if x.til = true then (Src.yearB x.y && Mom.rightB x.m x.k x.wd x.d x.t x.r) else (x.y == 0 && (x.m == 0 && x.k == 0 && x.wd == 0 && x.d == 0 && x.t == 0 && x.r == 0)) := rfl
theorem empty_cases (s : ByteArray) : (s = ⟨#[]⟩ ∧ s.data.toList.isEmpty = true) ∨ (s.toList.isEmpty = false ∧ s.data.toList.isEmpty = false) := by
  cases h : s.data.toList with
  | nil => exact .inl ⟨str_nil h, rfl⟩
  | cons c r => exact .inr ⟨by rw [Lib.toList_data, h]; rfl, rfl⟩
theorem era_eq (x : Era) : Src.eraB x = (Src.offB x && (Src.fmtB x.fm.data.toList && (Src.kindB x && Src.endB x))) := by
  unfold Src.eraB; simp only [Bool.and_assoc]
theorem off_cases (x : Era) : (x.off ≤ -86400 ∧ Src.offB x = false) ∨ (decide (x.off ≤ -86400) = false ∧ 86400 ≤ x.off ∧ Src.offB x = false) ∨ (decide (x.off ≤ -86400) = false ∧ decide (86400 ≤ x.off) = false ∧ Src.offB x = true) := by
  unfold Src.offB
  by_cases h1 : x.off ≤ -86400
  · exact .inl ⟨h1, decide_eq_false (by omega)⟩
  · by_cases h2 : 86400 ≤ x.off
    · exact .inr (.inl ⟨decide_eq_false h1, h2, decide_eq_false (by omega)⟩)
    · exact .inr (.inr ⟨decide_eq_false h1, decide_eq_false h2, decide_eq_true (by omega)⟩)
end Go.Proofs.YtdhbgelijjlifaaDoor
set_option linter.unusedVariables false
set_option linter.unusedSimpArgs false
namespace Go.Proofs.YtdhbgelijjlifaaDoor
open Go.RowKit

theorem le_max {n : Nat} (h : n ≤ 1048576) : n ≤ maxLen := by unfold maxLen; omega
theorem src_eq (s : Source) : Src.srcB s = (Src.lensB s && (s.rules.all Src.ruleB && (s.zones.all Src.zoneB && s.links.all Src.linkB))) := rfl
theorem lens_cases (s : Source) : (200 < s.rules.length ∧ (200 : Int) < s.rules.length ∧ Src.lensB s = false) ∨ (decide ((200 : Int) < s.rules.length) = false ∧ (50 : Int) < s.zones.length ∧ Src.lensB s = false) ∨
    (decide ((200 : Int) < s.rules.length) = false ∧ decide ((50 : Int) < s.zones.length) = false ∧ (100 : Int) < s.links.length ∧ Src.lensB s = false) ∨
    (decide ((200 : Int) < s.rules.length) = false ∧ decide ((50 : Int) < s.zones.length) = false ∧ decide ((100 : Int) < s.links.length) = false ∧ Src.lensB s = true) := by
  unfold Src.lensB
  by_cases h1 : 200 < s.rules.length
  · exact .inl ⟨h1, by omega, decide_eq_false (by omega)⟩
  · by_cases h2 : 50 < s.zones.length
    · exact .inr (.inl ⟨decide_eq_false (by omega), by omega, decide_eq_false (by omega)⟩)
    · by_cases h3 : 100 < s.links.length
      · exact .inr (.inr (.inl ⟨decide_eq_false (by omega), decide_eq_false (by omega), by omega, decide_eq_false (by omega)⟩))
      · exact .inr (.inr (.inr ⟨decide_eq_false (by omega), decide_eq_false (by omega), decide_eq_false (by omega), decide_eq_true (by omega)⟩))
end Go.Proofs.YtdhbgelijjlifaaDoor
