/- Walks of sources: the document's names. -/
import Derived.Test.YtdhbgelijjlifaaDoorSrcWalkC
import Derived.Test.YtdhbgelijjlifaaDoorSrcWalkF
set_option linter.unusedVariables false
set_option linter.unusedSimpArgs false
namespace Go.Proofs.YtdhbgelijjlifaaDoor
open Go.RowKit

/-- A byte is a given one or not, in the walk's spellings. -/
theorem other_cases (c d : UInt8) (n : Int) (hd : (d.toNat : Int) = n) : (((c.toNat : Int) != n) = false ∧ ((c.toNat : Int) == n) = true ∧ (c == d) = true) ∨ (((c.toNat : Int) != n) = true ∧ ((c.toNat : Int) == n) = false ∧ (c == d) = false) := by
  by_cases h : c = d
  · subst h; left; subst hd; simp
  · right
    have h2 : ((c.toNat : Int) == n) = false := by
      rw [beq_eq_false_iff_ne]; intro e; exact h (UInt8.toNat_inj.1 (by omega))
    exact ⟨by unfold bne; rw [h2]; rfl, h2, beq_eq_false_iff_ne.2 h⟩
def rokS (c : UInt8) : Bool := Src.letB c || Src.digB c || c == 95 || c == 45
end Go.Proofs.YtdhbgelijjlifaaDoor
set_option linter.unusedVariables false
set_option linter.unusedSimpArgs false
namespace Go.Proofs.YtdhbgelijjlifaaDoor
open Go.RowKit

theorem drop_byte (s : ByteArray) (k : Nat) (h : k < s.size) : s.data.toList.drop k = s[k] :: s.data.toList.drop (k + 1) := by
  rw [List.drop_eq_getElem_cons (by rw [size_of]; exact h)]; rfl
theorem drop_none (s : ByteArray) (k : Nat) (h : s.size ≤ k) : s.data.toList.drop k = [] := List.drop_eq_nil_of_le (by rw [size_of]; exact h)
theorem okP_eq (c : UInt8) : Src.okP c = (Src.letB c || Src.digB c || c == 95 || c == 43 || c == 45) := by
  unfold Src.okP Src.okB; simp [List.contains, List.elem, Bool.or_assoc]
  cases c == 95 <;> cases c == 43 <;> cases c == 45 <;> simp
theorem placeD_cons (k : Nat) (c : UInt8) (l : List UInt8) : Src.placeD k (c :: l) = if c = 47 then (if k = 0 then false else Src.placeD 0 l) else if Src.okP c = true then Src.placeD (k + 1) l else false := by
  rw [Src.placeD]
end Go.Proofs.YtdhbgelijjlifaaDoor
set_option linter.unusedVariables false
set_option linter.unusedSimpArgs false
namespace Go.Proofs.YtdhbgelijjlifaaDoor
open Go.RowKit

theorem fmtD_cons (f : Bool) (k : Nat) (c : UInt8) (r : List UInt8) : Src.fmtD f k (c :: r) = if c = 37 then Src.szB r && Src.fmtD false (k + 1) r else if c = 47 then !f && !r.isEmpty && Src.fmtD false (k + 1) r else Src.plainB c && Src.fmtD false k r := by
  rw [Src.fmtD]
theorem drop_emp (s : ByteArray) (k : Nat) : (s.data.toList.drop k).isEmpty = decide (s.size ≤ k) := by
  rw [Bool.eq_iff_iff, List.isEmpty_iff, decide_eq_true_eq, List.drop_eq_nil_iff, size_of]
theorem sz_at (s : ByteArray) (k : Nat) (h : k < s.size) : Src.szB (s.data.toList.drop k) = (s[k] == 115 || s[k] == 122) := by rw [drop_byte s k h]; rfl
end Go.Proofs.YtdhbgelijjlifaaDoor
set_option linter.unusedVariables false
set_option linter.unusedSimpArgs false
namespace Go.Proofs.YtdhbgelijjlifaaDoor
open Go.RowKit

def kindR (x : Era) : Bool := decide (0 ≤ x.kd ∧ x.kd ≤ 2) && (x.kd == 1 || x.s == 0) && (x.kd == 2 || x.rs.data.toList.isEmpty) && (!(x.kd == 2) || Src.setB x.rs.data.toList)
def headR (x : Era) : Bool := Src.offB x && Src.saveB x.s && Src.fmtB x.fm.data.toList
theorem rera_eq (x : Era) : Src.eraB x = (headR x && kindR x && Src.endB x) := by
  rw [← Src.era_same]; rfl
theorem head_cases (x : Era) : (x.off ≤ -86400 ∧ headR x = false) ∨ (decide (x.off ≤ -86400) = false ∧ 86400 ≤ x.off ∧ headR x = false) ∨ (decide (x.off ≤ -86400) = false ∧ decide (86400 ≤ x.off) = false ∧ 43200 < x.s ∧ headR x = false) ∨
    (decide (x.off ≤ -86400) = false ∧ decide (86400 ≤ x.off) = false ∧ decide (43200 < x.s) = false ∧ x.s < -43200 ∧ headR x = false) ∨
    (decide (x.off ≤ -86400) = false ∧ decide (86400 ≤ x.off) = false ∧ decide (43200 < x.s) = false ∧ decide (x.s < -43200) = false ∧ headR x = Src.fmtB x.fm.data.toList) := by
  unfold headR Src.offB Src.saveB
  by_cases h1 : x.off ≤ -86400
  · exact .inl ⟨h1, by rw [show decide (-86400 < x.off ∧ x.off < 86400) = false from decide_eq_false (by omega)]; rfl⟩
  · by_cases h2 : 86400 ≤ x.off
    · exact .inr (.inl ⟨decide_eq_false h1, h2, by rw [show decide (-86400 < x.off ∧ x.off < 86400) = false from decide_eq_false (by omega)]; rfl⟩)
    · by_cases h3 : 43200 < x.s
      · exact .inr (.inr (.inl ⟨decide_eq_false h1, decide_eq_false h2, h3, by rw [show decide (-43200 ≤ x.s ∧ x.s ≤ 43200) = false from decide_eq_false (by omega)]; simp⟩))
      · by_cases h4 : x.s < -43200
        · exact .inr (.inr (.inr (.inl ⟨decide_eq_false h1, decide_eq_false h2, decide_eq_false h3, h4, by rw [show decide (-43200 ≤ x.s ∧ x.s ≤ 43200) = false from decide_eq_false (by omega)]; simp⟩)))
        · exact .inr (.inr (.inr (.inr ⟨decide_eq_false h1, decide_eq_false h2, decide_eq_false h3, decide_eq_false h4, by rw [show decide (-43200 ≤ x.s ∧ x.s ≤ 43200) = true from decide_eq_true (by omega), show decide (-86400 < x.off ∧ x.off < 86400) = true from decide_eq_true (by omega)]; rfl⟩)))
theorem kindR_cases (x : Era) : (x.kd < 0 ∧ kindR x = false) ∨ (decide (x.kd < 0) = false ∧ 2 < x.kd ∧ kindR x = false) ∨ (x.kd = 0 ∧ kindR x = (x.s == 0 && x.rs.data.toList.isEmpty)) ∨ (x.kd = 1 ∧ kindR x = x.rs.data.toList.isEmpty) ∨ (x.kd = 2 ∧ kindR x = (x.s == 0 && Src.setB x.rs.data.toList)) := by
  unfold kindR
  by_cases h1 : x.kd < 0
  · exact .inl ⟨h1, by rw [show decide (0 ≤ x.kd ∧ x.kd ≤ 2) = false from decide_eq_false (by omega)]; rfl⟩
  · by_cases h2 : 2 < x.kd
    · exact .inr (.inl ⟨decide_eq_false h1, h2, by rw [show decide (0 ≤ x.kd ∧ x.kd ≤ 2) = false from decide_eq_false (by omega)]; rfl⟩)
    · have : x.kd = 0 ∨ x.kd = 1 ∨ x.kd = 2 := by omega
      rcases this with h | h | h
      · exact .inr (.inr (.inl ⟨h, by rw [h]; simp⟩))
      · exact .inr (.inr (.inr (.inl ⟨h, by rw [h]; simp⟩)))
      · exact .inr (.inr (.inr (.inr ⟨h, by rw [h]; simp⟩)))
end Go.Proofs.YtdhbgelijjlifaaDoor
