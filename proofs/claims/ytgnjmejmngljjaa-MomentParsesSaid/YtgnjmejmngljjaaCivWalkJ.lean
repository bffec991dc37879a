/- Walks: so many days on; the laws on counts, weeks, adds. -/
import Derived.Test.YtgnjmejmngljjaaCivWalkI
set_option linter.unusedVariables false
set_option linter.unusedSimpArgs false
namespace Go.Proofs.Ytgnjmejmngljjaa
open Go.RowKit

/-- A number is a date's. -/
def inR (n : Int) : Bool := decide (-100000001 ≤ n ∧ n ≤ 100000000)
theorem inR_yes {n : Int} (h : inR n = true) : -100000001 ≤ n ∧ n ≤ 100000000 := of_decide_eq_true h
theorem inR_no {n : Int} (h : inR n = false) : n < -100000001 ∨ 100000000 < n := by have := of_decide_eq_false h; omega
theorem inR_mk {n : Int} (h1 : -100000001 ≤ n) (h2 : n ≤ 100000000) : inR n = true := decide_eq_true ⟨h1, h2⟩
theorem inR_mk_no {n : Int} (h : n < -100000001 ∨ 100000000 < n) : inR n = false := decide_eq_false (by omega)
/-- .., or 0. -/
def orZ (b : Bool) (a : Int) : Int := if b = true then a else 0
theorem orZ_yes {b : Bool} {a : Int} (h : b = true) : orZ b a = a := if_pos h
theorem orZ_no {b : Bool} {a : Int} (h : b = false) : orZ b a = 0 := by simp [orZ, h]
theorem of_any (n : Int) (w : World) : Rets Try.prog 26 #[.int .i64 n] w (.tuple #[.agg #[.int .i64 (orZ (inR n) (Civ.dy n)), .int .i64 (orZ (inR n) (Civ.dm n)), .int .i64 (orZ (inR n) (Civ.dd n))], .bool (inR n)]) := by
  cases h : inR n
  · exact of_no n w (inR_no h)
  · exact of_yes n w (inR_yes h).1 (inR_yes h).2
def addOk (y m d n : Int) : Bool := Civ.okD y m d && inR (Civ.num y m d + n)
def addE (y m d n : Int) : Int := if Civ.okD y m d = true then (if inR (Civ.num y m d + n) = true then 0 else 4) else 1
theorem addE_bd (y m d n : Int) : 0 ≤ addE y m d n ∧ addE y m d n ≤ 4 := by
  unfold addE
  by_cases h : Civ.okD y m d = true
  · rw [if_pos h]; by_cases k : inR (Civ.num y m d + n) = true
    · rw [if_pos k]; omega
    · rw [if_neg k]; omega
  · rw [if_neg h]; omega
theorem add_no {y m d n : Int} (h : Civ.okD y m d = false) : addOk y m d n = false ∧ addE y m d n = 1 := by simp [addOk, addE, h]
theorem add_out {y m d n : Int} (h : Civ.okD y m d = true) (k : inR (Civ.num y m d + n) = false) : addOk y m d n = false ∧ addE y m d n = 4 := by simp [addOk, addE, h, k]
theorem add_yes {y m d n : Int} (h : Civ.okD y m d = true) (k : inR (Civ.num y m d + n) = true) : addOk y m d n = true ∧ addE y m d n = 0 := by simp [addOk, addE, h, k]

def AddSays (f : FuncId) (y m d n : Int) (w : World) : Prop :=
  Rets Try.prog f #[.agg #[.int .i64 y, .int .i64 m, .int .i64 d], .int .i64 n] w (.tuple #[.agg #[.int .i64 (orZ (addOk y m d n) (Civ.dy (Civ.num y m d + n))), .int .i64 (orZ (addOk y m d n) (Civ.dm (Civ.num y m d + n))), .int .i64 (orZ (addOk y m d n) (Civ.dd (Civ.num y m d + n)))], .int .i64 (addE y m d n)])

theorem add_cases (y m d n : Int) (b : Int) (hb : 200000001 ≤ b) : Civ.okD y m d = false ∨ (Civ.okD y m d = true ∧ n < -b ∧ inR (Civ.num y m d + n) = false) ∨ (Civ.okD y m d = true ∧ decide (n < -b) = false ∧ b < n ∧ inR (Civ.num y m d + n) = false)
    ∨ (Civ.okD y m d = true ∧ decide (n < -b) = false ∧ decide (b < n) = false ∧ inR (Civ.num y m d + n) = false) ∨ (Civ.okD y m d = true ∧ decide (n < -b) = false ∧ decide (b < n) = false ∧ inR (Civ.num y m d + n) = true) := by
  cases h : Civ.okD y m d
  · exact .inl rfl
  · have hb := right_bds y m d h
    right
    by_cases c1 : n < -b
    · exact .inl ⟨rfl, c1, inR_mk_no (by omega)⟩
    · by_cases c2 : b < n
      · exact .inr (.inl ⟨rfl, decide_eq_false c1, c2, inR_mk_no (by omega)⟩)
      · cases k : inR (Civ.num y m d + n)
        · exact .inr (.inr (.inl ⟨rfl, decide_eq_false c1, decide_eq_false c2, rfl⟩))
        · exact .inr (.inr (.inr ⟨rfl, decide_eq_false c1, decide_eq_false c2, rfl⟩))

theorem neg_word : (-1 : Int) * 4294967296 = -4294967296 := by decide
end Go.Proofs.Ytgnjmejmngljjaa
