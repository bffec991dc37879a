/- Walks: the day of the year, the ISO week, of both texts. -/
import Derived.Test.YtgnjmejmngljjaaCivWalkG
set_option linter.unusedVariables false
set_option linter.unusedSimpArgs false
namespace Go.Proofs.Ytgnjmejmngljjaa
open Go.RowKit

def doy (y m d : Int) : Int := if Civ.okD y m d = true then Civ.num y m d - Civ.jan y + 1 else 0
theorem doy_yes (y m d : Int) (h : Civ.okD y m d = true) : doy y m d = Civ.num y m d - Civ.jan y + 1 := if_pos h
theorem doy_no (y m d : Int) (h : Civ.okD y m d = false) : doy y m d = 0 := by simp [doy, h]
theorem num_first (y : Int) : Civ.num y 1 1 = Civ.jan y := by unfold Civ.num; rw [Civ.cum_1]; omega
theorem rets_eq {P : Program} {f : FuncId} {args : Array Value} {w : World} {v v' : Value} (h : Rets P f args w v) (e : v = v') : Rets P f args w v' := e ▸ h
/-- What is known of a right date. -/
theorem right_bds (y m d : Int) (h : Civ.okD y m d = true) : -271821 ≤ y ∧ y ≤ 275760 ∧ 1 ≤ m ∧ m ≤ 12 ∧ 1 ≤ d ∧ d ≤ 31 ∧ -100000001 ≤ Civ.num y m d ∧ Civ.num y m d ≤ 100000000 ∧ Civ.jan y ≤ Civ.num y m d ∧ Civ.num y m d ≤ Civ.jan y + 365 := by
  obtain ⟨⟨f1, f2, f3, f4⟩, a, b⟩ := Civ.okD_yes y m d h
  have hy := Civ.okD_year y m d h
  have hm := Civ.mlen_bd y m
  have hn := Civ.num_year y m d ⟨f1, f2, f3, f4⟩
  have hl := Civ.lp_01 y
  rw [Civ.jan_succ] at hn
  omega

/-- The week's year, out of its Thursday. -/
def thY (y th : Int) : Int := if th < Civ.jan y then y - 1 else if Civ.jan (y + 1) ≤ th then y + 1 else y
def thN (y th : Int) : Int := (th - Civ.jan (thY y th)) / 7 + 1
def thurs (y m d : Int) : Int := Civ.num y m d + 4 - wday y m d
def wkY (y m d : Int) : Int := if Civ.okD y m d = true then thY y (thurs y m d) else 0
def wkN (y m d : Int) : Int := if Civ.okD y m d = true then thN y (thurs y m d) else 0
theorem wday_bd (y m d : Int) (h : Civ.okD y m d = true) : 1 ≤ wday y m d ∧ wday y m d ≤ 7 := by rw [wday_yes y m d h]; omega
theorem wk_no (y m d : Int) (h : Civ.okD y m d = false) : wkY y m d = 0 ∧ wkN y m d = 0 := by simp [wkY, wkN, h]

theorem thY_cases (y T : Int) (h0 : Civ.jan y - 7 ≤ T) (h9 : T ≤ Civ.jan y + 380) : ((T < Civ.jan y ∧ thY y T = y - 1) ∨ (Civ.jan y ≤ T ∧ Civ.jan (y + 1) ≤ T ∧ thY y T = y + 1) ∨ (Civ.jan y ≤ T ∧ T < Civ.jan (y + 1) ∧ y = thY y T)) ∧ Civ.jan (thY y T) ≤ T ∧ T < Civ.jan (thY y T) + 366 := by
  have hs := Civ.jan_succ y
  have hp := Civ.jan_succ (y - 1)
  rw [show y - 1 + 1 = y by omega] at hp
  have l0 := Civ.lp_01 y
  have l1 := Civ.lp_01 (y - 1)
  have hm := Civ.jan_mono y (y + 1) (by omega)
  unfold thY
  by_cases c1 : T < Civ.jan y
  · rw [if_pos c1]; exact ⟨.inl ⟨c1, rfl⟩, by omega, by omega⟩
  · rw [if_neg c1]
    by_cases c2 : Civ.jan (y + 1) ≤ T
    · rw [if_pos c2]; exact ⟨.inr (.inl ⟨by omega, c2, rfl⟩), by omega, by omega⟩
    · rw [if_neg c2]; exact ⟨.inr (.inr ⟨by omega, by omega, rfl⟩), by omega, by omega⟩

end Go.Proofs.Ytgnjmejmngljjaa
