/- Plain laws: the day behind a date; seven days on. -/
import Derived.Test.YtapdkpcbglndlaaCivWalkJ
namespace Go.Proofs.Ytapdkpcbglndlaa
open Go.RowKit

theorem date_ok (n : Int) (h1 : -100000001 ≤ n) (h2 : n ≤ 100000000) : Civ.okD (Civ.dy n) (Civ.dm n) (Civ.dd n) = true ∧ Civ.num (Civ.dy n) (Civ.dm n) (Civ.dd n) = n := by
  have h := Civ.of_ok n
  exact ⟨Civ.okD_mk _ _ _ h.1 (by rw [h.2]; exact h1) (by rw [h.2]; exact h2), h.2⟩
theorem date_of (y m d : Int) (h : Civ.okD y m d = true) : y = Civ.dy (Civ.num y m d) ∧ m = Civ.dm (Civ.num y m d) ∧ d = Civ.dd (Civ.num y m d) :=
  Civ.of_unique _ y m d (Civ.okD_yes y m d h).1 rfl
theorem next_date (n : Int) : (Civ.dd n + 1 ≤ Civ.mlen (Civ.dy n) (Civ.dm n) ∧ Civ.dy (n + 1) = Civ.dy n ∧ Civ.dm (n + 1) = Civ.dm n ∧ Civ.dd (n + 1) = Civ.dd n + 1) ∨
    (Civ.mlen (Civ.dy n) (Civ.dm n) < Civ.dd n + 1 ∧ Civ.dm n + 1 ≤ 12 ∧ Civ.dy (n + 1) = Civ.dy n ∧ Civ.dm (n + 1) = Civ.dm n + 1 ∧ Civ.dd (n + 1) = 1) ∨
    (Civ.mlen (Civ.dy n) (Civ.dm n) < Civ.dd n + 1 ∧ 12 < Civ.dm n + 1 ∧ Civ.dy (n + 1) = Civ.dy n + 1 ∧ Civ.dm (n + 1) = 1 ∧ Civ.dd (n + 1) = 1) := by
  obtain ⟨⟨f1, f2, f3, f4⟩, hn⟩ := Civ.of_ok n
  generalize Civ.dy n = y at *
  generalize Civ.dm n = m at *
  generalize Civ.dd n = d at *
  have hs := Civ.cum_succ y m f1 f2
  by_cases c1 : d + 1 ≤ Civ.mlen y m
  · have := Civ.of_unique (n + 1) y m (d + 1) ⟨f1, f2, by omega, c1⟩ (by unfold Civ.num at *; omega)
    exact .inl ⟨c1, this.1.symm, this.2.1.symm, this.2.2.symm⟩
  · by_cases c2 : m + 1 ≤ 12
    · have hl := Civ.mlen_lo y (m + 1) (by omega) c2
      have := Civ.of_unique (n + 1) y (m + 1) 1 ⟨by omega, c2, by omega, by omega⟩ (by unfold Civ.num at *; omega)
      exact .inr (.inl ⟨by omega, c2, this.1.symm, this.2.1.symm, this.2.2.symm⟩)
    · obtain rfl : m = 12 := by omega
      have hl := Civ.mlen_lo (y + 1) 1 (by omega) (by omega)
      have h13 := Civ.cum_13 y
      have hj := Civ.jan_succ y
      have h1 := Civ.cum_1 (y + 1)
      have := Civ.of_unique (n + 1) (y + 1) 1 1 ⟨by omega, by omega, by omega, by omega⟩ (by unfold Civ.num at *; rw [show (12 : Int) + 1 = 13 from rfl] at hs; omega)
      exact .inr (.inr ⟨by omega, by omega, this.1.symm, this.2.1.symm, this.2.2.symm⟩)

/-- The weekday and the week's Thursday of a number. -/
def wd (n : Int) : Int := (n + 3) % 7 + 1
def th (n : Int) : Int := n + 4 - wd n
theorem wk_char (y m d : Int) (h : Civ.okD y m d = true) : wday y m d = wd (Civ.num y m d) ∧ Civ.jan (wkY y m d) ≤ th (Civ.num y m d) ∧ th (Civ.num y m d) < Civ.jan (wkY y m d + 1) ∧ wkN y m d = (th (Civ.num y m d) - Civ.jan (wkY y m d)) / 7 + 1 := by
  have hw : wday y m d = wd (Civ.num y m d) := wday_yes y m d h
  have hT : thurs y m d = th (Civ.num y m d) := by unfold thurs th; rw [hw]
  have hb := right_bds y m d h
  have hY : wkY y m d = thY y (th (Civ.num y m d)) := by rw [← hT]; exact if_pos h
  have hN : wkN y m d = thN y (th (Civ.num y m d)) := by rw [← hT]; exact if_pos h
  have hwd : 1 ≤ wd (Civ.num y m d) ∧ wd (Civ.num y m d) ≤ 7 := by unfold wd; omega
  have hc := thY_cases y (th (Civ.num y m d)) (by unfold th; omega) (by unfold th; omega)
  refine ⟨hw, by rw [hY]; exact hc.2.1, ?_, by rw [hN, hY]; rfl⟩
  rw [hY]
  rcases hc.1 with ⟨a, e⟩ | ⟨a, b, e⟩ | ⟨a, b, e⟩
  · rw [e, show y - 1 + 1 = y by omega]; exact a
  · have := hc.2.2
    rw [e] at this ⊢
    have hj := Civ.jan_succ (y + 1)
    have hl := Civ.lp_01 (y + 1)
    have hj0 := Civ.jan_succ y
    have hl0 := Civ.lp_01 y
    unfold th at *
    omega
  · rw [← e]; exact b
theorem year_unique (T Y Z : Int) (a : Civ.jan Y ≤ T) (b : T < Civ.jan (Y + 1)) (c : Civ.jan Z ≤ T) (d : T < Civ.jan (Z + 1)) : Y = Z := by
  rcases Int.lt_trichotomy Y Z with h | h | h
  · have := Civ.jan_mono (Y + 1) Z (by omega); omega
  · exact h
  · have := Civ.jan_mono (Z + 1) Y (by omega); omega
/-- How the weeks of two numbers stand to each other. -/
theorem week_on (T Y Z w v : Int) (a : Civ.jan Y ≤ T) (b : T < Civ.jan (Y + 1)) (hw : w = (T - Civ.jan Y) / 7 + 1) (c : Civ.jan Z ≤ T + 7) (d : T + 7 < Civ.jan (Z + 1)) (hv : v = (T + 7 - Civ.jan Z) / 7 + 1) :
    1 ≤ w ∧ w ≤ 53 ∧ 1 ≤ v ∧ v ≤ 53 ∧ ((Z = Y ∧ v = w + 1) ∨ (Z = Y + 1 ∧ v = 1 ∧ 52 ≤ w)) := by
  have hj := Civ.jan_succ Y
  have hl := Civ.lp_01 Y
  have hj1 := Civ.jan_succ (Y + 1)
  have hl1 := Civ.lp_01 (Y + 1)
  have hz := Civ.jan_succ Z
  have hlz := Civ.lp_01 Z
  refine ⟨by omega, by omega, by omega, by omega, ?_⟩
  by_cases e : T + 7 < Civ.jan (Y + 1)
  · have := year_unique (T + 7) Z Y c d (by omega) e
    subst this
    exact .inl ⟨rfl, by omega⟩
  · have := year_unique (T + 7) Z (Y + 1) c d (by omega) (by omega)
    subst this
    exact .inr ⟨rfl, by omega, by omega⟩
theorem same_week (T Y Z w v : Int) (a : Civ.jan Y ≤ T) (b : T < Civ.jan (Y + 1)) (hw : w = (T - Civ.jan Y) / 7 + 1) (c : Civ.jan Z ≤ T) (d : T < Civ.jan (Z + 1)) (hv : v = (T - Civ.jan Z) / 7 + 1) : Z = Y ∧ v = w := by
  have := year_unique T Z Y c d a b
  subst this
  exact ⟨rfl, by rw [hw, hv]⟩
end Go.Proofs.Ytapdkpcbglndlaa
