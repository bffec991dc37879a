/- Walks of moments: the day on which a spot falls; the document's too. -/
import Derived.Test.YtodcgalcpnckaaaMomWalkS
set_option linter.unusedVariables false
set_option linter.unusedSimpArgs false
namespace Go.Proofs.Ytodcgalcpnckaaa
open Go.RowKit

theorem on_cases (m k wd d t r y : Int) : ((Mom.rightB m k wd d t r = false ∨ (Mom.rightB m k wd d t r = true ∧ y < 1) ∨ (Mom.rightB m k wd d t r = true ∧ decide (y < 1) = false ∧ 300000 < y) ∨ (Mom.rightB m k wd d t r = true ∧ decide (y < 1) = false ∧ decide (300000 < y) = false ∧ Civ.okD y m 1 = false)) ∧ Mom.onB m k wd d t r y = false) ∨
    (Mom.rightB m k wd d t r = true ∧ 1 ≤ y ∧ y ≤ 300000 ∧ Civ.okD y m 1 = true) := by
  cases h1 : Mom.rightB m k wd d t r
  · exact .inl ⟨.inl rfl, Mom.onB_right h1⟩
  · by_cases h2 : y < 1
    · exact .inl ⟨.inr (.inl ⟨rfl, h2⟩), Mom.onB_year (.inl h2)⟩
    · by_cases h3 : 300000 < y
      · exact .inl ⟨.inr (.inr (.inl ⟨rfl, decide_eq_false h2, h3⟩)), Mom.onB_year (.inr h3)⟩
      · cases h4 : Civ.okD y m 1
        · exact .inl ⟨.inr (.inr (.inr ⟨rfl, decide_eq_false h2, decide_eq_false h3, rfl⟩)), Mom.onB_day h4⟩
        · exact .inr ⟨rfl, by omega, by omega, rfl⟩
theorem on_end {m k wd d t r y : Int} (h1 : Mom.rightB m k wd d t r = true) (h2 : 1 ≤ y) (h3 : y ≤ 300000) (h4 : Civ.okD y m 1 = true) :
    (Mom.onB m k wd d t r y = true ∧ Mom.onV m k wd d t r y = Mom.onI m k wd d y ∧ Mom.onI m k wd d y ≤ 100000000) ∨ (Mom.onB m k wd d t r y = false ∧ Mom.onV m k wd d t r y = 0 ∧ 100000000 < Mom.onI m k wd d y) := by
  by_cases h : Mom.onI m k wd d y ≤ 100000000
  · have e := Mom.onB_yes h1 h2 h3 h4 h
    exact .inl ⟨e, Mom.onV_yes e, h⟩
  · have e := Mom.onB_end (m := m) (k := k) (wd := wd) (d := d) (t := t) (r := r) (y := y) (by omega)
    exact .inr ⟨e, Mom.onV_no e, by omega⟩
theorem on_any (m k wd d t r y : Int) (w : World) : Rets Try.prog 57 #[spotA m k wd d t r, .int .i64 y] w (.tuple #[.int .i64 (Mom.onV m k wd d t r y), .bool (Mom.onB m k wd d t r y)]) := by
  rcases on_cases m k wd d t r y with ⟨h, e⟩ | ⟨h1, h2, h3, h4⟩
  · rw [Mom.onV_no e, e]; exact on_no m k wd d t r y w h
  · exact on_yes m k wd d t r y _ w h1 h2 h3 h4 rfl _ _ (on_end h1 h2 h3 h4)

set_option maxRecDepth 100000 in
set_option maxHeartbeats 4000000 in
theorem ron_no (m k wd d t r y : Int) (w : World) (h : Mom.rightB m k wd d t r = false ∨ (Mom.rightB m k wd d t r = true ∧ y < 1) ∨ (Mom.rightB m k wd d t r = true ∧ decide (y < 1) = false ∧ 300000 < y) ∨ (Mom.rightB m k wd d t r = true ∧ decide (y < 1) = false ∧ decide (300000 < y) = false ∧ Civ.okD y m 1 = false)) :
    Rets Try.prog 60 #[spotA m k wd d t r, .int .i64 y] w (.tuple #[.int .i64 0, .bool false]) := by
  have HR := fun w => Lib.hid (rright_whole m k wd d t r w)
  have HD := fun w => Lib.hid (rdays_any y m 1 w)
  unfold Rets
  rcases h with h | ⟨h, g⟩ | ⟨h, g1, g⟩ | ⟨h, g1, g2, g⟩
  all_goals
    rw [h] at HR
    clear h
    try rw [g, dnum_no _ _ _ g] at HD
    go_enter Try.func60, Try.ntmps60
    go_wp2_with (first | (go_at_call 29; refine Rets.use (HR _).out ?_; intro _) | (go_at_call 71; refine Rets.use (HD _).out ?_; intro _))
    go_ret2
    exact ⟨rfl, done⟩
end Go.Proofs.Ytodcgalcpnckaaa
