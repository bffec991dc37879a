/- Walks of rules: the year in which a second lies, on both sides. -/
import Derived.Test.YtcjnficcggjeiaaDoorRulWalkD
set_option linter.unusedVariables false
set_option linter.unusedSimpArgs false
namespace Go.Proofs.YtcjnficcggjeiaaDoor
open Go.RowKit

namespace Rul
/-- The program's: 0 where there is none. -/
def yearP (t : Int) : Int := if t / 86400 < -100000001 then 0 else if 100000000 < t / 86400 then Civ.dy 100000000 else Civ.dy (t / 86400)
/-- The document's. -/
def yearD (t : Int) : Int := if t < -9000000000000 then -271821 else if 8640000000000 < t then 275760 else if t / 86400 < -100000001 then -271821 else Civ.dy (t / 86400)
end Rul
theorem day_cases (t : Int) : (t.tmod 86400 < 0 ∧ t.tdiv 86400 - 1 = t / 86400) ∨ (decide (t.tmod 86400 < 0) = false ∧ t.tdiv 86400 = t / 86400) := by
  by_cases h : t.tmod 86400 < 0
  · exact .inl ⟨h, (tmod_neg t 86400 (by omega) h).1⟩
  · exact .inr ⟨decide_eq_false h, (tmod_pos t 86400 (by omega) (by omega)).1⟩
set_option maxRecDepth 100000 in
set_option maxHeartbeats 4000000 in
theorem year_w (t q m D Y : Int) (w : World) (hq : t.tdiv 86400 = q) (hm : t.tmod 86400 = m) (q1 : -106751991167302 ≤ q) (q2 : q ≤ 106751991167302) (hd : (m < 0 ∧ q - 1 = D) ∨ (decide (m < 0) = false ∧ q = D))
    (hY : (D < -100000001 ∧ Y = 0) ∨ (decide (D < -100000001) = false ∧ 100000000 < D ∧ Y = Civ.dy 100000000) ∨ (decide (D < -100000001) = false ∧ decide (100000000 < D) = false ∧ Y = Civ.dy D)) :
    Rets Tryd.prog 87 #[.int .i64 t] w (.int .i64 Y) := by
  have H : ∀ n, -100000001 ≤ n → n ≤ 100000000 → ∀ w, Hid (Rets Tryd.prog 100 #[.int .i64 n] w (.tuple #[.agg #[.int .i64 (Civ.dy n), .int .i64 (Civ.dm n), .int .i64 (Civ.dd n)], .bool true])) := fun n h1 h2 w => by
    have := of_any n w
    rw [inR_mk h1 h2] at this; exact this
  unfold Rets
  rcases hY with ⟨y1, rfl⟩ | ⟨y1, y2, rfl⟩ | ⟨y1, y2, rfl⟩
  · rcases hd with ⟨d1, rfl⟩ | ⟨d1, rfl⟩
    all_goals
      clear H
      go_enter Tryd.func87, Tryd.ntmps87
      go_wp2
      go_ret
      exact ⟨rfl, done⟩
  · have H1 := H 100000000 (by omega) (by omega)
    clear H
    generalize Civ.dy 100000000 = Y at *
    generalize Civ.dm 100000000 = Y2 at *
    generalize Civ.dd 100000000 = Y3 at *
    rcases hd with ⟨d1, rfl⟩ | ⟨d1, rfl⟩
    all_goals
      go_enter Tryd.func87, Tryd.ntmps87
      go_wp2_with (go_at_call 100; refine Rets.use (H1 _).out ?_; intro _)
      go_ret
      exact ⟨rfl, done⟩
  · have H1 := H D (by have := of_decide_eq_false y1; omega) (by have := of_decide_eq_false y2; omega)
    clear H
    generalize Civ.dy D = Y at *
    generalize Civ.dm D = Y2 at *
    generalize Civ.dd D = Y3 at *
    rcases hd with ⟨d1, rfl⟩ | ⟨d1, rfl⟩
    all_goals
      go_enter Tryd.func87, Tryd.ntmps87
      go_wp2_with (go_at_call 100; refine Rets.use (H1 _).out ?_; intro _)
      go_ret
      exact ⟨rfl, done⟩
theorem tdiv_day {t : Int} (h1 : -9223372036854775808 ≤ t) (h2 : t ≤ 9223372036854775807) : -106751991167302 ≤ t.tdiv 86400 ∧ t.tdiv 86400 ≤ 106751991167302 := by
  rcases day_cases t with ⟨_, h⟩ | ⟨_, h⟩ <;> omega
theorem yearp_any (t : Int) (h1 : -9223372036854775808 ≤ t) (h2 : t ≤ 9223372036854775807) (w : World) : Rets Tryd.prog 87 #[.int .i64 t] w (.int .i64 (Rul.yearP t)) := by
  obtain ⟨q1, q2⟩ := tdiv_day h1 h2
  refine year_w t _ _ (t / 86400) _ w rfl rfl q1 q2 (day_cases t) ?_
  unfold Rul.yearP
  by_cases c1 : t / 86400 < -100000001
  · exact .inl ⟨c1, if_pos c1⟩
  · by_cases c2 : 100000000 < t / 86400
    · exact .inr (.inl ⟨decide_eq_false c1, c2, by rw [if_neg c1, if_pos c2]⟩)
    · exact .inr (.inr ⟨decide_eq_false c1, decide_eq_false c2, by rw [if_neg c1, if_neg c2]⟩)
end Go.Proofs.YtcjnficcggjeiaaDoor
