/- Walks of moments: the laws of names and of what texts tell. -/
import Derived.Test.YtgnjmejmngljjaaMomWalkX
set_option linter.unusedVariables false
set_option linter.unusedSimpArgs false
namespace Go.Proofs.Ytgnjmejmngljjaa
open Go.RowKit

theorem found_eq (a : Nat) : (decide (a ≠ 0) == decide ((0 : Int) < a)) = true := by
  rw [beq_iff_eq, decide_eq_decide]; omega
set_option maxRecDepth 100000 in
set_option maxHeartbeats 4000000 in
theorem nameslaw_any (s : ByteArray) (hs : s.size ≤ maxLen) (w : World) (mx : Int) (hm : w.cell? ⟨0, 0, none⟩ = some (.int .i64 mx)) (hw0 : 0 < w.heap.size) : Rets Try.prog 3 #[.string s] w (.bool true) := by
  haveI : InW 0 w := ⟨hw0⟩
  have e : s = ⟨s.data.toList.toArray⟩ := rfl
  have hl : s.data.toList.length ≤ maxLen := by rw [show s.data.toList.length = s.size by simp]; exact hs
  have H1 : ∀ w, Hid (Rets Try.prog 10 #[.string s] w (foundN (Mom.monthI s.data.toList))) := fun w => Lib.hid (month_any s.data.toList w hl)
  have H2 : ∀ w, Hid (Rets Try.prog 11 #[.string s] w (foundN (Mom.dayI s.data.toList))) := fun w => Lib.hid (weekday_any s.data.toList w hl)
  have H3 : ∀ w, Hid (Rets Try.prog 12 #[.string s] w (.int .i64 (Mom.monthI s.data.toList : Nat))) := fun w => Lib.hid (rmonth_any s.data.toList w hl)
  have H4 : ∀ w, Hid (Rets Try.prog 13 #[.string s] w (.int .i64 (Mom.dayI s.data.toList : Nat))) := fun w => Lib.hid (rweekday_any s.data.toList w hl)
  generalize Mom.monthI s.data.toList = a at *
  generalize Mom.dayI s.data.toList = b at *
  have F : ∀ n : Nat, foundN n = .tuple #[.int .i64 n, .bool (decide (n ≠ 0))] := fun _ => rfl
  rw [F] at H1 H2
  have ca : (∃ p, decide (a ≠ 0) = p ∧ p = true ∧ (0 : Int) < a ∧ 0 < a) ∨ (∃ p, decide (a ≠ 0) = p ∧ p = false ∧ decide ((0 : Int) < a) = false ∧ decide (0 < a) = false) := by
    by_cases h : a = 0
    · exact .inr ⟨_, rfl, decide_eq_false (by omega), decide_eq_false (by omega), decide_eq_false (by omega)⟩
    · exact .inl ⟨_, rfl, decide_eq_true h, by omega, by omega⟩
  have cb : (∃ p, decide (b ≠ 0) = p ∧ p = true ∧ (0 : Int) < b ∧ 0 < b) ∨ (∃ p, decide (b ≠ 0) = p ∧ p = false ∧ decide ((0 : Int) < b) = false ∧ decide (0 < b) = false) := by
    by_cases h : b = 0
    · exact .inr ⟨_, rfl, decide_eq_false (by omega), decide_eq_false (by omega), decide_eq_false (by omega)⟩
    · exact .inl ⟨_, rfl, decide_eq_true h, by omega, by omega⟩
  clear e hl hs F
  unfold Rets
  rcases ca with ⟨p, g1, rfl, g2, g5⟩ | ⟨p, g1, rfl, g2, g5⟩ <;> rcases cb with ⟨q, g3, rfl, g4, g6⟩ | ⟨q, g3, rfl, g4, g6⟩
  all_goals
    rw [g1] at H1
    rw [g3] at H2
    clear g1 g3
    go_enter Try.func3, Try.ntmps3
    go_wp2_with (first | (go_at_call 10; refine Rets.use (H1 _).out ?_; intro _) | (go_at_call 11; refine Rets.use (H2 _).out ?_; intro _) | (go_at_call 12; refine Rets.use (H3 _).out ?_; intro _) | (go_at_call 13; refine Rets.use (H4 _).out ?_; intro _) | (go_at_call 14; refine Rets.use (malive_any _ mx (max_at isext hw0 hm) (Nat.lt_of_lt_of_le hw0 (Below.size isext))) ?_; intro _))
    go_ret
    exact ⟨rfl, done⟩
end Go.Proofs.Ytgnjmejmngljjaa
