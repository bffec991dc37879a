/- Walks of rules: sets without rules, and sets that may not be. -/
import Derived.Test.YtcjnficcggjeiaaDoorRulWalkO
import Derived.Test.YtcjnficcggjeiaaDoorRulLawA
set_option linter.unusedVariables false
set_option linter.unusedSimpArgs false
namespace Go.Proofs.YtcjnficcggjeiaaDoor
open Go.RowKit Go.Shelf

set_option maxRecDepth 100000 in
set_option maxHeartbeats 2000000 in
theorem ahead_no (l : List Rule) (n : Nat) (hn : l.length = n) (hA : Rul.allB l = false) (t : Int) (v : Value) (w : World) (hr : Reads w v n (ruleRow l)) :
    Rets Tryd.prog 62 #[v, .int .i64 t] w (.tuple #[turnV Rul.noTurn, .bool false]) := by
  have H : ∀ w, Reads w v n (ruleRow l) → Hid (Rets Tryd.prog 85 #[v] w (.bool false)) := fun w hr => by
    have := sets_any l n hn v w hr
    rw [hA] at this; exact this
  unfold Rets
  go_enter Tryd.func62, Tryd.ntmps62
  go_wp2_with (go_at_call 85; refine Rets.use (H _ (hr.ext isext)).out ?_; intro _)
  refine bodyPost_ret (v := .tuple #[turnV Rul.noTurn, .bool false]) ?_ rfl ⟨rfl, done⟩
  simp [results, Tryd.f62, go_sem, Rul.noTurn]
set_option maxRecDepth 100000 in
set_option maxHeartbeats 2000000 in
theorem force_no (l : List Rule) (n : Nat) (hn : l.length = n) (off : Int) (hA : Rul.allB l = false ∨ off ≤ -86400 ∨ 86400 ≤ off) (t : Int) (v : Value) (w : World) (hr : Reads w v n (ruleRow l)) :
    Rets Tryd.prog 89 #[v, .int .i64 off, .int .i64 t] w (.tuple #[.int .i64 0, .string ⟨#[]⟩]) := by
  have H := fun w hr => Lib.hid (sets_any l n hn v w hr)
  have hc : (Rul.allB l = false) ∨ (Rul.allB l = true ∧ off ≤ -86400) ∨ (Rul.allB l = true ∧ decide (off ≤ -86400) = false ∧ 86400 ≤ off) := by
    cases hA' : Rul.allB l
    · exact .inl rfl
    · rw [hA'] at hA
      rcases hA with h | h | h
      · cases h
      · exact .inr (.inl ⟨rfl, h⟩)
      · exact .inr (.inr ⟨rfl, decide_eq_false (by omega), h⟩)
  clear hA
  generalize Rul.allB l = A at *
  obtain ⟨a8, c8, n8, hv⟩ : ∃ a c n', v = .slice a n' c := by rcases hr with ⟨a, c, rfl, _⟩ | ⟨b, o, c, rfl, _⟩ <;> exact ⟨_, _, _, rfl⟩
  subst hv
  unfold Rets
  rcases hc with rfl | ⟨rfl, h1⟩ | ⟨rfl, h1, h2⟩
  all_goals
    go_enter Tryd.func89, Tryd.ntmps89
    go_wp2_with (go_at_call 85; refine Rets.use (H _ (hr.ext isext)).out ?_; intro _)
    go_ret2
    exact ⟨rfl, done⟩
end Go.Proofs.YtcjnficcggjeiaaDoor
set_option linter.unusedVariables false
set_option linter.unusedSimpArgs false
namespace Go.Proofs.YtcjnficcggjeiaaDoor
open Go.RowKit

def usL : List Rule := [⟨⟨#[85, 83]⟩, 2007, 1000000, 3, 2, 7, 8, 7200, 0, 3600, ⟨#[68]⟩⟩, ⟨⟨#[85, 83]⟩, 2007, 1000000, 11, 2, 7, 1, 7200, 0, 0, ⟨#[83]⟩⟩]
theorem us_right : Rul.allB usL = true := by decide +kernel
theorem row_new (w : World) (l : List Rule) (t : TypeId) (n : Nat) (hn : l.length = n) (h : n ≤ 100) : Reads (w.alloc (.cells (ruleRow l).toArray t)) (.slice (some ⟨w.heap.size, 0, none⟩) n n) n (ruleRow l) := by
  refine .inr ⟨_, 0, n, rfl, Nat.le_refl _, by unfold maxLen; omega, by simp, fun i u hu => ?_⟩
  have := new_cells w (ruleRow l) t i u hu
  rw [show (⟨w.heap.size, 0, none⟩ : Addr).add i = ⟨w.heap.size, 0 + i, none⟩ by unfold Addr.add; split <;> simp_all] at this
  exact this
end Go.Proofs.YtcjnficcggjeiaaDoor
set_option linter.unusedVariables false
set_option linter.unusedSimpArgs false
namespace Go.Proofs.YtcjnficcggjeiaaDoor
open Go.RowKit

theorem us_force1 : (Rul.forceG usL (-18000) 1615705200).s = 3600 ∧ (Rul.forceG usL (-18000) 1615705200).l.data.toList = [68] := by decide +kernel
theorem us_force2 : (Rul.forceG usL (-18000) 1615705199).s = 0 ∧ (Rul.forceG usL (-18000) 1615705199).l.data.toList = [83] := by decide +kernel
end Go.Proofs.YtcjnficcggjeiaaDoor
