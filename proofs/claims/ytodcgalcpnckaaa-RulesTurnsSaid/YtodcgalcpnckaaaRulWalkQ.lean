/- Walks of rules: the law's own two rules. -/
import Derived.Test.YtodcgalcpnckaaaRulWalkO
set_option linter.unusedVariables false
set_option linter.unusedSimpArgs false
namespace Go.Proofs.Ytodcgalcpnckaaa
open Go.RowKit

def usL : List Rule := [⟨⟨#[85, 83]⟩, 2007, 1000000, 3, 2, 7, 8, 7200, 0, 3600, ⟨#[68]⟩⟩, ⟨⟨#[85, 83]⟩, 2007, 1000000, 11, 2, 7, 1, 7200, 0, 0, ⟨#[83]⟩⟩]
theorem us_right : Rul.allB usL = true := by decide +kernel
theorem row_new (w : World) (l : List Rule) (t : TypeId) (n : Nat) (hn : l.length = n) (h : n ≤ 100) : Reads (w.alloc (.cells (ruleRow l).toArray t)) (.slice (some ⟨w.heap.size, 0, none⟩) n n) n (ruleRow l) := by
  refine .inr ⟨_, 0, n, rfl, Nat.le_refl _, by unfold maxLen; omega, by simp, fun i u hu => ?_⟩
  have := new_cells w (ruleRow l) t i u hu
  rw [show (⟨w.heap.size, 0, none⟩ : Addr).add i = ⟨w.heap.size, 0 + i, none⟩ by unfold Addr.add; split <;> simp_all] at this
  exact this
set_option maxRecDepth 100000 in
set_option maxHeartbeats 2000000 in
theorem us_any (w : World) : Calls Try.prog 24 #[] w fun e w' => ∃ (v : Value) (y : Past w), e = .returned v ∧ Reads y.x v 2 (ruleRow usL) ∧ w' = y.x := by
  have K := Lib.hid (row_new w usL 43 2 rfl (by omega))
  go_enter Try.func24, Try.ntmps24
  go_wp2
  go_ret
  exact ⟨_, ⟨w.alloc (.cells (ruleRow usL).toArray 43), (Ext.refl w).alloc _⟩, rfl, K.out, rfl⟩
end Go.Proofs.Ytodcgalcpnckaaa
set_option linter.unusedVariables false
set_option linter.unusedSimpArgs false
namespace Go.Proofs.Ytodcgalcpnckaaa
open Go.RowKit

theorem us_force1 : (Rul.forceG usL (-18000) 1615705200).s = 3600 ∧ (Rul.forceG usL (-18000) 1615705200).l.data.toList = [68] := by decide +kernel
theorem us_force2 : (Rul.forceG usL (-18000) 1615705199).s = 0 ∧ (Rul.forceG usL (-18000) 1615705199).l.data.toList = [83] := by decide +kernel
end Go.Proofs.Ytodcgalcpnckaaa
