/- Walks of moments: which may be. -/
import Derived.Test.YtdhbgelijjlifaaGreatDoorProg
import Derived.WalkKit
import Derived.WalkSpells
import Derived.WalkLawsBesides
import Derived.Test.YtdhbgelijjlifaaGreatDoorOwns
import Derived.Test.YtdhbgelijjlifaaGreatDoorSrcPlainB
set_option linter.unusedVariables false
set_option linter.unusedSimpArgs false
namespace Go.Proofs.YtdhbgelijjlifaaGreatDoor
open Go.RowKit

abbrev spotA (m k wd d t r : Int) : Value := .agg #[.int .i64 m, .int .i64 k, .int .i64 wd, .int .i64 d, .int .i64 t, .int .i64 r]
theorem tail_eq {k wd d : Int} {b : Bool} (h : b = true ↔ ((k = 0 ∧ wd = 0 ∧ 1 ≤ d ∧ d ≤ 31) ∨ (k = 1 ∧ 1 ≤ wd ∧ wd ≤ 7 ∧ d = 0) ∨ (k ≠ 0 ∧ k ≠ 1 ∧ 1 ≤ wd ∧ wd ≤ 7 ∧ 1 ≤ d ∧ d ≤ 31))) : b = Mom.tailOkB k wd d := by
  rw [Bool.eq_iff_iff, h]; unfold Mom.tailOkB; rw [decide_eq_true_eq]
set_option maxRecDepth 100000 in
set_option maxHeartbeats 4000000 in
theorem right_head_any (m k wd d t r : Int) (w : World) (h : ¬ Mom.headOk m k t r) : Rets Tryz.prog 70 #[spotA m k wd d t r] w (.bool false) := by
  have hc := Mom.head_cases m k t r
  unfold Rets
  rcases hc with g | ⟨g1, g⟩ | ⟨g1, g2, g⟩ | ⟨g1, g2, g3, g⟩ | ⟨g1, g2, g3, g4, g⟩ | ⟨g1, g2, g3, g4, g5, g⟩ | ⟨g1, g2, g3, g4, g5, g6, g⟩ | ⟨g1, g2, g3, g4, g5, g6, g7, g⟩ | ⟨_, _, _, _, _, _, _, _, g⟩
  case inr.inr.inr.inr.inr.inr.inr.inr => exact absurd g h
  all_goals
    clear h
    go_enter Tryz.func70, Tryz.ntmps70
    go_wp2
    go_ret
    exact ⟨rfl, done⟩
set_option maxRecDepth 100000 in
set_option maxHeartbeats 4000000 in
theorem rright_head_any (m k wd d t r : Int) (w : World) (h : ¬ Mom.headOk m k t r) : Rets Tryz.prog 73 #[spotA m k wd d t r] w (.bool false) := by
  have hc := Mom.head_cases m k t r
  unfold Rets
  rcases hc with g | ⟨g1, g⟩ | ⟨g1, g2, g⟩ | ⟨g1, g2, g3, g⟩ | ⟨g1, g2, g3, g4, g⟩ | ⟨g1, g2, g3, g4, g5, g⟩ | ⟨g1, g2, g3, g4, g5, g6, g⟩ | ⟨g1, g2, g3, g4, g5, g6, g7, g⟩ | ⟨_, _, _, _, _, _, _, _, g⟩
  case inr.inr.inr.inr.inr.inr.inr.inr => exact absurd g h
  all_goals
    clear h
    go_enter Tryz.func73, Tryz.ntmps73
    go_wp2
    go_ret
    exact ⟨rfl, done⟩
theorem three (x lo hi : Int) : (decide (lo ≤ x) = false ∧ decide (x < lo) = true ∧ x < lo) ∨ (lo ≤ x ∧ decide (x < lo) = false ∧ decide (x ≤ hi) = false ∧ decide (hi < x) = true ∧ hi < x) ∨ (lo ≤ x ∧ decide (x < lo) = false ∧ x ≤ hi ∧ decide (hi < x) = false) := by
  by_cases h1 : lo ≤ x
  · by_cases h2 : x ≤ hi
    · exact .inr (.inr ⟨h1, decide_eq_false (by omega), h2, decide_eq_false (by omega)⟩)
    · exact .inr (.inl ⟨h1, decide_eq_false (by omega), decide_eq_false h2, decide_eq_true (by omega), by omega⟩)
  · exact .inl ⟨decide_eq_false h1, decide_eq_true (by omega), by omega⟩
theorem eqn (x c : Int) : ((x == c) = true ∧ (x != c) = false ∧ x = c) ∨ ((x == c) = false ∧ (x != c) = true ∧ x ≠ c) := by
  by_cases h : x = c
  · subst h; exact .inl ⟨by simp, by simp, rfl⟩
  · exact .inr ⟨beq_eq_false_iff_ne.2 h, by rw [bne_iff_ne]; exact h, h⟩
set_option maxRecDepth 100000 in
set_option maxHeartbeats 8000000 in
theorem right_tail_any (m k wd d t r : Int) (w : World) (h : Mom.headOk m k t r) : Rets Tryz.prog 70 #[spotA m k wd d t r] w (.bool (Mom.tailOkB k wd d)) := by
  have hc := Mom.head_cases m k t r
  have h' := h
  unfold Mom.headOk at h
  obtain ⟨h1, h2, h3, h4, h5, h6, h7, h8⟩ := h
  have g1 : decide (m < 1) = false := decide_eq_false (by omega)
  have g2 : decide (12 < m) = false := decide_eq_false (by omega)
  have g3 : decide (k < 0) = false := decide_eq_false (by omega)
  have g4 : decide (3 < k) = false := decide_eq_false (by omega)
  have g5 : decide (t < -604799) = false := decide_eq_false (by omega)
  have g6 : decide (604799 < t) = false := decide_eq_false (by omega)
  have g7 : decide (r < 0) = false := decide_eq_false (by omega)
  have g8 : decide (2 < r) = false := decide_eq_false (by omega)
  have E := Lib.hid (fun b => tail_eq (k := k) (wd := wd) (d := d) (b := b))
  clear hc h' h1 h2 h3 h4 h5 h6 h7 h8
  unfold Rets
  rcases eqn k 0 with ⟨k1, k2, k3⟩ | ⟨k1, k2, k3⟩ <;> rcases three wd 1 7 with ⟨w1, w2, w3⟩ | ⟨w1, w2, w3, w4, w5⟩ | ⟨w1, w2, w3, w4⟩ <;> rcases three d 1 31 with ⟨d1, d2, d3⟩ | ⟨d1, d2, d3, d4, d5⟩ | ⟨d1, d2, d3, d4⟩
  all_goals
    try clear k3
    go_enter Tryz.func70, Tryz.ntmps70
    go_wp2
    all_goals (go_ret; refine ⟨ret_bool (E.out _ ?_), done⟩; simp at *; omega)
end Go.Proofs.YtdhbgelijjlifaaGreatDoor
