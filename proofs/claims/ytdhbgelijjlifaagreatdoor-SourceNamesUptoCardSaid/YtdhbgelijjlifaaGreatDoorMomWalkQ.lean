/- Walks of moments: which may be, whole; the day on which a spot falls. -/
import Derived.Test.YtdhbgelijjlifaaGreatDoorMomWalkP
import Derived.Test.YtdhbgelijjlifaaGreatDoorSrcPlainB
import Derived.Test.YtdhbgelijjlifaaGreatDoorCivWalkJ
set_option linter.unusedVariables false
set_option linter.unusedSimpArgs false
namespace Go.Proofs.YtdhbgelijjlifaaGreatDoor
open Go.RowKit

set_option maxRecDepth 100000 in
set_option maxHeartbeats 8000000 in
theorem rright_tail_any (m k wd d t r : Int) (w : World) (h : Mom.headOk m k t r) : Rets Tryz.prog 73 #[spotA m k wd d t r] w (.bool (Mom.tailOkB k wd d)) := by
  unfold Mom.headOk at h
  obtain ⟨h1, h2, h3, h4, h5, h6, h7, h8⟩ := h
  have g1 : decide (m < 1) = false := decide_eq_false (by omega)
  have g2 : decide (12 < m) = false := decide_eq_false (by omega)
  have g3 : decide (k < 0) = false := decide_eq_false (by omega)
  have g4 : decide (3 < k) = false := decide_eq_false (by omega)
  have g5 : decide (t < -604799) = false := decide_eq_false (by omega)
  have g6 : decide (604799 < t) = false := decide_eq_false (by omega)
  have g7 : decide (r < 0) = false := decide_eq_false (by omega)
  have g8 : decide (2 < r) = false := decide_eq_false (by omega)
  have E := Lib.hid (fun b => tail_eq (k := k) (wd := wd) (d := d) (b := b))
  clear h1 h2 h3 h4 h5 h6 h7 h8
  unfold Rets
  rcases eqn k 0 with ⟨k1, k2, k3⟩ | ⟨k1, k2, k3⟩ <;> rcases eqn wd 0 with ⟨x1, x2, x3⟩ | ⟨x1, x2, x3⟩ <;> rcases eqn k 1 with ⟨l1, l2, l3⟩ | ⟨l1, l2, l3⟩ <;> rcases three wd 1 7 with ⟨w1, w2, w3⟩ | ⟨w1, w2, w3, w4, w5⟩ | ⟨w1, w2, w3, w4⟩ <;> first | omega | (rcases eqn d 0 with ⟨y1, y2, y3⟩ | ⟨y1, y2, y3⟩ <;> rcases three d 1 31 with ⟨d1, d2, d3⟩ | ⟨d1, d2, d3, d4, d5⟩ | ⟨d1, d2, d3, d4⟩)
  all_goals
    first
    | omega
    | (try clear k3
       try clear x3
       try clear l3
       try clear y3
       go_enter Tryz.func73, Tryz.ntmps73
       go_wp2
       all_goals (go_ret; refine ⟨ret_bool (E.out _ ?_), done⟩; simp at *; omega))
end Go.Proofs.YtdhbgelijjlifaaGreatDoor
