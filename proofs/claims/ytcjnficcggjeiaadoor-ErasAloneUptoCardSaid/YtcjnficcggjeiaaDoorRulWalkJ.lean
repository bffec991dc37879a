/- Walks of rules: what is in force, by the document. -/
import Derived.Test.YtcjnficcggjeiaaDoorRulWalkH
import Derived.Test.YtcjnficcggjeiaaDoorRulWalkI
import Derived.Deep.CutRange
set_option linter.unusedVariables false
set_option linter.unusedSimpArgs false
namespace Go.Proofs.YtcjnficcggjeiaaDoor
open Go.RowKit

namespace Rul
def forceD (l : List Rule) (off t : Int) : Turn := match lastD l off t with
  | some x => x
  | none => ⟨0, 0, 0, (orNo (firstG l)).l⟩
end Rul
theorem holds4_new (W : World) (t : Turn) (ty : TypeId) : Holds4 (W.alloc (.cells #[.int .i64 t.at', .int .i64 t.r, .int .i64 t.s, .string t.l] ty)) W.heap.size t := by
  constructor <;> first | (simp [go_sem]; done) | rfl | (simp; omega)
theorem rfirst_eq (x : Rule) (y : Int) (h : Rul.turnB x y = true) : Rul.rturnOf x y = Rul.turnOf x y := by unfold Rul.rturnOf; rw [if_pos h]
end Go.Proofs.YtcjnficcggjeiaaDoor
