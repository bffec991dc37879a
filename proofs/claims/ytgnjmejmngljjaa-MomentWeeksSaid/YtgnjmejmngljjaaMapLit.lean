/- A map literal with texts for keys, made and looked into by one call: what the operations come to, the map being known whole. -/
import Derived.Test.YtgnjmejmngljjaaPast
import Derived.Carry
import Derived.MapKept
import Derived.RangeFuncRecord
set_option linter.unusedVariables false
set_option linter.unusedSimpArgs false
namespace Go.Proofs.Ytgnjmejmngljjaa
open Go Go.RowKit

section
variable {P : Program} {t k e : TypeId}
theorem heap_new_get (w0 : World) (o : Obj) : (w0.alloc o).heap[w0.heap.size]? = some o := World.alloc_heap_new w0 o
theorem heap_new_set (w0 : World) (o o' : Obj) : ({ (w0.alloc o) with heap := (w0.alloc o).heap.setIfInBounds w0.heap.size o' } : World) = w0.alloc o' := by
  have h : (w0.heap.push o).setIfInBounds w0.heap.size o' = w0.heap.push o' := by
    apply Array.ext_getElem?
    intro i
    rw [Array.getElem?_setIfInBounds, Array.getElem?_push, Array.getElem?_push]
    by_cases c : w0.heap.size = i
    · rw [if_pos c, if_pos (by rw [Array.size_push]; omega), if_pos c.symm]
    · rw [if_neg c, if_neg (Ne.symm c), if_neg (Ne.symm c)]
  show ({ w0 with heap := (w0.heap.push o).setIfInBounds w0.heap.size o' } : World) = { w0 with heap := w0.heap.push o' }
  rw [h]
theorem find_run (hk : P.underlying k = some .string) (w : World) (key : Value) (es : List MapEntry) (r : Option (Nat × Value)) (hf : Instr.findNow .string key es 0 = some r) :
    (Instr.findKey k key es).run P w = .ok r w := by
  simp [Instr.findKey, run_underlying hk, hf, Result.andThen]
theorem check_run (hk : P.underlying k = some .string) (w : World) (b : Bool) (s : ByteArray) : (Instr.checkKey b 10000 k (.string s)).run P w = .ok () w :=
  MapKept.run_checkKey hk (by trivial) b 9999
theorem put_new (ht : P.underlying t = some (.map k e)) (hk : P.underlying k = some .string) (w0 : World) (es : Array MapEntry) (clock : Nat) (key : ByteArray) (v : Value)
    (hf : Instr.findNow .string (.string key) es.toList 0 = some none) :
    (Instr.mapUpdate t (.map (some w0.heap.size)) (.string key) v).run P (w0.alloc (.map es clock)) = .ok () (w0.alloc (.map (es.push ⟨.string key, v, clock⟩) (clock + 1))) := by
  have h1 := heap_new_get w0 (.map es clock)
  have h2 := fun w => find_run (P := P) hk w (.string key) es.toList none hf
  simp [Instr.mapUpdate, run_underlying ht, MapKept.run_getObj_map h1, check_run hk, h2, MapKept.run_setObj_map _ h1, Result.andThen]
  exact heap_new_set w0 _ _
/-- What a look says. -/
def foundV (z : Value) : Option (Nat × Value) → Value
  | some (_, v) => v
  | none => z
theorem look_new (ht : P.underlying t = some (.map k e)) (hk : P.underlying k = some .string) (w0 : World) (es : Array MapEntry) (clock : Nat) (key : ByteArray) (z : Value) (hz : ∀ w, (zeroValue e).run P w = .ok z w) (r : Option (Nat × Value))
    (hf : Instr.findNow .string (.string key) es.toList 0 = some r) :
    (Instr.lookup t (.map (some w0.heap.size)) (.string key) true).run P (w0.alloc (.map es clock)) = .ok (.tuple #[foundV z r, .bool r.isSome]) (w0.alloc (.map es clock)) := by
  have h1 := heap_new_get w0 (.map es clock)
  have h2 := fun w => find_run (P := P) hk w (.string key) es.toList r hf
  cases r with
  | none => simp [Instr.lookup, run_underlying ht, MapKept.run_getObj_map h1, check_run hk, h2, hz, Result.andThen, foundV]
  | some r => simp [Instr.lookup, run_underlying ht, MapKept.run_getObj_map h1, check_run hk, h2, hz, Result.andThen, foundV]
end
end Go.Proofs.Ytgnjmejmngljjaa
