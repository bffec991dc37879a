/- Arguments that are slices, opened as lists that read. -/
import Derived.Test.YtdhbgelijjlifaaGreatDoorFrame
import Derived.Test.YtdhbgelijjlifaaGreatDoorOwns
import Derived.SliceStrings
import Derived.Deep.Slices
import Derived.Deep.Fields
import Derived.ChangeSame
set_option linter.unusedVariables false
set_option linter.unusedSimpArgs false
namespace Go.Proofs.YtdhbgelijjlifaaGreatDoor
open Go.ChangeShapes Go.WideShapes Go.ChangeAt Go.RowKit Go.Joins
section
variable {H : Type} {enc : TypeId × Value → H} {P : Program} {w : World} {spare : Nat → Bool} {held : Bool}
end
end Go.Proofs.YtdhbgelijjlifaaGreatDoor
namespace Go.Proofs.YtdhbgelijjlifaaGreatDoor
open Go.ChangeShapes Go.WideShapes Go.ChangeAt Go.RowKit Go.Joins Go.Deep
def fieldLeaves (lv : TypeId → Option (List TypeId)) (P : Program) : List Field → Nat → Option (List TypeId)
 | [], _ => some []
 | f :: fs, off => match lv f.type, fieldLeaves lv P fs (off + P.cellsOf f.type) with
   | some l, some r => if f.offset = off ∧ l.length = P.cellsOf f.type then some (l ++ r) else none
   | _, _ => none
def leaves (P : Program) : Nat → TypeId → Option (List TypeId)
 | 0, _ => none
 | n + 1, t => match P.underlying t with
   | some (.struct fs) => match fieldLeaves (leaves P n) P fs.toList 0 with
     | some l => if l.length = P.cellsOf t then some l else none
     | none => none
   | some (.int _) => if P.cellsOf t = 1 then some [t] else none
   | some .string => if P.cellsOf t = 1 then some [t] else none
   | some .bool => if P.cellsOf t = 1 then some [t] else none
   | some (.slice _) => if P.cellsOf t = 1 then some [t] else none
   | _ => none
section
variable {H : Type} {enc : TypeId × Value → H} {P : Program} {w : World} {base : Nat} {spare : Nat → Bool} {held : Bool}
def LeafRead (enc : TypeId × Value → H) (P : Program) (w : World) (base : Nat) (spare : Nat → Bool) (held : Bool) (cs : List Value) (l : List TypeId) : Prop :=
 ∀ j t', l[j]? = some t' → ∃ m y, DataW.trod enc P w base spare held m t' ((cs.drop j).take 1) = some y
theorem LeafRead.int {cs : List Value} {l : List TypeId} (h : LeafRead enc P w base spare held cs l) (j : Nat) (t' : TypeId) (k : IntKind) (hj : l[j]? = some t') (hu : P.underlying t' = some (.int k)) : ∃ a : Int, cs[j]? = some (.int k a) ∧ (Lit.int k a).wf = true := by
 obtain ⟨m, y, hy⟩ := h j t' hj
 obtain ⟨z, hz, _, hw⟩ := DataW.trod_int hu hy
 refine ⟨z, ?_, hw⟩
 have : ((cs.drop j).take 1)[0]? = some (.int k z) := by rw [hz]; rfl
 rwa [List.getElem?_take_of_lt (by omega), List.getElem?_drop] at this
end
end Go.Proofs.YtdhbgelijjlifaaGreatDoor
