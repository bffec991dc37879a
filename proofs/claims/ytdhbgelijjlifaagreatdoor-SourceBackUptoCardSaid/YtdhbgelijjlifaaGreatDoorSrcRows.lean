/- Arguments of nested structs, with a bound on what they hold: each leaf reads by itself, and holds no more than the whole. -/
import Derived.Test.YtdhbgelijjlifaaGreatDoorLeaves
import Derived.Test.YtdhbgelijjlifaaGreatDoorRows
import Derived.Test.YtdhbgelijjlifaaGreatDoorSrcWalkD
set_option linter.unusedVariables false
set_option linter.unusedSimpArgs false
namespace Go.Proofs.YtdhbgelijjlifaaGreatDoor
open Go.ChangeShapes Go.WideShapes Go.ChangeAt Go.RowKit Go.Joins Go.Deep

theorem bulk_part {H : Type} {d : DataW H} {l : List (DataW H)} (h : d ∈ l) : Rows.uptoBulk d ≤ Rows.uptoBulkAll l := by
  induction l with
  | nil => cases h
  | cons x r ih =>
    simp only [Rows.uptoBulkAll]
    cases List.mem_cons.1 h with
    | inl e => subst e; omega
    | inr e => have := ih e; omega
theorem bulk_string {H : Type} (bytes : List UInt8) : Rows.uptoBulk (DataW.lit (H := H) (.string bytes)) = bytes.length + 1 := by
  simp [Rows.uptoBulk]
section
variable {H : Type} {enc : TypeId × Value → H} {P : Program} {w : World} {base : Nat} {spare : Nat → Bool} {held : Bool}
/-- Each leaf reads by itself, and holds no more than so much. -/
def LeafReadB (B : Nat) (enc : TypeId × Value → H) (P : Program) (w : World) (base : Nat) (spare : Nat → Bool) (held : Bool) (cs : List Value) (l : List TypeId) : Prop :=
  ∀ j t', l[j]? = some t' → ∃ m y, DataW.trod enc P w base spare held m t' ((cs.drop j).take 1) = some y ∧ Rows.uptoBulk y.1 ≤ B
end
end Go.Proofs.YtdhbgelijjlifaaGreatDoor
set_option linter.unusedVariables false
set_option linter.unusedSimpArgs false
namespace Go.Proofs.YtdhbgelijjlifaaGreatDoor
open Go.ChangeShapes Go.WideShapes Go.ChangeAt Go.RowKit Go.Joins Go.Deep

section
variable {H : Type} {enc : TypeId × Value → H} {P : Program} {w : World} {base : Nat} {spare : Nat → Bool} {held : Bool}
/-- Leaves that are a number, a truth, a text. -/
theorem LeafReadB.int {B : Nat} {cs : List Value} {l : List TypeId} (h : LeafReadB B enc P w base spare held cs l) (j : Nat) (t' : TypeId) (k : IntKind) (hj : l[j]? = some t') (hu : P.underlying t' = some (.int k)) : ∃ a : Int, cs[j]? = some (.int k a) ∧ (Lit.int k a).wf = true := by
  obtain ⟨m, y, hy, _⟩ := h j t' hj
  obtain ⟨z, hz, _, hw⟩ := DataW.trod_int hu hy
  refine ⟨z, ?_, hw⟩
  have : ((cs.drop j).take 1)[0]? = some (.int k z) := by rw [hz]; rfl
  rwa [List.getElem?_take_of_lt (by omega), List.getElem?_drop] at this
theorem LeafReadB.bool {B : Nat} {cs : List Value} {l : List TypeId} (h : LeafReadB B enc P w base spare held cs l) (j : Nat) (t' : TypeId) (hj : l[j]? = some t') (hu : P.underlying t' = some .bool) : ∃ a : Bool, cs[j]? = some (.bool a) := by
  obtain ⟨m, y, hy, _⟩ := h j t' hj
  obtain ⟨z, hz, _⟩ := DataW.trod_bool hu hy
  refine ⟨z, ?_⟩
  have : ((cs.drop j).take 1)[0]? = some (.bool z) := by rw [hz]; rfl
  rwa [List.getElem?_take_of_lt (by omega), List.getElem?_drop] at this
theorem LeafReadB.one {B : Nat} {cs : List Value} {l : List TypeId} (h : LeafReadB B enc P w base spare held cs l) (j : Nat) (t' : TypeId) (hj : l[j]? = some t') (u : Value) (hu : cs[j]? = some u) : ∃ m y, DataW.trod enc P w base spare held m t' [u] = some y ∧ Rows.uptoBulk y.1 ≤ B := by
  obtain ⟨m, y, hy, hb⟩ := h j t' hj
  obtain ⟨hjl, e⟩ := List.getElem?_eq_some_iff.1 hu
  have : (cs.drop j).take 1 = [u] := by rw [List.drop_eq_getElem_cons hjl, e]; rfl
  rw [this] at hy
  exact ⟨m, y, hy, hb⟩
end
section
variable {H : Type} {enc : TypeId × Value → H} {w : World} {held : Bool}
end
set_option maxRecDepth 100000 in
theorem bulk_first {H : Type} {ds gs : List (DataW H)} {d : DataW H} (hk : Rows.uptoSmall H (ds ++ gs) = true) (h : d ∈ ds) : Rows.uptoBulk d ≤ 1048576 := by
  have h1 : Rows.uptoBulkAll (ds ++ gs) ≤ 1048576 := of_decide_eq_true hk
  exact Nat.le_trans (bulk_part (List.mem_append.2 (.inl h))) h1
theorem str_small {H : Type} {a : ByteArray} (h : Rows.uptoBulk (DataW.lit (H := H) (.string a.data.toList)) ≤ 1048576) : a.size ≤ 1048576 := by
  rw [bulk_string] at h
  have : a.data.toList.length = a.size := Array.length_toList
  omega
end Go.Proofs.YtdhbgelijjlifaaGreatDoor
