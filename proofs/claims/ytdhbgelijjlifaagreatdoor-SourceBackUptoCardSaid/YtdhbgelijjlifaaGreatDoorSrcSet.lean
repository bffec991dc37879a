/- Stores into a block of a world, made in a past world of it: what else lies there. -/
import Derived.Test.YtdhbgelijjlifaaGreatDoorSrcRdE
set_option linter.unusedVariables false
set_option linter.unusedSimpArgs false
namespace Go.Proofs.YtdhbgelijjlifaaGreatDoor
open Go.RowKit Go.Shelf
instance (priority := 2000) {w : World} {y : Past w} {n m i : Nat} {v : Value} [InW m w] [h : InW n y.x] : InW n (y.set m i v).x := ⟨by rw [Past.set_size]; exact h.lt⟩
@[go_sem] theorem Past.set_cell_other {w : World} (y : Past w) (n m i j : Nat) (v : Value) [InW m w] (h : ¬ n = m) : (y.set m i v).x.cell? ⟨n, j, none⟩ = y.x.cell? ⟨n, j, none⟩ := by
 show (y.x.setCell _ _).cell? _ = _
 apply World.cell?_setCell_other
 intro e; injection e with e; exact h e.symm
instance (priority := 2000) {a w : World} {y : Past w} {n i : Nat} {v : Value} [InW n w] [h : ExtC a y.x] [k : GeW a n] : ExtC a (y.set n i v).x := ⟨h.ext.setCell k.ge v⟩
instance {a : World} {n : Nat} [k : GeW a n] : GeW a (n + 1) := ⟨Nat.le_trans k.ge (Nat.le_add_right _ _)⟩
instance {a : World} {n : Nat} {o : Obj} [k : GeW a n] : GeW (a.alloc o) (n + 1) := ⟨by have := k.ge; simp; omega⟩
@[go_sem] theorem Past.set_frozen {w : World} (y : Past w) (m i : Nat) (a : Addr) (v : Value) [InW m w] : (y.set m i v).x.frozen? a = y.x.frozen? a := by
 show (y.x.setCell _ _).frozen? _ = _
 exact World.frozen?_setCell ..
end Go.Proofs.YtdhbgelijjlifaaGreatDoor
