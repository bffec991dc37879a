/- For rows that list variables: the witness; the library's own variable in a world of the program's shape. -/
import Derived.Test.YtdhbgelijjlifaaGreatDoorFrame
import Derived.Test.YtdhbgelijjlifaaGreatDoorSrcWalkC
import Derived.Test.YtdhbgelijjlifaaGreatDoorCards
import Derived.Test.YtdhbgelijjlifaaGreatDoorTie
import Derived.Lay
import Derived.SevenTiedAt
import Derived.Deep.DeepHandedRow
import Derived.HandedShaped
import Derived.Shelf.Vars
import Derived.Test.YtdhbgelijjlifaaGreatDoorSrcReadC
import Derived.Stop.LaidErr
set_option linter.unusedVariables false
set_option linter.unusedSimpArgs false
namespace Go.Proofs.YtdhbgelijjlifaaGreatDoor
open Go.ChangeShapes Go.WideShapes Go.ChangeAt Go.RowKit Go.Joins
theorem door_witness {H : Type} {enc : TypeId × Value → H} {C : Checked} {os : Os} {f : FuncId} {fn : Func} {s : OpenSpec} {conds : List PathCond} {apart : Bool} {laid : List (String × DataW Unit)} (modest : Bool) (w0 : World) (args : Array Value) (hos : w0.os = os)
 (hsh : (w0.forCall (fun _ _ => 0) ⟨#[], args, []⟩).Shaped C.prog)
 (hok : Input.okWideB C.prog (w0.forCall (fun _ _ => 0) ⟨#[], args, []⟩) f ⟨#[], args, []⟩ = true)
 (hrow : s.preRow enc C.prog fn conds apart laid (w0.forCall (fun _ _ => 0) ⟨#[], args, []⟩).memory args) :
 ∃ (w : World) (tape : Tape) (i : Input), w.os = os ∧ (w.forCall tape i).Shaped C.prog ∧ i.vars = [] ∧ Input.okWide C.prog (w.forCall tape i) .any w.heap.size f i ∧
   s.preRow enc C.prog fn conds apart laid (w.forCall tape i).memory i.args ∧ ({ modest := modest } : Assume).holds C.prog (lone (Frame.enter C.prog f i.args .normal) [] (w.forCall tape i)) :=
 ⟨w0, fun _ _ => 0, ⟨#[], args, []⟩, hos, hsh, (Input.okWide_of_okWideB (base := 0) hok).1, (Input.okWide_of_okWideB hok).2, hrow, by
  simp only [Assume.holds]
  exact ⟨by simp, by simp, fun _ => Modest.zero, by simp, by simp⟩⟩
theorem maxl_of {W : World} (hsh : W.ShapedOpen Tryz.prog) : MaxL W :=
 cell_of_shapedOpen_int (P := Tryz.prog) (g := 0) (t := 3) (zero := #[.int .i64 0]) hsh (of_decide_eq_true (by kernel_rfl)) (by kernel_rfl) rfl (by kernel_rfl) (by kernel_rfl) Tryz.underlying3
end Go.Proofs.YtdhbgelijjlifaaGreatDoor
namespace Go.Proofs.YtdhbgelijjlifaaGreatDoor
open Go.ChangeShapes Go.WideShapes Go.ChangeAt Go.RowKit Go.Joins
theorem laid_iface {P : Program} {n nm : String} {d : DataW Unit} {r : List (String × DataW Unit)} {W : World} {g : Nat} {ti : TypeId} {ms : Array (String × TypeId)}
 (h : laidMet P ((n, .iface nm d) :: r) W) (hg : P.globalNamed n = some g) (ht : (P.globals[g]?).map (·.type) = some ti) (hi : P.underlying ti = some (.interface ms)) :
 ∃ u v, W.cell? ⟨g, 0, none⟩ = some (.iface u v) := by
 obtain ⟨ps, ⟨g0, t0, cs0, f0, p0, q0, hg0, ht0, hv0, hd0, _, e0⟩, _, hrows⟩ := h
 obtain rfl := Option.some.inj (hg.symm.trans hg0)
 obtain rfl := Option.some.inj (ht.symm.trans ht0)
 obtain ⟨l0⟩ := cs0
 obtain ⟨f1, u, v, h9, hn, h1⟩ := iface_of_trod hi hd0
 simp only at h9
 subst h9
 exact ⟨u, v, by simpa using World.var?_cell hg hv0 0⟩
theorem goodw_of {W : World} (hsh : W.ShapedOpen Tryz.prog) {na nb : String} {da db : DataW Unit} {r : List (String × DataW Unit)} (hL : laidMet Tryz.prog (("strconv.ErrRange", .iface na da) :: ("strconv.ErrSyntax", .iface nb db) :: r) W) : GoodW W := by
 obtain ⟨u1, v1, h1⟩ := laid_iface (g := 5) (ti := 75) hL (by kernel_rfl) (by kernel_rfl) Tryz.underlying75
 obtain ⟨u2, v2, h2⟩ := laid_iface (g := 4) (ti := 75) hL.tail (by kernel_rfl) (by kernel_rfl) Tryz.underlying75
 exact ⟨maxl_of hsh, ⟨_, h2, .inr ⟨_, _, rfl⟩⟩, _, h1, .inr ⟨_, _, rfl⟩⟩
end Go.Proofs.YtdhbgelijjlifaaGreatDoor
