/- For rows that list the library's errors: what a world is that meets the list. -/
import Derived.Test.YtdhbgelijjlifaaDoorDoor
import Derived.Test.YtdhbgelijjlifaaDoorSrcReadC
import Derived.Stop.LaidErr
set_option linter.unusedVariables false
set_option linter.unusedSimpArgs false
namespace Go.Proofs.YtdhbgelijjlifaaDoor
open Go.ChangeShapes Go.WideShapes Go.ChangeAt Go.RowKit Go.Joins

theorem laid_iface {P : Program} {n nm : String} {d : DataW Unit} {r : List (String × DataW Unit)} {W : World} {g : Nat} {ti : TypeId} {ms : Array (String × TypeId)}
    (h : laidMet P ((n, .iface nm d) :: r) W) (hg : P.globalNamed n = some g) (ht : (P.globals[g]?).map (·.type) = some ti) (hi : P.underlying ti = some (.interface ms)) :
    ∃ u v, W.cell? ⟨g, 0, none⟩ = some (.iface u v) := by
  obtain ⟨ps, ⟨g0, t0, cs0, f0, p0, q0, hg0, ht0, hv0, hd0, _, e0⟩, _, hrows⟩ := h
  obtain rfl := Option.some.inj (hg.symm.trans hg0)
  obtain rfl := Option.some.inj (ht.symm.trans ht0)
  obtain ⟨l0⟩ := cs0
  obtain ⟨f1, u, v, h9, hn, h1⟩ := iface_of_trod hi hd0
  simp only at h9
  subst h9
  exact ⟨u, v, by simpa using World.var?_cell hg hv0 0⟩
theorem goodw_of {W : World} (hsh : W.ShapedOpen Tryd.prog) {na nb : String} {da db : DataW Unit} {r : List (String × DataW Unit)} (hL : laidMet Tryd.prog (("strconv.ErrRange", .iface na da) :: ("strconv.ErrSyntax", .iface nb db) :: r) W) : GoodW W := by
  obtain ⟨u1, v1, h1⟩ := laid_iface (g := 4) (ti := 84) hL (by kernel_rfl) (by kernel_rfl) Tryd.underlying84
  obtain ⟨u2, v2, h2⟩ := laid_iface (g := 3) (ti := 84) hL.tail (by kernel_rfl) (by kernel_rfl) Tryd.underlying84
  exact ⟨maxl_of hsh, ⟨_, h2, .inr ⟨_, _, rfl⟩⟩, _, h1, .inr ⟨_, _, rfl⟩⟩
end Go.Proofs.YtdhbgelijjlifaaDoor
