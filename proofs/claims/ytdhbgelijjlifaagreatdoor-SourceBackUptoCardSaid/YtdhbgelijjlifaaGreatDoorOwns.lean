/- A world behind another one: blocks may have been made, nothing that was there has turned. Small laws for the walk, and for regions whose calls make memory. -/
import Derived.WalkKit
import Derived.Deep.QuietTactic
import Derived.BigQuiet
import Derived.Lib.Hide
import Derived.WalkSpells
import Derived.WalkLawsBesides
set_option linter.unusedVariables false
set_option linter.unusedSimpArgs false
namespace Go.Proofs.YtdhbgelijjlifaaGreatDoor
open Go Go.RowKit
def Ext (w w' : World) : Prop := Below w.heap.size w w'
theorem Ext.refl (w : World) : Ext w w := Below.refl _ _
theorem Ext.trans {a b c : World} (h : Ext a b) (k : Ext b c) : Ext a c := Below.trans h (Below.mono k (Below.size h))
theorem Ext.alloc {a w : World} (h : Ext a w) (o : Obj) : Ext a (w.alloc o) := Below.alloc h (Below.size h) o
theorem Ext.drew {a w : World} (h : Ext a w) : Ext a w.drew := Below.drew h
theorem Ext.drewN {a w : World} (h : Ext a w) (n : Nat) : Ext a (w.drewN n) := ⟨h.os, h.tape, h.output, h.size, h.block⟩
theorem Ext.setCell {a w : World} (h : Ext a w) {p : Addr} (hp : a.heap.size ≤ p.block) (u : Value) : Ext a (w.setCell p u) := Below.setCell h hp u
structure Past (w : World) where
 x : World
 hb : Ext w x
instance (w : World) : Nonempty (Past w) := ⟨⟨w, Ext.refl w⟩⟩
theorem Ext.past {a w : World} (h : Ext a w) (y : Past w) : Ext a y.x := h.trans y.hb
def Past.of {w w' : World} (h : Ext w w') : Past w := ⟨w', h⟩
class InW (n : Nat) (w : World) : Prop where
 lt : n < w.heap.size
instance (w : World) (o : Obj) : InW w.heap.size (w.alloc o) := ⟨by simp⟩
instance (w : World) (o o1 : Obj) : InW (w.heap.size + 1) ((w.alloc o).alloc o1) := ⟨by simp⟩
instance (w : World) (o o1 o2 : Obj) : InW (w.heap.size + 2) (((w.alloc o).alloc o1).alloc o2) := ⟨by simp⟩
instance (w : World) (o o1 o2 o3 : Obj) : InW (w.heap.size + 3) ((((w.alloc o).alloc o1).alloc o2).alloc o3) := ⟨by simp⟩
instance (w : World) (o o1 o2 o3 o4 : Obj) : InW (w.heap.size + 4) (((((w.alloc o).alloc o1).alloc o2).alloc o3).alloc o4) := ⟨by simp⟩
instance {n : Nat} {w : World} [h : InW n w] (o : Obj) : InW n (w.alloc o) := ⟨by have := h.lt; simp; omega⟩
instance {n : Nat} {w : World} [h : InW n w] (y : Past w) : InW n y.x := ⟨Nat.lt_of_lt_of_le h.lt (Below.size y.hb)⟩
instance {n : Nat} {w : World} [h : InW n w] (a : Addr) (v : Value) : InW n (w.setCell a v) := ⟨by have := h.lt; simpa using this⟩
instance {n : Nat} {w : World} [h : InW n w] : InW n w.drew := ⟨h.lt⟩
instance {n : Nat} {w : World} [h : InW n w] (k : Nat) : InW n (w.drewN k) := ⟨h.lt⟩
section
variable {w : World} (y : Past w)
@[simp, go_sem] theorem Past.cell? (n i : Nat) [h : InW n w] : y.x.cell? ⟨n, i, none⟩ = w.cell? ⟨n, i, none⟩ := Below.cell (p := ⟨n, i, none⟩) y.hb h.lt
@[simp, go_sem] theorem Past.frozen? (n i : Nat) [h : InW n w] : y.x.frozen? ⟨n, i, none⟩ = w.frozen? ⟨n, i, none⟩ := Below.frozen (p := ⟨n, i, none⟩) y.hb h.lt
theorem Past.le : w.heap.size ≤ y.x.heap.size := Below.size y.hb
@[simp, go_sem] theorem Past.shape? (n : Nat) [h : InW n w] : y.x.shape? n = w.shape? n := by
 unfold World.shape?; rw [y.hb.block n h.lt]
@[go_sem] theorem cell_alloc_in (o : Obj) (n i : Nat) [h : InW n w] : (w.alloc o).cell? ⟨n, i, none⟩ = w.cell? ⟨n, i, none⟩ := World.cell?_alloc_past o n i h.lt
@[go_sem] theorem frozen_alloc_in (o : Obj) (n i : Nat) [h : InW n w] : (w.alloc o).frozen? ⟨n, i, none⟩ = w.frozen? ⟨n, i, none⟩ := World.frozen?_alloc_past o n i h.lt
@[go_sem] theorem set_alloc_in (o : Obj) (n i : Nat) (v : Value) [h : InW n w] : (w.alloc o).setCell ⟨n, i, none⟩ v = (w.setCell ⟨n, i, none⟩ v).alloc o := World.setCell_alloc_past o n i v h.lt
end
def Past.set {w : World} (y : Past w) (n i : Nat) (v : Value) [InW n w] : Past (w.setCell ⟨n, i, none⟩ v) := ⟨y.x.setCell ⟨n, i, none⟩ v, by
 have hb := y.hb
 refine ⟨hb.os, hb.tape, hb.output, by simpa [World.setCell] using Below.size hb, fun k hk => ?_⟩
 have hk' : k < w.heap.size := by simpa [World.setCell] using hk
 simp only [World.setCell, Array.getElem?_modify, hb.block k hk']⟩
@[go_sem] theorem Past.set_x {w : World} (y : Past w) (n i : Nat) (v : Value) [InW n w] : y.x.setCell ⟨n, i, none⟩ v = (y.set n i v).x := rfl
class ExtC (w w' : World) : Prop where
 ext : Ext w w'
class GeW (w : World) (n : Nat) : Prop where
 ge : w.heap.size ≤ n
instance (w : World) : ExtC w w := ⟨Ext.refl w⟩
instance {a w : World} [h : ExtC a w] (o : Obj) : ExtC a (w.alloc o) := ⟨h.ext.alloc o⟩
instance {a w : World} [h : ExtC a w] (y : Past w) : ExtC a y.x := ⟨h.ext.past y⟩
instance {a w : World} [h : ExtC a w] : ExtC a w.drew := ⟨h.ext.drew⟩
instance {a w : World} [h : ExtC a w] (k : Nat) : ExtC a (w.drewN k) := ⟨h.ext.drewN k⟩
instance {a w : World} [h : ExtC a w] : GeW a w.heap.size := ⟨Below.size h.ext⟩
instance {a w : World} [h : ExtC a w] (k : Nat) : GeW a (w.heap.size + k) := ⟨Nat.le_trans (Below.size h.ext) (Nat.le_add_right _ _)⟩
instance {a w : World} {n i : Nat} {v : Value} [h : ExtC a w] [k : GeW a n] : ExtC a (w.setCell ⟨n, i, none⟩ v) := ⟨h.ext.setCell k.ge v⟩
theorem done {w w' : World} [h : ExtC w w'] : ∃ y : Past w, w' = y.x := ⟨⟨w', h.ext⟩, rfl⟩
theorem isext {w w' : World} [h : ExtC w w'] : Ext w w' := h.ext
@[go_sem] theorem cell_set_at {w : World} (n i : Nat) (v : Value) (h : (w.cell? ⟨n, i, none⟩).isSome = true) : (w.setCell ⟨n, i, none⟩ v).cell? ⟨n, i, none⟩ = some v := by
 obtain ⟨u, hu⟩ := Option.isSome_iff_exists.1 h
 exact World.cell?_setCell_same w _ v hu
theorem Past.calls {P : Program} {f : FuncId} {args : Array Value} {w : World} {y : Past w} {v : Value}
 (h : Calls P f args y.x fun e w' => e = .returned v ∧ Ext y.x w') : Calls P f args y.x fun e w'' => e = .returned v ∧ ∃ z : Past w, w'' = z.x :=
 h.mono fun _ w' ⟨he, hx⟩ => ⟨he, ⟨w', y.hb.trans hx⟩, rfl⟩
theorem wp_region_past {P : Program} {id : Nat} {Q : Exit → Act → World → Prop} {a : Act} {w : World} {l : List Oper} (hm : P.follows .mixedOrders = true) (hB : Region.lexB .any l.toArray = true)
 (h : wpQuiet P l.toArray (fun w' => ∃ y : Past w, w' = y.x) (fun a' => ∀ y : Past w, Q .normal a' y.x) l a) : (Code.region id l.toArray true).wp P Q a w := by
 refine wp_region_quiet (C := fun w' => ∃ y : Past w, w' = y.x) hm hB ⟨⟨w.drew, Ext.drew (Ext.refl w)⟩, rfl⟩ ?_
 have hq : (fun a' => ∀ y : Past w, Q .normal a' y.x) = (fun a' => ∀ w', (∃ y : Past w, w' = y.x) → Q .normal a' w') := by
  funext a'
  apply propext
  constructor
  · rintro h _ ⟨y, rfl⟩; exact h y
  · intro h y; exact h _ ⟨y, rfl⟩
 rw [← hq]
 simpa using h
theorem wp_region_past1 {P : Program} {id : Nat} {Q : Exit → Act → World → Prop} {a : Act} {w : World} {y : Past w} {l : List Oper} (hm : P.follows .mixedOrders = true) (hB : Region.lexB .any l.toArray = true)
 (h : wpQuiet P l.toArray (fun w' => ∃ y : Past w, w' = y.x) (fun a' => ∀ y : Past w, Q .normal a' y.x) l a) : (Code.region id l.toArray true).wp P Q a y.x := by
 refine wp_region_quiet (C := fun w' => ∃ y : Past w, w' = y.x) hm hB ⟨⟨y.x.drew, Ext.drew y.hb⟩, rfl⟩ ?_
 have hq : (fun a' => ∀ y : Past w, Q .normal a' y.x) = (fun a' => ∀ w', (∃ y : Past w, w' = y.x) → Q .normal a' w') := by
  funext a'
  apply propext
  constructor
  · rintro h _ ⟨y, rfl⟩; exact h y
  · intro h y; exact h _ ⟨y, rfl⟩
 rw [← hq]
 simpa using h
def Rets (P : Program) (f : FuncId) (args : Array Value) (w : World) (v : Value) : Prop := Calls P f args w fun e w' => e = .returned v ∧ ∃ y : Past w, w' = y.x
theorem Rets.use {P : Program} {f : FuncId} {args : Array Value} {w : World} {v : Value} {R : Ending → World → Prop} (h : Rets P f args w v) (k : ∀ y : Past w, R (.returned v) y.x) : Calls P f args w R :=
 Calls.mono h (by rintro _ _ ⟨rfl, y, rfl⟩; exact k y)
theorem Rets.use1 {P : Program} {f : FuncId} {args : Array Value} {w : World} {y : Past w} {v : Value} {R : Ending → World → Prop} (h : Rets P f args y.x v) (k : ∀ z : Past w, R (.returned v) z.x) : Calls P f args y.x R :=
 Calls.mono h (by rintro _ _ ⟨rfl, z, rfl⟩; exact k ⟨z.x, y.hb.trans z.hb⟩)
theorem Rets.quiet {P : Program} {f : FuncId} {args : Array Value} {w : World} {y : Past w} {v : Value} (h : Rets P f args y.x v) : Calls P f args y.x fun e w'' => e = .returned v ∧ ∃ z : Past w, w'' = z.x :=
 Calls.mono h (by rintro e _ ⟨he, z, rfl⟩; exact ⟨he, ⟨z.x, y.hb.trans z.hb⟩, rfl⟩)
theorem fin {w w' : World} (h : Ext w w') : ∃ y : Past w, w' = y.x := ⟨⟨w', h⟩, rfl⟩
theorem ret_bool {a b : Bool} (h : a = b) : Ending.returned (.bool a) = .returned (.bool b) := by rw [h]
theorem ret_int {k : IntKind} {a b : Int} (h : a = b) : Ending.returned (.int k a) = .returned (.int k b) := by rw [h]
end Go.Proofs.YtdhbgelijjlifaaGreatDoor
namespace Go.Proofs.YtdhbgelijjlifaaGreatDoor
open Go Go.RowKit
def Reads (w : World) (v : Value) (k : Nat) (cs : List Value) : Prop :=
 (∃ a cap, v = .slice a 0 cap ∧ k = 0 ∧ cs = []) ∨
 ∃ b off cap, v = .slice (some ⟨b, off, none⟩) k cap ∧ k ≤ cap ∧ cap ≤ maxLen ∧ b < w.heap.size ∧ ∀ i u, cs[i]? = some u → w.cell? ⟨b, off + i, none⟩ = some u
theorem Reads.nil (w : World) : Reads w (.slice none 0 0) 0 [] := .inl ⟨none, 0, rfl, rfl, rfl⟩
theorem Reads.ext {w w' : World} {v : Value} {k : Nat} {cs : List Value} (h : Reads w v k cs) (hx : Ext w w') : Reads w' v k cs := by
 rcases h with h | ⟨b, off, cap, hv, h1, h2, hb, hc⟩
 · exact .inl h
 · exact .inr ⟨b, off, cap, hv, h1, h2, Nat.lt_of_lt_of_le hb (Below.size hx), fun i u hu => (Below.cell (p := ⟨b, off + i, none⟩) hx hb).trans (hc i u hu)⟩
theorem Reads.past {w : World} {v : Value} {k : Nat} {cs : List Value} (h : Reads w v k cs) (y : Past w) : Reads y.x v k cs := h.ext y.hb
end Go.Proofs.YtdhbgelijjlifaaGreatDoor
namespace Go.Proofs.YtdhbgelijjlifaaGreatDoor
open Go Go.RowKit
class OwnsC (w : World) (base : Nat) (e : TypeId) (size : Nat) (v : Value) (n : Nat) (xs : List Value) : Prop where
 own : w.ownsRow base e size v n xs
theorem grown_of_ext {w w' : World} (h : Ext w w') : w.grownBy w' none := ⟨h.os, h.tape, h.output, h.size, fun k hk _ => h.block k hk⟩
section
variable {w : World} {base : Nat} {e : TypeId} {size : Nat} {v : Value} {n : Nat} {xs : List Value}
instance [h : OwnsC w base e size v n xs] (o : Obj) : OwnsC (w.alloc o) base e size v n xs := ⟨h.own.alloc o⟩
instance [h : OwnsC w base e size v n xs] (y : Past w) : OwnsC y.x base e size v n xs :=
 ⟨h.own.kept (grown_of_ext y.hb) (by cases hv : v.ownBlock <;> simp)⟩
theorem owns_set (h : w.ownsRow base e size v n xs) (o : Obj) (i : Nat) (u : Value) : ((w.alloc o).setCell ⟨w.heap.size, i, none⟩ u).ownsRow base e size v n xs := by
 refine h.kept (row := none) ⟨rfl, rfl, rfl, by rw [World.size_setCell, World.size_alloc]; omega, fun k hk _ => ?_⟩ (by cases hv : v.ownBlock <;> simp)
 rw [Below.heap_setCell _ _ _ _ (by show k ≠ w.heap.size; omega), Below.heap_alloc _ _ _ hk]
instance [h : OwnsC w base e size v n xs] (o : Obj) (i : Nat) (u : Value) : OwnsC ((w.alloc o).setCell ⟨w.heap.size, i, none⟩ u) base e size v n xs := ⟨owns_set h.own o i u⟩
theorem owns_shape (h : w.ownsRow base e size v n xs) : ∃ a cap, v = .slice a n cap := by
 rcases h.2 with ⟨rfl, rfl⟩ | ⟨g, cap, _, rfl, _⟩
 · exact ⟨none, 0, rfl⟩
 · exact ⟨_, cap, rfl⟩
theorem owns_reads (h : w.ownsRow base e size v n xs) (hz : size ≠ 0) : Reads w v n xs := by
 have hlt := h.lt
 have hc := @World.ownsRow.cells _ _ _ _ _ _ _ h
 have hl := h.1
 rcases h.2 with ⟨rfl, rfl⟩ | ⟨g, cap, cur, rfl, _, _, h1, h2, _⟩
 · refine .inl ⟨none, 0, rfl, rfl, ?_⟩
   simpa using hl
 · refine .inr ⟨g, 0, cap, rfl, h1, h2, (hlt g rfl).2, fun i u hu => ?_⟩
   have := hc rfl i u hu
   have hadd : (⟨g, 0, none⟩ : Addr).add i = ⟨g, 0 + i, none⟩ := by unfold Addr.add; split <;> simp_all
   rw [hadd] at this
   exact this
theorem Ext.grown {a w w' : World} {e : TypeId} {size n : Nat} {v : Value} {xs : List Value} (h : Ext a w) (hown : w.ownsRow a.heap.size e size v n xs) (hg : w.grownBy w' v.ownBlock) : Ext a w' :=
 Below.grown h hg (Below.size h) (fun k hk => (hown.lt k hk).1)
end
theorem new_cells (w : World) (l : List Value) (t : TypeId) : ∀ j u, l[j]? = some u → (w.alloc (.cells l.toArray t)).cell? ((⟨w.heap.size, 0, none⟩ : Addr).add j) = some u := by
 intro j u hu
 have hadd : (⟨w.heap.size, 0, none⟩ : Addr).add j = ⟨w.heap.size, j, none⟩ := by unfold Addr.add; split <;> simp_all
 rw [hadd]
 simp [World.cell?_alloc_new, hu]
theorem new_cells' (w : World) (l : List Value) (t : TypeId) (n : Nat) (hn : n = w.heap.size) : ∀ j u, l[j]? = some u → (w.alloc (.cells l.toArray t)).cell? ((⟨n, 0, none⟩ : Addr).add j) = some u := by
 subst hn; exact new_cells w l t
end Go.Proofs.YtdhbgelijjlifaaGreatDoor
