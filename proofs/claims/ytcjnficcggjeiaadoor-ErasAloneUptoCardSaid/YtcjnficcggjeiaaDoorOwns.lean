/- A slice that reads as a list, in whatever memory. -/
import Derived.Test.YtcjnficcggjeiaaDoorPast
import Derived.WalkSpells
import Derived.WalkLawsBesides
set_option linter.unusedVariables false
set_option linter.unusedSimpArgs false
namespace Go.Proofs.YtcjnficcggjeiaaDoor
open Go Go.RowKit

/-- v is a slice of k elements whose cells, one behind the other, are cs. -/
def Reads (w : World) (v : Value) (k : Nat) (cs : List Value) : Prop :=
  (∃ a cap, v = .slice a 0 cap ∧ k = 0 ∧ cs = []) ∨
  ∃ b off cap, v = .slice (some ⟨b, off, none⟩) k cap ∧ k ≤ cap ∧ cap ≤ maxLen ∧ b < w.heap.size ∧ ∀ i u, cs[i]? = some u → w.cell? ⟨b, off + i, none⟩ = some u
theorem Reads.nil (w : World) : Reads w (.slice none 0 0) 0 [] := .inl ⟨none, 0, rfl, rfl, rfl⟩
theorem Reads.ext {w w' : World} {v : Value} {k : Nat} {cs : List Value} (h : Reads w v k cs) (hx : Ext w w') : Reads w' v k cs := by
  rcases h with h | ⟨b, off, cap, hv, h1, h2, hb, hc⟩
  · exact .inl h
  · exact .inr ⟨b, off, cap, hv, h1, h2, Nat.lt_of_lt_of_le hb (Below.size hx), fun i u hu => (Below.cell (p := ⟨b, off + i, none⟩) hx hb).trans (hc i u hu)⟩
theorem Reads.past {w : World} {v : Value} {k : Nat} {cs : List Value} (h : Reads w v k cs) (y : Past w) : Reads y.x v k cs := h.ext y.hb
end Go.Proofs.YtcjnficcggjeiaaDoor
set_option linter.unusedVariables false
set_option linter.unusedSimpArgs false
namespace Go.Proofs.YtcjnficcggjeiaaDoor
open Go Go.RowKit

class OwnsC (w : World) (base : Nat) (e : TypeId) (size : Nat) (v : Value) (n : Nat) (xs : List Value) : Prop where
  own : w.ownsRow base e size v n xs

theorem grown_of_ext {w w' : World} (h : Ext w w') : w.grownBy w' none := ⟨h.os, h.tape, h.output, h.size, fun k hk _ => h.block k hk⟩
section
variable {w : World} {base : Nat} {e : TypeId} {size : Nat} {v : Value} {n : Nat} {xs : List Value}
instance [h : OwnsC w base e size v n xs] (o : Obj) : OwnsC (w.alloc o) base e size v n xs := ⟨h.own.alloc o⟩
instance [h : OwnsC w base e size v n xs] (y : Past w) : OwnsC y.x base e size v n xs :=
  ⟨h.own.kept (grown_of_ext y.hb) (by cases hv : v.ownBlock <;> simp)⟩
theorem owns_set (h : w.ownsRow base e size v n xs) (o : Obj) (i : Nat) (u : Value) : ((w.alloc o).setCell ⟨w.heap.size, i, none⟩ u).ownsRow base e size v n xs := by
  refine h.kept (row := none) ⟨rfl, rfl, rfl, by rw [World.size_setCell, World.size_alloc]; omega, fun k hk _ => ?_⟩ (by cases hv : v.ownBlock <;> simp)
  rw [Below.heap_setCell _ _ _ _ (by show k ≠ w.heap.size; omega), Below.heap_alloc _ _ _ hk]
instance [h : OwnsC w base e size v n xs] (o : Obj) (i : Nat) (u : Value) : OwnsC ((w.alloc o).setCell ⟨w.heap.size, i, none⟩ u) base e size v n xs := ⟨owns_set h.own o i u⟩
theorem owns_shape (h : w.ownsRow base e size v n xs) : ∃ a cap, v = .slice a n cap := by
  rcases h.2 with ⟨rfl, rfl⟩ | ⟨g, cap, _, rfl, _⟩
  · exact ⟨none, 0, rfl⟩
  · exact ⟨_, cap, rfl⟩
theorem owns_reads (h : w.ownsRow base e size v n xs) (hz : size ≠ 0) : Reads w v n xs := by
  have hlt := h.lt
  have hc := @World.ownsRow.cells _ _ _ _ _ _ _ h
  have hl := h.1
  rcases h.2 with ⟨rfl, rfl⟩ | ⟨g, cap, cur, rfl, _, _, h1, h2, _⟩
  · refine .inl ⟨none, 0, rfl, rfl, ?_⟩
    simpa using hl
  · refine .inr ⟨g, 0, cap, rfl, h1, h2, (hlt g rfl).2, fun i u hu => ?_⟩
    have := hc rfl i u hu
    have hadd : (⟨g, 0, none⟩ : Addr).add i = ⟨g, 0 + i, none⟩ := by unfold Addr.add; split <;> simp_all
    rw [hadd] at this
    exact this
theorem Ext.grown {a w w' : World} {e : TypeId} {size n : Nat} {v : Value} {xs : List Value} (h : Ext a w) (hown : w.ownsRow a.heap.size e size v n xs) (hg : w.grownBy w' v.ownBlock) : Ext a w' :=
  Below.grown h hg (Below.size h) (fun k hk => (hown.lt k hk).1)
end
/-- The cells of a block that was just made. -/
theorem new_cells (w : World) (l : List Value) (t : TypeId) : ∀ j u, l[j]? = some u → (w.alloc (.cells l.toArray t)).cell? ((⟨w.heap.size, 0, none⟩ : Addr).add j) = some u := by
  intro j u hu
  have hadd : (⟨w.heap.size, 0, none⟩ : Addr).add j = ⟨w.heap.size, j, none⟩ := by unfold Addr.add; split <;> simp_all
  rw [hadd]
  simp [World.cell?_alloc_new, hu]
theorem new_cells' (w : World) (l : List Value) (t : TypeId) (n : Nat) (hn : n = w.heap.size) : ∀ j u, l[j]? = some u → (w.alloc (.cells l.toArray t)).cell? ((⟨n, 0, none⟩ : Addr).add j) = some u := by
  subst hn; exact new_cells w l t
end Go.Proofs.YtcjnficcggjeiaaDoor
