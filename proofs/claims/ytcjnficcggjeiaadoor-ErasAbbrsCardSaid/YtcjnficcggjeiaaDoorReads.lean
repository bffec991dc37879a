/- A slice that reads as a list, in whatever memory. -/
import Derived.Test.YtcjnficcggjeiaaDoorPast
set_option linter.unusedVariables false
set_option linter.unusedSimpArgs false
namespace Go.Proofs.YtcjnficcggjeiaaDoor
open Go Go.RowKit

/-- v is a slice of k elements whose cells, one behind the other, are cs. -/
def Reads (w : World) (v : Value) (k : Nat) (cs : List Value) : Prop :=
  (∃ a cap, v = .slice a 0 cap ∧ k = 0 ∧ cs = []) ∨
  ∃ b off cap, v = .slice (some ⟨b, off, none⟩) k cap ∧ k ≤ cap ∧ cap ≤ maxLen ∧ b < w.heap.size ∧ ∀ i u, cs[i]? = some u → w.cell? ⟨b, off + i, none⟩ = some u
theorem Reads.nil (w : World) : Reads w (.slice none 0 0) 0 [] := .inl ⟨none, 0, rfl, rfl, rfl⟩
theorem Reads.ext {w w' : World} {v : Value} {k : Nat} {cs : List Value} (h : Reads w v k cs) (hx : Ext w w') : Reads w' v k cs := by
  rcases h with h | ⟨b, off, cap, hv, h1, h2, hb, hc⟩
  · exact .inl h
  · exact .inr ⟨b, off, cap, hv, h1, h2, Nat.lt_of_lt_of_le hb (Below.size hx), fun i u hu => (Below.cell (p := ⟨b, off + i, none⟩) hx hb).trans (hc i u hu)⟩
theorem Reads.past {w : World} {v : Value} {k : Nat} {cs : List Value} (h : Reads w v k cs) (y : Past w) : Reads y.x v k cs := h.ext y.hb
end Go.Proofs.YtcjnficcggjeiaaDoor
