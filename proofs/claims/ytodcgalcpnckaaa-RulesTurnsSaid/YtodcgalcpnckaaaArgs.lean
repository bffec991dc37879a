/- Arguments that are slices, opened as lists that read. -/
import Derived.Test.YtodcgalcpnckaaaFrame
import Derived.Test.YtodcgalcpnckaaaReads
import Derived.SliceStrings
set_option linter.unusedVariables false
set_option linter.unusedSimpArgs false
namespace Go.Proofs.Ytodcgalcpnckaaa
open Go.ChangeShapes Go.WideShapes Go.ChangeAt Go.RowKit Go.Joins

section
variable {H : Type} {enc : TypeId × Value → H} {P : Program} {w : World} {spare : Nat → Bool} {held : Bool}
theorem spot_none {w : World} {a : Addr} {v : Value} (h : w.cell? a = some v) : a = ⟨a.block, a.off, none⟩ ∧ a.block < w.heap.size := by
  obtain ⟨b, o, s⟩ := a
  unfold World.cell? at h
  cases hk : w.heap[b]? with
  | none => simp [hk] at h
  | some x =>
    have hb := (Array.getElem?_eq_some_iff.1 hk).1
    cases s with
    | none => exact ⟨rfl, hb⟩
    | some s => cases x <;> simp [hk] at h
theorem add_plain (b o i : Nat) : (⟨b, o, none⟩ : Addr).add i = ⟨b, o + i, none⟩ := by unfold Addr.add; split <;> simp_all
theorem arg_strings {t e : TypeId} {v : Value} {d : DataW H} {p : List MemPlace} {r : Reach} {b0 : Nat} (ht : P.underlying t = some (.slice e)) (he : P.underlying e = some .string) (hc : P.cellsOf e = 1)
    (hval : Value.okWide P w r b0 t v) (h : DataW.Trod enc P w 0 (fun _ => true) held t v d p) :
    ∃ (l : List ByteArray) (n : Nat), l.length = n ∧ (∀ s ∈ l, s.size ≤ maxLen) ∧ Reads w v n (l.map Value.string) := by
  obtain ⟨a0, len, cap, rfl⟩ := okWide_slice ht hval
  obtain ⟨fuel, hf⟩ := h
  rcases open_strings ht he hc hf with ⟨hcs, _⟩ | ⟨a, len', cap', ss, hcs, _, hl, hm, hz, _, hcell, hsz⟩
  · simp [Value.cells] at hcs
    obtain ⟨rfl, rfl, rfl⟩ := hcs
    exact ⟨[], 0, rfl, by simp, Reads.nil w⟩
  · simp [Value.cells] at hcs
    obtain ⟨rfl, rfl, rfl⟩ := hcs
    simp only [if_true] at hz
    refine ⟨ss.take len, len, by rw [List.length_take]; omega, fun s hs => hsz s (List.mem_of_mem_take hs), ?_⟩
    by_cases h0 : len = 0
    · subst h0
      exact .inl ⟨some a, cap, rfl, rfl, by simp⟩
    · have h1 := hcell 0 (by omega)
      have ha : a.add 0 = a := by simp [Addr.add]
      rw [ha] at h1
      obtain ⟨e1, hb⟩ := spot_none h1
      refine .inr ⟨a.block, a.off, cap, by rw [← e1], hl, hm, hb, fun i u hu => ?_⟩
      rw [List.getElem?_map] at hu
      obtain ⟨s, hs, rfl⟩ := Option.map_eq_some_iff.1 hu
      rw [List.getElem?_take] at hs
      split at hs
      · rename_i hi
        have := hcell i (by omega)
        rw [e1, add_plain] at this
        rw [this, List.getD, hs]; rfl
      · cases hs
theorem arg_ints {t e : TypeId} {k : IntKind} {v : Value} {d : DataW H} {p : List MemPlace} {r : Reach} {b0 : Nat} (ht : P.underlying t = some (.slice e)) (he : P.underlying e = some (.int k)) (hc : P.cellsOf e = 1)
    (hval : Value.okWide P w r b0 t v) (h : DataW.Trod enc P w 0 (fun _ => true) held t v d p) :
    ∃ (l : List Int) (n : Nat), l.length = n ∧ (∀ x ∈ l, (Lit.int k x).wf = true) ∧ Reads w v n (l.map (Value.int k)) := by
  obtain ⟨a0, len, cap, rfl⟩ := okWide_slice ht hval
  obtain ⟨fuel, hf⟩ := h
  rcases open_ints ht he hc hf with ⟨hcs, _⟩ | ⟨a, len', cap', ss, hcs, _, hl, hm, hz, _, hcell, hsz⟩
  · simp [Value.cells] at hcs
    obtain ⟨rfl, rfl, rfl⟩ := hcs
    exact ⟨[], 0, rfl, by simp, Reads.nil w⟩
  · simp [Value.cells] at hcs
    obtain ⟨rfl, rfl, rfl⟩ := hcs
    simp only [if_true] at hz
    refine ⟨ss.take len, len, by rw [List.length_take]; omega, fun s hs => hsz s (List.mem_of_mem_take hs), ?_⟩
    by_cases h0 : len = 0
    · subst h0
      exact .inl ⟨some a, cap, rfl, rfl, by simp⟩
    · have h1 := hcell 0 (by omega)
      have ha : a.add 0 = a := by simp [Addr.add]
      rw [ha] at h1
      obtain ⟨e1, hb⟩ := spot_none h1
      refine .inr ⟨a.block, a.off, cap, by rw [← e1], hl, hm, hb, fun i u hu => ?_⟩
      rw [List.getElem?_map] at hu
      obtain ⟨s, hs, rfl⟩ := Option.map_eq_some_iff.1 hu
      rw [List.getElem?_take] at hs
      split at hs
      · rename_i hi
        have := hcell i (by omega)
        rw [e1, add_plain] at this
        rw [this, List.getD, hs]; rfl
      · cases hs
end
end Go.Proofs.Ytodcgalcpnckaaa
