/- Arguments that are slices, opened as lists that read. -/
import Derived.Test.YtdhbgelijjlifaaGreatDoorFrame
import Derived.Test.YtdhbgelijjlifaaGreatDoorOwns
import Derived.SliceStrings
import Derived.Deep.Slices
import Derived.Deep.Fields
import Derived.ChangeSame
set_option linter.unusedVariables false
set_option linter.unusedSimpArgs false
namespace Go.Proofs.YtdhbgelijjlifaaGreatDoor
open Go.ChangeShapes Go.WideShapes Go.ChangeAt Go.RowKit Go.Joins

section
variable {H : Type} {enc : TypeId × Value → H} {P : Program} {w : World} {spare : Nat → Bool} {held : Bool}
theorem spot_none {w : World} {a : Addr} {v : Value} (h : w.cell? a = some v) : a = ⟨a.block, a.off, none⟩ ∧ a.block < w.heap.size := by
  obtain ⟨b, o, s⟩ := a
  unfold World.cell? at h
  cases hk : w.heap[b]? with
  | none => simp [hk] at h
  | some x =>
    have hb := (Array.getElem?_eq_some_iff.1 hk).1
    cases s with
    | none => exact ⟨rfl, hb⟩
    | some s => cases x <;> simp [hk] at h
theorem add_plain (b o i : Nat) : (⟨b, o, none⟩ : Addr).add i = ⟨b, o + i, none⟩ := by unfold Addr.add; split <;> simp_all
theorem arg_strings {t e : TypeId} {v : Value} {d : DataW H} {p : List MemPlace} {r : Reach} {b0 : Nat} (ht : P.underlying t = some (.slice e)) (he : P.underlying e = some .string) (hc : P.cellsOf e = 1)
    (hval : Value.okWide P w r b0 t v) (h : DataW.Trod enc P w 0 (fun _ => true) held t v d p) :
    ∃ (l : List ByteArray) (n : Nat), l.length = n ∧ (∀ s ∈ l, s.size ≤ maxLen) ∧ Reads w v n (l.map Value.string) := by
  obtain ⟨a0, len, cap, rfl⟩ := okWide_slice ht hval
  obtain ⟨fuel, hf⟩ := h
  rcases open_strings ht he hc hf with ⟨hcs, _⟩ | ⟨a, len', cap', ss, hcs, _, hl, hm, hz, _, hcell, hsz⟩
  · simp [Value.cells] at hcs
    obtain ⟨rfl, rfl, rfl⟩ := hcs
    exact ⟨[], 0, rfl, by simp, Reads.nil w⟩
  · simp [Value.cells] at hcs
    obtain ⟨rfl, rfl, rfl⟩ := hcs
    simp only [if_true] at hz
    refine ⟨ss.take len, len, by rw [List.length_take]; omega, fun s hs => hsz s (List.mem_of_mem_take hs), ?_⟩
    by_cases h0 : len = 0
    · subst h0
      exact .inl ⟨some a, cap, rfl, rfl, by simp⟩
    · have h1 := hcell 0 (by omega)
      have ha : a.add 0 = a := by simp [Addr.add]
      rw [ha] at h1
      obtain ⟨e1, hb⟩ := spot_none h1
      refine .inr ⟨a.block, a.off, cap, by rw [← e1], hl, hm, hb, fun i u hu => ?_⟩
      rw [List.getElem?_map] at hu
      obtain ⟨s, hs, rfl⟩ := Option.map_eq_some_iff.1 hu
      rw [List.getElem?_take] at hs
      split at hs
      · rename_i hi
        have := hcell i (by omega)
        rw [e1, add_plain] at this
        rw [this, List.getD, hs]; rfl
      · cases hs
theorem arg_ints {t e : TypeId} {k : IntKind} {v : Value} {d : DataW H} {p : List MemPlace} {r : Reach} {b0 : Nat} (ht : P.underlying t = some (.slice e)) (he : P.underlying e = some (.int k)) (hc : P.cellsOf e = 1)
    (hval : Value.okWide P w r b0 t v) (h : DataW.Trod enc P w 0 (fun _ => true) held t v d p) :
    ∃ (l : List Int) (n : Nat), l.length = n ∧ (∀ x ∈ l, (Lit.int k x).wf = true) ∧ Reads w v n (l.map (Value.int k)) := by
  obtain ⟨a0, len, cap, rfl⟩ := okWide_slice ht hval
  obtain ⟨fuel, hf⟩ := h
  rcases open_ints ht he hc hf with ⟨hcs, _⟩ | ⟨a, len', cap', ss, hcs, _, hl, hm, hz, _, hcell, hsz⟩
  · simp [Value.cells] at hcs
    obtain ⟨rfl, rfl, rfl⟩ := hcs
    exact ⟨[], 0, rfl, by simp, Reads.nil w⟩
  · simp [Value.cells] at hcs
    obtain ⟨rfl, rfl, rfl⟩ := hcs
    simp only [if_true] at hz
    refine ⟨ss.take len, len, by rw [List.length_take]; omega, fun s hs => hsz s (List.mem_of_mem_take hs), ?_⟩
    by_cases h0 : len = 0
    · subst h0
      exact .inl ⟨some a, cap, rfl, rfl, by simp⟩
    · have h1 := hcell 0 (by omega)
      have ha : a.add 0 = a := by simp [Addr.add]
      rw [ha] at h1
      obtain ⟨e1, hb⟩ := spot_none h1
      refine .inr ⟨a.block, a.off, cap, by rw [← e1], hl, hm, hb, fun i u hu => ?_⟩
      rw [List.getElem?_map] at hu
      obtain ⟨s, hs, rfl⟩ := Option.map_eq_some_iff.1 hu
      rw [List.getElem?_take] at hs
      split at hs
      · rename_i hi
        have := hcell i (by omega)
        rw [e1, add_plain] at this
        rw [this, List.getD, hs]; rfl
      · cases hs
end
end Go.Proofs.YtdhbgelijjlifaaGreatDoor
set_option linter.unusedVariables false
set_option linter.unusedSimpArgs false
namespace Go.Proofs.YtdhbgelijjlifaaGreatDoor
open Go.ChangeShapes Go.WideShapes Go.ChangeAt Go.RowKit Go.Joins Go.Deep

/-- The leaves of some fields, if they stand one behind the other. -/
def fieldLeaves (lv : TypeId → Option (List TypeId)) (P : Program) : List Field → Nat → Option (List TypeId)
  | [], _ => some []
  | f :: fs, off => match lv f.type, fieldLeaves lv P fs (off + P.cellsOf f.type) with
    | some l, some r => if f.offset = off ∧ l.length = P.cellsOf f.type then some (l ++ r) else none
    | _, _ => none
def leaves (P : Program) : Nat → TypeId → Option (List TypeId)
  | 0, _ => none
  | n + 1, t => match P.underlying t with
    | some (.struct fs) => match fieldLeaves (leaves P n) P fs.toList 0 with
      | some l => if l.length = P.cellsOf t then some l else none
      | none => none
    | some (.int _) => if P.cellsOf t = 1 then some [t] else none
    | some .string => if P.cellsOf t = 1 then some [t] else none
    | some .bool => if P.cellsOf t = 1 then some [t] else none
    | some (.slice _) => if P.cellsOf t = 1 then some [t] else none
    | _ => none

section
variable {H : Type} {enc : TypeId × Value → H} {P : Program} {w : World} {base : Nat} {spare : Nat → Bool} {held : Bool}
/-- Each leaf reads by itself. -/
def LeafRead (enc : TypeId × Value → H) (P : Program) (w : World) (base : Nat) (spare : Nat → Bool) (held : Bool) (cs : List Value) (l : List TypeId) : Prop :=
  ∀ j t', l[j]? = some t' → ∃ m y, DataW.trod enc P w base spare held m t' ((cs.drop j).take 1) = some y
theorem fieldLeaves_read (lv : TypeId → Option (List TypeId)) (cs : List Value)
    (ih : ∀ t l m cs' x, lv t = some l → DataW.trod enc P w base spare held m t cs' = some x → LeafRead enc P w base spare held cs' l) :
    ∀ (fs : List Field) (off : Nat) (r : List TypeId), fieldLeaves lv P fs off = some r → (∀ f ∈ fs, ∃ m y, DataW.trod enc P w base spare held m f.type ((cs.drop f.offset).take (P.cellsOf f.type)) = some y) →
      ∀ j t', r[j]? = some t' → ∃ m y, DataW.trod enc P w base spare held m t' ((cs.drop (off + j)).take 1) = some y := by
  intro fs
  induction fs with
  | nil => intro off r h _ j t' hj; simp only [fieldLeaves, Option.some.injEq] at h; subst h; simp at hj
  | cons f fs ihf =>
    intro off r h hf j t' hj
    unfold fieldLeaves at h
    cases hl : lv f.type with
    | none => rw [hl] at h; cases h
    | some l =>
      cases hr : fieldLeaves lv P fs (off + P.cellsOf f.type) with
      | none => rw [hl, hr] at h; cases h
      | some r' =>
        rw [hl, hr] at h
        simp only at h
        split at h
        · rename_i hc
          injection h with h
          subst h
          obtain ⟨ho, hlen⟩ := hc
          by_cases hjl : j < l.length
          · rw [List.getElem?_append_left hjl] at hj
            obtain ⟨m, y, hy⟩ := hf f (by simp)
            obtain ⟨m', y', hy'⟩ := ih _ _ _ _ _ hl hy j t' hj
            refine ⟨m', y', ?_⟩
            rw [ho, List.drop_take, List.drop_drop, List.take_take, show min 1 (P.cellsOf f.type - j) = 1 by omega] at hy'
            exact hy'
          · rw [List.getElem?_append_right (by omega)] at hj
            obtain ⟨m, y, hy⟩ := ihf _ _ hr (fun g hg => hf g (by simp [hg])) (j - l.length) t' hj
            refine ⟨m, y, ?_⟩
            rw [show off + P.cellsOf f.type + (j - l.length) = off + j by omega] at hy
            exact hy
        · cases h
theorem leaves_read : ∀ (n : Nat) (t : TypeId) (l : List TypeId) (m : Nat) (cs : List Value) (x : DataW H × List MemPlace), leaves P n t = some l → DataW.trod enc P w base spare held m t cs = some x → LeafRead enc P w base spare held cs l := by
  intro n
  induction n with
  | zero => intro t l m cs x h; cases h
  | succ n ih =>
    intro t l m cs x h hx
    have one : ∀ (t : TypeId), (if P.cellsOf t = 1 then some [t] else none) = some l → DataW.trod enc P w base spare held m t cs = some x → cs.length = 1 → LeafRead enc P w base spare held cs l := by
      intro t h hx hl
      split at h
      · injection h with h
        subst h
        intro j t' hj
        cases j with
        | zero =>
          simp at hj
          subst hj
          refine ⟨m, x, ?_⟩
          rw [List.drop_zero, List.take_of_length_le (by omega)]; exact hx
        | succ j => simp at hj
      · cases h
    unfold leaves at h
    split at h
    · rename_i fs hu
      split at h
      · rename_i l' hl'
        split at h
        · injection h with h
          subst h
          obtain ⟨xs, n', _, _, _, hlen, hf⟩ := DataW.trod_struct hu hx
          intro j t' hj
          have := fieldLeaves_read (enc := enc) (w := w) (base := base) (spare := spare) (held := held) (leaves P n) cs (fun t l m cs' x h h' => ih t l m cs' x h h') fs.toList 0 l' hl' (fun f hfm => by
            obtain ⟨i, hi, e⟩ := List.getElem_of_mem hfm
            have hfi : fs[i]? = some f := by
              rw [← Array.getElem?_toList, List.getElem?_eq_getElem hi, e]
            have h1 := hf i f hfi
            have hxi : i < xs.length := by rw [hlen]; simpa using hi
            exact ⟨n', xs[i], h1.trans (List.getElem?_eq_getElem hxi)⟩) j t' hj
          rwa [Nat.zero_add] at this
        · cases h
      · cases h
    · rename_i k hu
      obtain ⟨z, hz, _⟩ := DataW.trod_int hu hx
      exact one t h hx (by rw [hz]; rfl)
    · rename_i hu
      obtain ⟨z, hz, _⟩ := DataW.trod_string hu hx
      exact one t h hx (by rw [hz]; rfl)
    · rename_i hu
      obtain ⟨z, hz, _⟩ := DataW.trod_bool hu hx
      exact one t h hx (by rw [hz]; rfl)
    · rename_i e hu
      have : cs.length = 1 := by
        rcases Go.Deep.open_slice hu hx with ⟨hz, _⟩ | ⟨_, _, _, _, _, _, _, hz, _⟩ <;> rw [hz] <;> rfl
      exact one t h hx this
    · cases h
/-- A leaf that is a number, or a text. -/
theorem LeafRead.int {cs : List Value} {l : List TypeId} (h : LeafRead enc P w base spare held cs l) (j : Nat) (t' : TypeId) (k : IntKind) (hj : l[j]? = some t') (hu : P.underlying t' = some (.int k)) : ∃ a : Int, cs[j]? = some (.int k a) ∧ (Lit.int k a).wf = true := by
  obtain ⟨m, y, hy⟩ := h j t' hj
  obtain ⟨z, hz, _, hw⟩ := DataW.trod_int hu hy
  refine ⟨z, ?_, hw⟩
  have : ((cs.drop j).take 1)[0]? = some (.int k z) := by rw [hz]; rfl
  rwa [List.getElem?_take_of_lt (by omega), List.getElem?_drop] at this
theorem LeafRead.str {cs : List Value} {l : List TypeId} (h : LeafRead enc P w base spare held cs l) (j : Nat) (t' : TypeId) (hj : l[j]? = some t') (hu : P.underlying t' = some .string) : ∃ s : ByteArray, cs[j]? = some (.string s) ∧ s.size ≤ maxLen := by
  obtain ⟨m, y, hy⟩ := h j t' hj
  obtain ⟨z, hz, _, hw⟩ := DataW.trod_string hu hy
  refine ⟨z, ?_, hw⟩
  have : ((cs.drop j).take 1)[0]? = some (.string z) := by rw [hz]; rfl
  rwa [List.getElem?_take_of_lt (by omega), List.getElem?_drop] at this
/-- An argument that is a slice: nothing, or elements each of which reads. -/
theorem arg_rows {t e : TypeId} {v : Value} {d : DataW H} {p : List MemPlace} {r : Reach} {b0 : Nat} (ht : P.underlying t = some (.slice e)) (c : Nat) (hc : P.cellsOf e = c) (hc0 : 0 < c)
    (hval : Value.okWide P w r b0 t v) (h : DataW.Trod enc P w 0 (fun _ => true) held t v d p) {α : Type} (cells : α → List Value) (good : α → Prop) (hlen : ∀ x, (cells x).length = c)
    (hel : ∀ m cs x, DataW.trod enc P w 0 (fun _ => true) held m e cs = some x → cs.length = c → ∃ a, cs = cells a ∧ good a) :
    ∃ (l : List α) (n : Nat), l.length = n ∧ (∀ a ∈ l, good a) ∧ ∀ row : List α → List Value, row [] = [] → (∀ x l, row (x :: l) = cells x ++ row l) → Reads w v n (row l) := by
  obtain ⟨a0, len, cap, rfl⟩ := okWide_slice ht hval
  obtain ⟨fuel, hf⟩ := h
  rcases Go.Deep.open_slice ht hf with ⟨hcs, _⟩ | ⟨a, len', cap', m, n, D, Pl, hcs, _, hl, hm, hmm, _, hi⟩
  · simp [Value.cells] at hcs
    obtain ⟨rfl, rfl, rfl⟩ := hcs
    exact ⟨[], 0, rfl, by simp, fun row h0 _ => by rw [h0]; exact Reads.nil w⟩
  · simp [Value.cells] at hcs
    obtain ⟨rfl, rfl, rfl⟩ := hcs
    simp only [if_true] at hmm
    have hk : ∀ i, i < len → ∃ x : α, good x ∧ w.cells? 0 (a.add (i * c)) c = some (cells x) := by
      intro i hil
      obtain ⟨cs', h1, h2⟩ := hi i (by omega)
      rw [hc] at h1
      obtain ⟨_, hcl, _⟩ := World.cells?_some h1
      obtain ⟨x, rfl, hg⟩ := hel _ _ _ h2 hcl
      exact ⟨x, hg, h1⟩
    have hlist : ∀ k, k ≤ len → ∃ l : List α, l.length = k ∧ (∀ x ∈ l, good x) ∧ ∀ i (hi : i < l.length), w.cells? 0 (a.add (i * c)) c = some (cells l[i]) := by
      intro k
      induction k with
      | zero => intro _; exact ⟨[], rfl, by simp, by simp⟩
      | succ k ih =>
        intro hk'
        obtain ⟨l, h1, h2, h3⟩ := ih (by omega)
        obtain ⟨x, hg, hx⟩ := hk k (by omega)
        refine ⟨l ++ [x], by simp [h1], ?_, ?_⟩
        · intro y hy
          rcases List.mem_append.1 hy with hy | hy
          · exact h2 y hy
          · simp at hy; subst hy; exact hg
        · intro i hi
          by_cases hil : i < l.length
          · rw [List.getElem_append_left hil]; exact h3 i hil
          · have : i = l.length := by simp at hi; omega
            subst this
            rw [List.getElem_concat_length (by rfl), h1]; exact hx
    obtain ⟨l, h1, h2, h3⟩ := hlist len (Nat.le_refl _)
    refine ⟨l, len, h1, h2, fun row r0 r1 => ?_⟩
    by_cases h0 : len = 0
    · subst h0
      obtain rfl := List.eq_nil_of_length_eq_zero h1
      exact .inl ⟨some a, cap, rfl, rfl, r0⟩
    · -- the place is a plain one
      have hat : ∀ i (hi : i < l.length) j, j < c → w.cell? (a.add (i * c + j)) = (cells l[i])[j]? := by
        intro i hi j hj
        obtain ⟨_, _, hcell⟩ := World.cells?_some (h3 i hi)
        have := hcell j hj
        rw [Go.Deep.add_add] at this
        exact this
      have hfirst := hat 0 (by omega) 0 hc0
      rw [Nat.zero_mul, Nat.zero_add] at hfirst
      have ha : a.add 0 = a := by simp [Addr.add]
      rw [ha] at hfirst
      have hsome : (cells l[0])[0]? = some ((cells l[0])[0]'(by rw [hlen]; exact hc0)) := List.getElem?_eq_getElem _
      rw [hsome] at hfirst
      obtain ⟨e1, hb⟩ := spot_none hfirst
      have hrow : ∀ (l' : List α) (i : Nat) (u : Value), (row l')[i]? = some u → i / c < l'.length ∧ ∀ (h : i / c < l'.length), (cells l'[i / c])[i % c]? = some u := by
        intro l'
        induction l' with
        | nil => intro i u hu; rw [r0] at hu; simp at hu
        | cons x l' ih =>
          intro i u hu
          rw [r1] at hu
          by_cases hic : i < c
          · rw [List.getElem?_append_left (by rw [hlen]; exact hic)] at hu
            rw [Nat.div_eq_of_lt hic, Nat.mod_eq_of_lt hic]
            exact ⟨by simp, fun _ => hu⟩
          · rw [List.getElem?_append_right (by rw [hlen]; omega), hlen] at hu
            obtain ⟨g1, g2⟩ := ih _ _ hu
            have e2 : i / c = (i - c) / c + 1 := by
              conv => lhs; rw [show i = (i - c) + c by omega]
              rw [Nat.add_div_right _ hc0]
            have e3 : i % c = (i - c) % c := by
              conv => lhs; rw [show i = (i - c) + c by omega]
              rw [Nat.add_mod_right]
            refine ⟨by rw [e2]; simpa using g1, fun hh => ?_⟩
            rw [e3]
            simp only [e2, List.getElem_cons_succ]
            exact g2 g1
      refine .inr ⟨a.block, a.off, cap, by rw [← e1], hl, hm, hb, fun i u hu => ?_⟩
      obtain ⟨g1, g2⟩ := hrow l i u hu
      have := hat (i / c) g1 (i % c) (Nat.mod_lt _ hc0)
      rw [g2 g1, show i / c * c + i % c = i by rw [Nat.mul_comm]; exact Nat.div_add_mod i c, e1, add_plain] at this
      exact this
end
end Go.Proofs.YtdhbgelijjlifaaGreatDoor
