/- Arguments of nested structs, with a bound on what they hold: each leaf reads by itself, and holds no more than the whole. -/
import Derived.Test.YtdhbgelijjlifaaGreatDoorLeaves
import Derived.Test.YtdhbgelijjlifaaGreatDoorRows
import Derived.Test.YtdhbgelijjlifaaGreatDoorSrcWalkD
set_option linter.unusedVariables false
set_option linter.unusedSimpArgs false
namespace Go.Proofs.YtdhbgelijjlifaaGreatDoor
open Go.ChangeShapes Go.WideShapes Go.ChangeAt Go.RowKit Go.Joins Go.Deep

theorem bulk_part {H : Type} {d : DataW H} {l : List (DataW H)} (h : d ∈ l) : Rows.uptoBulk d ≤ Rows.uptoBulkAll l := by
  induction l with
  | nil => cases h
  | cons x r ih =>
    simp only [Rows.uptoBulkAll]
    cases List.mem_cons.1 h with
    | inl e => subst e; omega
    | inr e => have := ih e; omega
theorem bulk_string {H : Type} (bytes : List UInt8) : Rows.uptoBulk (DataW.lit (H := H) (.string bytes)) = bytes.length + 1 := by
  simp [Rows.uptoBulk]
section
variable {H : Type} {enc : TypeId × Value → H} {P : Program} {w : World} {base : Nat} {spare : Nat → Bool} {held : Bool}
/-- Each leaf reads by itself, and holds no more than so much. -/
def LeafReadB (B : Nat) (enc : TypeId × Value → H) (P : Program) (w : World) (base : Nat) (spare : Nat → Bool) (held : Bool) (cs : List Value) (l : List TypeId) : Prop :=
  ∀ j t', l[j]? = some t' → ∃ m y, DataW.trod enc P w base spare held m t' ((cs.drop j).take 1) = some y ∧ Rows.uptoBulk y.1 ≤ B
theorem fieldLeaves_readB (B : Nat) (lv : TypeId → Option (List TypeId)) (cs : List Value)
    (ih : ∀ t l m cs' x, lv t = some l → DataW.trod enc P w base spare held m t cs' = some x → Rows.uptoBulk x.1 ≤ B → LeafReadB B enc P w base spare held cs' l) :
    ∀ (fs : List Field) (off : Nat) (r : List TypeId), fieldLeaves lv P fs off = some r → (∀ f ∈ fs, ∃ m y, DataW.trod enc P w base spare held m f.type ((cs.drop f.offset).take (P.cellsOf f.type)) = some y ∧ Rows.uptoBulk y.1 ≤ B) →
      ∀ j t', r[j]? = some t' → ∃ m y, DataW.trod enc P w base spare held m t' ((cs.drop (off + j)).take 1) = some y ∧ Rows.uptoBulk y.1 ≤ B := by
  intro fs
  induction fs with
  | nil => intro off r h _ j t' hj; simp only [fieldLeaves, Option.some.injEq] at h; subst h; simp at hj
  | cons f fs ihf =>
    intro off r h hf j t' hj
    unfold fieldLeaves at h
    cases hl : lv f.type with
    | none => rw [hl] at h; cases h
    | some l =>
      cases hr : fieldLeaves lv P fs (off + P.cellsOf f.type) with
      | none => rw [hl, hr] at h; cases h
      | some r' =>
        rw [hl, hr] at h
        simp only at h
        split at h
        · rename_i hc
          injection h with h
          subst h
          obtain ⟨ho, hlen⟩ := hc
          by_cases hjl : j < l.length
          · rw [List.getElem?_append_left hjl] at hj
            obtain ⟨m, y, hy, hb⟩ := hf f (by simp)
            obtain ⟨m', y', hy', hb'⟩ := ih _ _ _ _ _ hl hy hb j t' hj
            refine ⟨m', y', ?_, hb'⟩
            rw [ho, List.drop_take, List.drop_drop, List.take_take, show min 1 (P.cellsOf f.type - j) = 1 by omega] at hy'
            exact hy'
          · rw [List.getElem?_append_right (by omega)] at hj
            obtain ⟨m, y, hy, hb⟩ := ihf _ _ hr (fun g hg => hf g (by simp [hg])) (j - l.length) t' hj
            refine ⟨m, y, ?_, hb⟩
            rw [show off + P.cellsOf f.type + (j - l.length) = off + j by omega] at hy
            exact hy
        · cases h
theorem leaves_readB (B : Nat) : ∀ (n : Nat) (t : TypeId) (l : List TypeId) (m : Nat) (cs : List Value) (x : DataW H × List MemPlace), leaves P n t = some l → DataW.trod enc P w base spare held m t cs = some x → Rows.uptoBulk x.1 ≤ B → LeafReadB B enc P w base spare held cs l := by
  intro n
  induction n with
  | zero => intro t l m cs x h; cases h
  | succ n ih =>
    intro t l m cs x h hx hB
    have one : ∀ (t : TypeId), (if P.cellsOf t = 1 then some [t] else none) = some l → DataW.trod enc P w base spare held m t cs = some x → cs.length = 1 → LeafReadB B enc P w base spare held cs l := by
      intro t h hx hl
      split at h
      · injection h with h
        subst h
        intro j t' hj
        cases j with
        | zero =>
          simp at hj
          subst hj
          refine ⟨m, x, ?_, hB⟩
          rw [List.drop_zero, List.take_of_length_le (by omega)]; exact hx
        | succ j => simp at hj
      · cases h
    unfold leaves at h
    split at h
    · rename_i fs hu
      split at h
      · rename_i l' hl'
        split at h
        · injection h with h
          subst h
          obtain ⟨xs, n', _, he, _, hlen, hf⟩ := DataW.trod_struct hu hx
          have hparts : ∀ i (hi : i < xs.length), Rows.uptoBulk xs[i].1 ≤ B := fun i hi => by
            rw [he] at hB
            simp only [Rows.uptoBulk] at hB
            have := bulk_part (H := H) (d := xs[i].1) (l := xs.map (·.1)) (List.mem_map.2 ⟨xs[i], List.getElem_mem hi, rfl⟩)
            omega
          intro j t' hj
          have := fieldLeaves_readB (enc := enc) (w := w) (base := base) (spare := spare) (held := held) B (leaves P n) cs (fun t l m cs' x h h' hb => ih t l m cs' x h h' hb) fs.toList 0 l' hl' (fun f hfm => by
            obtain ⟨i, hi, e⟩ := List.getElem_of_mem hfm
            have hfi : fs[i]? = some f := by
              rw [← Array.getElem?_toList, List.getElem?_eq_getElem hi, e]
            have h1 := hf i f hfi
            have hxi : i < xs.length := by rw [hlen]; simpa using hi
            exact ⟨n', xs[i], h1.trans (List.getElem?_eq_getElem hxi), hparts i hxi⟩) j t' hj
          rwa [Nat.zero_add] at this
        · cases h
      · cases h
    · rename_i k hu
      obtain ⟨z, hz, _⟩ := DataW.trod_int hu hx
      exact one t h hx (by rw [hz]; rfl)
    · rename_i hu
      obtain ⟨z, hz, _⟩ := DataW.trod_string hu hx
      exact one t h hx (by rw [hz]; rfl)
    · rename_i hu
      obtain ⟨z, hz, _⟩ := DataW.trod_bool hu hx
      exact one t h hx (by rw [hz]; rfl)
    · rename_i e hu
      have : cs.length = 1 := by
        rcases Go.Deep.open_slice hu hx with ⟨hz, _⟩ | ⟨_, _, _, _, _, _, _, hz, _⟩ <;> rw [hz] <;> rfl
      exact one t h hx this
    · cases h
end
end Go.Proofs.YtdhbgelijjlifaaGreatDoor
set_option linter.unusedVariables false
set_option linter.unusedSimpArgs false
namespace Go.Proofs.YtdhbgelijjlifaaGreatDoor
open Go.ChangeShapes Go.WideShapes Go.ChangeAt Go.RowKit Go.Joins Go.Deep

section
variable {H : Type} {enc : TypeId × Value → H} {P : Program} {w : World} {base : Nat} {spare : Nat → Bool} {held : Bool}
/-- Leaves that are a number, a truth, a text. -/
theorem LeafReadB.int {B : Nat} {cs : List Value} {l : List TypeId} (h : LeafReadB B enc P w base spare held cs l) (j : Nat) (t' : TypeId) (k : IntKind) (hj : l[j]? = some t') (hu : P.underlying t' = some (.int k)) : ∃ a : Int, cs[j]? = some (.int k a) ∧ (Lit.int k a).wf = true := by
  obtain ⟨m, y, hy, _⟩ := h j t' hj
  obtain ⟨z, hz, _, hw⟩ := DataW.trod_int hu hy
  refine ⟨z, ?_, hw⟩
  have : ((cs.drop j).take 1)[0]? = some (.int k z) := by rw [hz]; rfl
  rwa [List.getElem?_take_of_lt (by omega), List.getElem?_drop] at this
theorem LeafReadB.bool {B : Nat} {cs : List Value} {l : List TypeId} (h : LeafReadB B enc P w base spare held cs l) (j : Nat) (t' : TypeId) (hj : l[j]? = some t') (hu : P.underlying t' = some .bool) : ∃ a : Bool, cs[j]? = some (.bool a) := by
  obtain ⟨m, y, hy, _⟩ := h j t' hj
  obtain ⟨z, hz, _⟩ := DataW.trod_bool hu hy
  refine ⟨z, ?_⟩
  have : ((cs.drop j).take 1)[0]? = some (.bool z) := by rw [hz]; rfl
  rwa [List.getElem?_take_of_lt (by omega), List.getElem?_drop] at this
theorem LeafReadB.str {B : Nat} {cs : List Value} {l : List TypeId} (h : LeafReadB B enc P w base spare held cs l) (j : Nat) (t' : TypeId) (hj : l[j]? = some t') (hu : P.underlying t' = some .string) : ∃ s : ByteArray, cs[j]? = some (.string s) ∧ s.size ≤ B := by
  obtain ⟨m, y, hy, hb⟩ := h j t' hj
  obtain ⟨z, hz, hd, hw⟩ := DataW.trod_string hu hy
  refine ⟨z, ?_, ?_⟩
  · have : ((cs.drop j).take 1)[0]? = some (.string z) := by rw [hz]; rfl
    rwa [List.getElem?_take_of_lt (by omega), List.getElem?_drop] at this
  · rw [hd] at hb
    simp only [bulk_string] at hb
    have : z.data.toList.length = z.size := Array.length_toList
    omega
theorem LeafReadB.one {B : Nat} {cs : List Value} {l : List TypeId} (h : LeafReadB B enc P w base spare held cs l) (j : Nat) (t' : TypeId) (hj : l[j]? = some t') (u : Value) (hu : cs[j]? = some u) : ∃ m y, DataW.trod enc P w base spare held m t' [u] = some y ∧ Rows.uptoBulk y.1 ≤ B := by
  obtain ⟨m, y, hy, hb⟩ := h j t' hj
  obtain ⟨hjl, e⟩ := List.getElem?_eq_some_iff.1 hu
  have : (cs.drop j).take 1 = [u] := by rw [List.drop_eq_getElem_cons hjl, e]; rfl
  rw [this] at hy
  exact ⟨m, y, hy, hb⟩
/-- A cell that is a slice: nothing, or elements each of which reads and holds no more than so much. -/
theorem rows_bound {t e : TypeId} {u : Value} {m0 : Nat} {y : DataW H × List MemPlace} (ht : P.underlying t = some (.slice e)) (c : Nat) (hc : P.cellsOf e = c) (hc0 : 0 < c) (B : Nat)
    (h : DataW.trod enc P w 0 (fun _ => true) held m0 t [u] = some y) (hB : Rows.uptoBulk y.1 ≤ B) {α : Type} (cells : α → List Value) (good : α → Prop) (hlen : ∀ x, (cells x).length = c)
    (hel : ∀ m cs x, DataW.trod enc P w 0 (fun _ => true) held m e cs = some x → cs.length = c → Rows.uptoBulk x.1 ≤ B → ∃ a, cs = cells a ∧ good a) :
    ∃ (l : List α) (n : Nat), l.length = n ∧ (∀ a ∈ l, good a) ∧ ∀ row : List α → List Value, row [] = [] → (∀ x l, row (x :: l) = cells x ++ row l) → Reads w u n (row l) := by
  rcases Go.Deep.open_slice ht h with ⟨hcs, _⟩ | ⟨a, len, cap, m, n, D, Pl, hcs, _, hl, hm, hmm, hd, hi⟩
  · injection hcs with hcs _
    subst hcs
    exact ⟨[], 0, rfl, by simp, fun row h0 _ => by rw [h0]; exact Reads.nil w⟩
  · injection hcs with hcs _
    subst hcs
    simp only [if_true] at hmm
    have hD : ∀ i, i < len → Rows.uptoBulk (D i) ≤ B := fun i hil => by
      rw [hd] at hB
      simp only [Rows.uptoBulk] at hB
      have := bulk_part (H := H) (d := D i) (l := (List.range len).map D) (List.mem_map.2 ⟨i, List.mem_range.2 hil, rfl⟩)
      omega
    have hk : ∀ i, i < len → ∃ x : α, good x ∧ w.cells? 0 (a.add (i * c)) c = some (cells x) := by
      intro i hil
      obtain ⟨cs', h1, h2⟩ := hi i (by omega)
      rw [hc] at h1
      obtain ⟨_, hcl, _⟩ := World.cells?_some h1
      obtain ⟨x, rfl, hg⟩ := hel _ _ _ h2 hcl (hD i hil)
      exact ⟨x, hg, h1⟩
    have hlist : ∀ k, k ≤ len → ∃ l : List α, l.length = k ∧ (∀ x ∈ l, good x) ∧ ∀ i (hi : i < l.length), w.cells? 0 (a.add (i * c)) c = some (cells l[i]) := by
      intro k
      induction k with
      | zero => intro _; exact ⟨[], rfl, by simp, by simp⟩
      | succ k ih =>
        intro hk'
        obtain ⟨l, h1, h2, h3⟩ := ih (by omega)
        obtain ⟨x, hg, hx⟩ := hk k (by omega)
        refine ⟨l ++ [x], by simp [h1], ?_, ?_⟩
        · intro y hy
          rcases List.mem_append.1 hy with hy | hy
          · exact h2 y hy
          · simp at hy; subst hy; exact hg
        · intro i hi
          by_cases hil : i < l.length
          · rw [List.getElem_append_left hil]; exact h3 i hil
          · have : i = l.length := by simp at hi; omega
            subst this
            rw [List.getElem_concat_length (by rfl), h1]; exact hx
    obtain ⟨l, h1, h2, h3⟩ := hlist len (Nat.le_refl _)
    refine ⟨l, len, h1, h2, fun row r0 r1 => ?_⟩
    by_cases h0 : len = 0
    · subst h0
      obtain rfl := List.eq_nil_of_length_eq_zero h1
      exact .inl ⟨some a, cap, rfl, rfl, r0⟩
    · have hat : ∀ i (hi : i < l.length) j, j < c → w.cell? (a.add (i * c + j)) = (cells l[i])[j]? := by
        intro i hi j hj
        obtain ⟨_, _, hcell⟩ := World.cells?_some (h3 i hi)
        have := hcell j hj
        rw [Go.Deep.add_add] at this
        exact this
      have hfirst := hat 0 (by omega) 0 hc0
      rw [Nat.zero_mul, Nat.zero_add] at hfirst
      have ha : a.add 0 = a := by simp [Addr.add]
      rw [ha] at hfirst
      have hsome : (cells l[0])[0]? = some ((cells l[0])[0]'(by rw [hlen]; exact hc0)) := List.getElem?_eq_getElem _
      rw [hsome] at hfirst
      obtain ⟨e1, hb⟩ := spot_none hfirst
      have hrow : ∀ (l' : List α) (i : Nat) (u : Value), (row l')[i]? = some u → i / c < l'.length ∧ ∀ (h : i / c < l'.length), (cells l'[i / c])[i % c]? = some u := by
        intro l'
        induction l' with
        | nil => intro i u hu; rw [r0] at hu; simp at hu
        | cons x l' ih =>
          intro i u hu
          rw [r1] at hu
          by_cases hic : i < c
          · rw [List.getElem?_append_left (by rw [hlen]; exact hic)] at hu
            rw [Nat.div_eq_of_lt hic, Nat.mod_eq_of_lt hic]
            exact ⟨by simp, fun _ => hu⟩
          · rw [List.getElem?_append_right (by rw [hlen]; omega), hlen] at hu
            obtain ⟨g1, g2⟩ := ih _ _ hu
            have e2 : i / c = (i - c) / c + 1 := by
              conv => lhs; rw [show i = (i - c) + c by omega]
              rw [Nat.add_div_right _ hc0]
            have e3 : i % c = (i - c) % c := by
              conv => lhs; rw [show i = (i - c) + c by omega]
              rw [Nat.add_mod_right]
            refine ⟨by rw [e2]; simpa using g1, fun hh => ?_⟩
            rw [e3]
            simp only [e2, List.getElem_cons_succ]
            exact g2 g1
      refine .inr ⟨a.block, a.off, cap, by rw [← e1], hl, hm, hb, fun i u hu => ?_⟩
      obtain ⟨g1, g2⟩ := hrow l i u hu
      have := hat (i / c) g1 (i % c) (Nat.mod_lt _ hc0)
      rw [g2 g1, show i / c * c + i % c = i by rw [Nat.mul_comm]; exact Nat.div_add_mod i c, e1, add_plain] at this
      exact this
end
theorem rule_leavesB : leaves Tryz.prog 5 61 = some [9, 3, 3, 3, 3, 3, 3, 3, 3, 3, 9] := by kernel_rfl
theorem era_leavesB : leaves Tryz.prog 5 56 = some [3, 3, 3, 9, 9, 4, 3, 3, 3, 3, 3, 3, 3] := by kernel_rfl
theorem zone_leavesB : leaves Tryz.prog 5 59 = some [9, 57] := by kernel_rfl
theorem link_leavesB : leaves Tryz.prog 5 63 = some [9, 9] := by kernel_rfl
theorem source_leavesB : leaves Tryz.prog 5 26 = some [22, 23, 24] := by kernel_rfl
section
variable {H : Type} {enc : TypeId × Value → H} {w : World} {held : Bool}
theorem eras_bound {u : Value} {m0 : Nat} {y : DataW H × List MemPlace} (h : DataW.trod enc Tryz.prog w 0 (fun _ => true) held m0 57 [u] = some y) (hB : Rows.uptoBulk y.1 ≤ 1048576) :
    ∃ l : List Era, (∀ x ∈ l, fitsE x) ∧ Reads w u l.length (eraRow l) := by
  obtain ⟨l, n, hn, hg, hr⟩ := rows_bound Tryz.underlying57 13 (by kernel_rfl) (by omega) 1048576 h hB (fun x : Era => eraCells x) fitsE (fun _ => rfl) (by
    intro m cs x hx hl hb
    have L := leaves_readB 1048576 5 _ _ m cs x era_leavesB hx hb
    obtain ⟨a0, e0, -⟩ := L.int 0 _ _ rfl Tryz.underlying3
    obtain ⟨a1, e1, -⟩ := L.int 1 _ _ rfl Tryz.underlying3
    obtain ⟨a2, e2, -⟩ := L.int 2 _ _ rfl Tryz.underlying3
    obtain ⟨a3, e3, b3⟩ := L.str 3 _ rfl Tryz.underlying9
    obtain ⟨a4, e4, b4⟩ := L.str 4 _ rfl Tryz.underlying9
    obtain ⟨a5, e5⟩ := L.bool 5 _ rfl Tryz.underlying4
    obtain ⟨a6, e6, -⟩ := L.int 6 _ _ rfl Tryz.underlying3
    obtain ⟨a7, e7, -⟩ := L.int 7 _ _ rfl Tryz.underlying3
    obtain ⟨a8, e8, -⟩ := L.int 8 _ _ rfl Tryz.underlying3
    obtain ⟨a9, e9, -⟩ := L.int 9 _ _ rfl Tryz.underlying3
    obtain ⟨a10, e10, -⟩ := L.int 10 _ _ rfl Tryz.underlying3
    obtain ⟨a11, e11, -⟩ := L.int 11 _ _ rfl Tryz.underlying3
    obtain ⟨a12, e12, -⟩ := L.int 12 _ _ rfl Tryz.underlying3
    match cs, hl with
    | [c0, c1, c2, c3, c4, c5, c6, c7, c8, c9, c10, c11, c12], _ =>
      simp at e0 e1 e2 e3 e4 e5 e6 e7 e8 e9 e10 e11 e12
      subst e0 e1 e2 e3 e4 e5 e6 e7 e8 e9 e10 e11 e12
      exact ⟨⟨a0, a1, a2, a3, a4, a5, a6, a7, a8, a9, a10, a11, a12⟩, rfl, b3, b4⟩)
  subst hn
  exact ⟨l, hg, hr eraRow rfl (fun _ _ => rfl)⟩
theorem rules_bound {u : Value} {m0 : Nat} {y : DataW H × List MemPlace} (h : DataW.trod enc Tryz.prog w 0 (fun _ => true) held m0 22 [u] = some y) (hB : Rows.uptoBulk y.1 ≤ 1048576) :
    ∃ l : List Rule, (∀ x ∈ l, fitsR x) ∧ Reads w u l.length (ruleRow l) := by
  obtain ⟨l, n, hn, hg, hr⟩ := rows_bound Tryz.underlying22 11 (by kernel_rfl) (by omega) 1048576 h hB (fun x : Rule => ruleCells x) fitsR (fun _ => rfl) (by
    intro m cs x hx hl hb
    have L := leaves_readB 1048576 5 _ _ m cs x rule_leavesB hx hb
    obtain ⟨a0, e0, b0⟩ := L.str 0 _ rfl Tryz.underlying9
    obtain ⟨a1, e1, -⟩ := L.int 1 _ _ rfl Tryz.underlying3
    obtain ⟨a2, e2, -⟩ := L.int 2 _ _ rfl Tryz.underlying3
    obtain ⟨a3, e3, -⟩ := L.int 3 _ _ rfl Tryz.underlying3
    obtain ⟨a4, e4, -⟩ := L.int 4 _ _ rfl Tryz.underlying3
    obtain ⟨a5, e5, -⟩ := L.int 5 _ _ rfl Tryz.underlying3
    obtain ⟨a6, e6, -⟩ := L.int 6 _ _ rfl Tryz.underlying3
    obtain ⟨a7, e7, -⟩ := L.int 7 _ _ rfl Tryz.underlying3
    obtain ⟨a8, e8, -⟩ := L.int 8 _ _ rfl Tryz.underlying3
    obtain ⟨a9, e9, -⟩ := L.int 9 _ _ rfl Tryz.underlying3
    obtain ⟨a10, e10, b10⟩ := L.str 10 _ rfl Tryz.underlying9
    match cs, hl with
    | [c0, c1, c2, c3, c4, c5, c6, c7, c8, c9, c10], _ =>
      simp at e0 e1 e2 e3 e4 e5 e6 e7 e8 e9 e10
      subst e0 e1 e2 e3 e4 e5 e6 e7 e8 e9 e10
      exact ⟨⟨a0, a1, a2, a3, a4, a5, a6, a7, a8, a9, a10⟩, rfl, b0, b10⟩)
  subst hn
  exact ⟨l, hg, hr ruleRow rfl (fun _ _ => rfl)⟩
theorem links_bound {u : Value} {m0 : Nat} {y : DataW H × List MemPlace} (h : DataW.trod enc Tryz.prog w 0 (fun _ => true) held m0 24 [u] = some y) (hB : Rows.uptoBulk y.1 ≤ 1048576) :
    ∃ l : List Link, (∀ x ∈ l, fitsL x) ∧ Reads w u l.length (linkRow l) := by
  obtain ⟨l, n, hn, hg, hr⟩ := rows_bound Tryz.underlying24 2 (by kernel_rfl) (by omega) 1048576 h hB (fun x : Link => linkCells x) fitsL (fun _ => rfl) (by
    intro m cs x hx hl hb
    have L := leaves_readB 1048576 5 _ _ m cs x link_leavesB hx hb
    obtain ⟨a0, e0, b0⟩ := L.str 0 _ rfl Tryz.underlying9
    obtain ⟨a1, e1, b1⟩ := L.str 1 _ rfl Tryz.underlying9
    match cs, hl with
    | [c0, c1], _ =>
      simp at e0 e1
      subst e0 e1
      exact ⟨⟨a0, a1⟩, rfl, b0, b1⟩)
  subst hn
  exact ⟨l, hg, hr linkRow rfl (fun _ _ => rfl)⟩
theorem zones_bound {u : Value} {m0 : Nat} {y : DataW H × List MemPlace} (h : DataW.trod enc Tryz.prog w 0 (fun _ => true) held m0 23 [u] = some y) (hB : Rows.uptoBulk y.1 ≤ 1048576) :
    ∃ l : List Zone, (∀ x ∈ l, fitsZ x) ∧ ReadsZ w u l := by
  obtain ⟨l, n, hn, hg, hr⟩ := rows_bound Tryz.underlying23 2 (by kernel_rfl) (by omega) 1048576 h hB (fun p : Zone × Value => zoneCells p) (fun p => fitsZ p.1 ∧ Reads w p.2 p.1.es.length (eraRow p.1.es)) (fun _ => rfl) (by
    intro m cs x hx hl hb
    have L := leaves_readB 1048576 5 _ _ m cs x zone_leavesB hx hb
    obtain ⟨a0, e0, b0⟩ := L.str 0 _ rfl Tryz.underlying9
    match cs, hl with
    | [c0, c1], _ =>
      obtain ⟨m', y', h1, h2⟩ := L.one 1 _ rfl c1 rfl
      obtain ⟨es, f, r⟩ := eras_bound h1 h2
      simp at e0
      subst e0
      exact ⟨(⟨a0, es⟩, c1), rfl, ⟨b0, f⟩, r⟩)
  subst hn
  refine ⟨l.map (·.1), ?_, l, rfl, ?_, fun p hp => (hg p hp).2⟩
  · intro x hx
    obtain ⟨p, hp, rfl⟩ := List.mem_map.1 hx
    exact (hg p hp).1
  · rw [List.length_map]
    exact hr zoneRow rfl (fun _ _ => rfl)
set_option maxRecDepth 100000 in
theorem arg_source {v : Value} {d : DataW H} {p : List MemPlace} {r : Reach} {b0 : Nat}
    (hval : Value.okWide Tryz.prog w r b0 26 v) (h : DataW.Trod enc Tryz.prog w 0 (fun _ => true) held 26 v d p) (hB : Rows.uptoBulk d ≤ 1048576) :
    ∃ s : Source, ReadsS w v s ∧ fits s := by
  obtain ⟨⟨l⟩, rfl, hsz⟩ := okWide_struct Tryz.underlying26 hval
  obtain ⟨fuel, hf⟩ := h
  have hC : Tryz.prog.cellsOf 26 = 3 := by kernel_rfl
  have L := leaves_readB 1048576 5 _ _ fuel _ _ source_leavesB hf hB
  match l, hsz.trans hC with
  | [c0, c1, c2], _ =>
    obtain ⟨m0, y0, h0, b0⟩ := L.one 0 _ rfl c0 rfl
    obtain ⟨m1, y1, h1, b1⟩ := L.one 1 _ rfl c1 rfl
    obtain ⟨m2, y2, h2, b2⟩ := L.one 2 _ rfl c2 rfl
    obtain ⟨rs, f0, r0⟩ := rules_bound h0 b0
    obtain ⟨zs, f1, r1⟩ := zones_bound h1 b1
    obtain ⟨ls, f2, r2⟩ := links_bound h2 b2
    exact ⟨⟨rs, zs, ls⟩, ⟨c0, c1, c2, rfl, r0, r1, r2⟩, f0, f1, f2⟩
end
set_option maxRecDepth 100000 in
theorem bulk_first {H : Type} {ds gs : List (DataW H)} {d : DataW H} (hk : Rows.uptoSmall H (ds ++ gs) = true) (h : d ∈ ds) : Rows.uptoBulk d ≤ 1048576 := by
  have h1 : Rows.uptoBulkAll (ds ++ gs) ≤ 1048576 := of_decide_eq_true hk
  exact Nat.le_trans (bulk_part (List.mem_append.2 (.inl h))) h1
theorem str_small {H : Type} {a : ByteArray} (h : Rows.uptoBulk (DataW.lit (H := H) (.string a.data.toList)) ≤ 1048576) : a.size ≤ 1048576 := by
  rw [bulk_string] at h
  have : a.data.toList.length = a.size := Array.length_toList
  omega
end Go.Proofs.YtdhbgelijjlifaaGreatDoor
