/- A source that a call builds up: its rows are the call's own; what an append or a store of one row does to the others. -/
import Derived.Test.YtdhbgelijjlifaaDoorSrcWalkD
import Derived.Test.YtdhbgelijjlifaaDoorOwns
import Derived.Test.YtdhbgelijjlifaaDoorSrcPlainD
set_option linter.unusedVariables false
set_option linter.unusedSimpArgs false
namespace Go.Proofs.YtdhbgelijjlifaaDoor
open Go Go.RowKit

section
variable {w w1 : World} {base : Nat} {e : TypeId} {size : Nat} {v : Value} {n : Nat} {xs : List Value}
theorem own_base {base' : Nat} (h : w.ownsRow base e size v n xs) (hb : base' ≤ base) : w.ownsRow base' e size v n xs := by
  refine ⟨h.1, ?_⟩
  rcases h.2 with h2 | ⟨g, cap, cur, h1, h2, h3⟩
  · exact .inl h2
  · exact .inr ⟨g, cap, cur, h1, Nat.le_trans hb h2, h3⟩
/-- Rows of other types lie in other blocks. -/
theorem own_ne {base' : Nat} {e' : TypeId} {size' : Nat} {v' : Value} {n' : Nat} {xs' : List Value} (h : w.ownsRow base e size v n xs) (h' : w.ownsRow base' e' size' v' n' xs') (he : e ≠ e') : v.ownBlock = none ∨ v.ownBlock ≠ v'.ownBlock := by
  rcases h.2 with ⟨h1, _⟩ | ⟨g, cap, cur, h1, _, h3, _⟩
  · left; rw [h1]; rfl
  · rcases h'.2 with ⟨k1, _⟩ | ⟨g', cap', cur', k1, _, k3, _⟩
    · right; rw [h1, k1]; simp [Value.ownBlock]
    · right
      rw [h1, k1]
      simp only [Value.ownBlock]
      intro hh
      injection hh with hh
      subst hh
      rw [h3] at k3
      injection k3 with k3
      injection k3 with _ k3
      exact he k3
theorem own_other {base' : Nat} {e' : TypeId} {size' : Nat} {v' : Value} {n' : Nat} {xs' : List Value} (h : w.ownsRow base e size v n xs) (h' : w.ownsRow base' e' size' v' n' xs') (he : e ≠ e') (hg : w.grownBy w1 v'.ownBlock) : w1.ownsRow base e size v n xs :=
  h.kept hg (own_ne h h' he)
/-- The row lies below. -/
def LowV (v : Value) (B : Nat) : Prop := ∀ g, v.ownBlock = some g → g < B
theorem own_low {B : Nat} {e' : TypeId} {size' : Nat} {v' : Value} {n' : Nat} {xs' : List Value} (h : w.ownsRow base e size v n xs) (hl : LowV v B) (h' : w.ownsRow B e' size' v' n' xs') (hg : w.grownBy w1 v'.ownBlock) : w1.ownsRow base e size v n xs := by
  refine h.kept hg ?_
  cases hv : v.ownBlock with
  | none => exact .inl rfl
  | some g =>
    right
    intro hh
    have h1 := hl g hv
    have h2 := (h'.lt g hh.symm).1
    omega
theorem own_past (h : w.ownsRow base e size v n xs) (hx : Ext w w1) : w1.ownsRow base e size v n xs := h.kept (grown_of_ext hx) (by cases hv : v.ownBlock <;> simp)
theorem low_size (h : w.ownsRow base e size v n xs) : LowV v w.heap.size := fun g hg => (h.lt g hg).2
theorem LowV.le {B B' : Nat} (h : LowV v B) (hb : B ≤ B') : LowV v B' := fun g hg => Nat.lt_of_lt_of_le (h g hg) hb
/-- A store elsewhere. -/
theorem own_store {p : Addr} {u : Value} (h : w.ownsRow base e size v n xs) (hp : v.ownBlock = none ∨ v.ownBlock ≠ some p.block) : (w.setCell p u).ownsRow base e size v n xs := by
  refine ⟨h.1, ?_⟩
  rcases h.2 with h2 | ⟨g, cap, cur, h1, h2, h3, h4⟩
  · exact .inl h2
  · refine .inr ⟨g, cap, cur, h1, h2, ?_, h4⟩
    rw [Below.heap_setCell _ _ _ _ (by
      rw [h1] at hp
      simp [Value.ownBlock] at hp
      exact hp)]
    exact h3
/-- A store into the row itself. -/
theorem own_set {g i : Nat} {u : Value} (h : w.ownsRow base e size v n xs) (hg : v.ownBlock = some g) (hi : i < xs.length) : (w.setCell ⟨g, i, none⟩ u).ownsRow base e size v n (xs.set i u) := by
  rcases h.2 with ⟨h1, _⟩ | ⟨g', cap, cur, h1, h2, h3, h4, h5, h6, h7⟩
  · rw [h1] at hg; simp [Value.ownBlock] at hg
  · rw [h1] at hg
    simp [Value.ownBlock] at hg
    subst hg
    refine ⟨by rw [List.length_set]; exact h.1, .inr ⟨g', cap, cur.setIfInBounds i u, h1, h2, ?_, h4, h5, by simpa using h6, ?_⟩⟩
    · have hlt : g' < w.heap.size := (Array.getElem?_eq_some_iff.1 h3).1
      simp only [World.setCell]
      rw [Array.getElem?_modify]
      simp [h3]
    · rw [← h7, Array.toList_setIfInBounds, List.take_set]
end
/-- A source's rows, each the call's own. -/
structure Tree (w : World) (base : Nat) (vr vz vl : Value) (zp : List (Zone × Value)) (S : Source) : Prop where
  rules : w.ownsRow base 72 11 vr S.rules.length (ruleRow S.rules)
  zones : w.ownsRow base 42 2 vz S.zones.length (zoneRow zp)
  links : w.ownsRow base 78 2 vl S.links.length (linkRow S.links)
  names : zp.map (·.1) = S.zones
  eras : ∃ B, base ≤ B ∧ (∀ p ∈ zp.dropLast, w.ownsRow base 39 13 p.2 p.1.es.length (eraRow p.1.es) ∧ LowV p.2 B) ∧ (∀ p, zp.getLast? = some p → w.ownsRow B 39 13 p.2 p.1.es.length (eraRow p.1.es))
section
variable {w w1 : World} {base : Nat} {vr vz vl : Value} {zp : List (Zone × Value)} {S : Source}
theorem Tree.empty : Tree w base (.slice none 0 0) (.slice none 0 0) (.slice none 0 0) [] ⟨[], [], []⟩ :=
  ⟨World.ownsRow_nil _ _ _ _, World.ownsRow_nil _ _ _ _, World.ownsRow_nil _ _ _ _, rfl, base, Nat.le_refl _, fun p hp => (by cases hp), fun p hp => (by cases hp)⟩
theorem Tree.past (h : Tree w base vr vz vl zp S) (hx : Ext w w1) : Tree w1 base vr vz vl zp S := by
  obtain ⟨h1, h2, h3, h4, B, hb, h5, h6⟩ := h
  exact ⟨own_past h1 hx, own_past h2 hx, own_past h3 hx, h4, B, hb, fun p hp => ⟨own_past (h5 p hp).1 hx, (h5 p hp).2⟩, fun p hp => own_past (h6 p hp) hx⟩
theorem Tree.store (h : Tree w base vr vz vl zp S) {p : Addr} {u : Value} (hp : p.block < base) : Tree (w.setCell p u) base vr vz vl zp S := by
  have key : ∀ {b : Nat} {e : TypeId} {size n : Nat} {v : Value} {xs : List Value}, base ≤ b → w.ownsRow b e size v n xs → (w.setCell p u).ownsRow b e size v n xs := fun {b e size n v xs} hb ho => own_store ho (by
    cases hv : v.ownBlock with
    | none => exact .inl rfl
    | some g =>
      right
      intro hh
      injection hh with hh
      have := (ho.lt g hv).1
      omega)
  obtain ⟨h1, h2, h3, h4, B, hb, h5, h6⟩ := h
  exact ⟨key (Nat.le_refl _) h1, key (Nat.le_refl _) h2, key (Nat.le_refl _) h3, h4, B, hb, fun p hp => ⟨key (Nat.le_refl _) (h5 p hp).1, (h5 p hp).2⟩, fun p hp => key hb (h6 p hp)⟩
/-- What grows a row of another type leaves the eras. -/
theorem Tree.era_kept (h : Tree w base vr vz vl zp S) {base' : Nat} {e' : TypeId} {size' : Nat} {v' : Value} {n' : Nat} {xs' : List Value} (h' : w.ownsRow base' e' size' v' n' xs') (he : 39 ≠ e') (hg : w.grownBy w1 v'.ownBlock) :
    ∃ B, base ≤ B ∧ (∀ p ∈ zp.dropLast, w1.ownsRow base 39 13 p.2 p.1.es.length (eraRow p.1.es) ∧ LowV p.2 B) ∧ (∀ p, zp.getLast? = some p → w1.ownsRow B 39 13 p.2 p.1.es.length (eraRow p.1.es)) := by
  obtain ⟨B, hb, h5, h6⟩ := h.eras
  exact ⟨B, hb, fun p hp => ⟨own_other (h5 p hp).1 h' he hg, (h5 p hp).2⟩, fun p hp => own_other (h6 p hp) h' he hg⟩
theorem Tree.rule (h : Tree w base vr vz vl zp S) {vr' : Value} {x : Rule} (ho : w1.ownsRow base 72 11 vr' (S.rules.length + 1) (ruleRow (S.rules ++ [x]))) (hg : w.grownBy w1 vr.ownBlock) : Tree w1 base vr' vz vl zp ⟨S.rules ++ [x], S.zones, S.links⟩ :=
  ⟨by simpa using ho, own_other h.zones h.rules (by decide) hg, own_other h.links h.rules (by decide) hg, h.names, h.era_kept h.rules (by decide) hg⟩
theorem Tree.link (h : Tree w base vr vz vl zp S) {vl' : Value} {x : Link} (ho : w1.ownsRow base 78 2 vl' (S.links.length + 1) (linkRow (S.links ++ [x]))) (hg : w.grownBy w1 vl.ownBlock) : Tree w1 base vr vz vl' zp ⟨S.rules, S.zones, S.links ++ [x]⟩ :=
  ⟨own_other h.rules h.links (by decide) hg, own_other h.zones h.links (by decide) hg, by simpa using ho, h.names, h.era_kept h.links (by decide) hg⟩
theorem Tree.all_eras (h : Tree w base vr vz vl zp S) : ∀ p ∈ zp, w.ownsRow base 39 13 p.2 p.1.es.length (eraRow p.1.es) := by
  obtain ⟨B, hb, h5, h6⟩ := h.eras
  intro p hp
  rcases List.eq_nil_or_concat zp with h0 | ⟨l, a, h0⟩
  · rw [h0] at hp; cases hp
  · rw [List.concat_eq_append] at h0
    subst h0
    rcases List.mem_append.1 hp with hp | hp
    · exact (h5 p (by simpa using hp)).1
    · obtain rfl := List.mem_singleton.1 hp
      exact own_base (h6 p (by simp)) hb
theorem Tree.zone (h : Tree w base vr vz vl zp S) {vz' V : Value} {z : Zone} (ho : w1.ownsRow base 42 2 vz' (S.zones.length + 1) (zoneRow (zp ++ [(z, V)]))) (hg : w.grownBy w1 vz.ownBlock) {B : Nat} (hb : base ≤ B) (hl : ∀ p ∈ zp, LowV p.2 B)
    (hV : w.ownsRow B 39 13 V z.es.length (eraRow z.es)) : Tree w1 base vr vz' vl (zp ++ [(z, V)]) ⟨S.rules, S.zones ++ [z], S.links⟩ := by
  refine ⟨own_other h.rules h.zones (by decide) hg, by simpa using ho, own_other h.links h.zones (by decide) hg, by simp [h.names], B, hb, fun p hp => ?_, fun p hp => ?_⟩
  · have hp : p ∈ zp := by simpa using hp
    exact ⟨own_other (h.all_eras p hp) h.zones (by decide) hg, hl p hp⟩
  · have hp : (z, V) = p := by simpa using hp
    subst hp
    exact own_other hV h.zones (by decide) hg
theorem Tree.era {zi : List (Zone × Value)} {z : Zone} {V V' : Value} {x : Era} {B gz : Nat} (h : Tree w base vr vz vl (zi ++ [(z, V)]) S) (hb : base ≤ B) (hl : ∀ p ∈ zi, LowV p.2 B) (hV : w.ownsRow B 39 13 V z.es.length (eraRow z.es))
    (ho : w1.ownsRow B 39 13 V' (z.es.length + 1) (eraRow (z.es ++ [x]))) (hg : w.grownBy w1 V.ownBlock) (hgz : vz.ownBlock = some gz) :
    Tree (w1.setCell ⟨gz, zi.length * 2 + 1, none⟩ V') base vr vz vl (zi ++ [(⟨z.nm, z.es ++ [x]⟩, V')]) ⟨S.rules, Src.addEra S.zones x, S.links⟩ := by
  have hz1 : w1.ownsRow base 42 2 vz S.zones.length (zoneRow (zi ++ [(z, V)])) := own_other h.zones hV (by decide) hg
  have key : ∀ {b : Nat} {e : TypeId} {size n : Nat} {v : Value} {xs : List Value}, e ≠ 42 → w1.ownsRow b e size v n xs → (w1.setCell ⟨gz, zi.length * 2 + 1, none⟩ V').ownsRow b e size v n xs := fun {b e size n v xs} he ho => own_store ho (by
    rcases own_ne ho hz1 he with h1 | h1
    · exact .inl h1
    · right; rw [hgz] at h1; exact h1)
  have hn : zi.map (·.1) ++ [z] = S.zones := by simpa using h.names
  have hadd : Src.addEra S.zones x = zi.map (·.1) ++ [⟨z.nm, z.es ++ [x]⟩] := by
    rw [← hn]; unfold Src.addEra; simp
  have hlen : S.zones.length = zi.length + 1 := by rw [← hn]; simp
  have hrow : (zoneRow (zi ++ [(z, V)])).set (zi.length * 2 + 1) V' = zoneRow (zi ++ [(⟨z.nm, z.es ++ [x]⟩, V')]) := by
    unfold zoneRow
    rw [rowOf_snoc, rowOf_snoc, List.set_append_right _ _ (by rw [rowOf_len (c := 2) (fun _ => rfl)]; omega), rowOf_len (c := 2) (fun _ => rfl)]
    rw [show zi.length * 2 + 1 - zi.length * 2 = 1 by omega]; rfl
  refine ⟨key (by decide) (own_other h.rules hV (by decide) hg), ?_, key (by decide) (own_other h.links hV (by decide) hg), ?_, B, hb, fun p hp => ?_, fun p hp => ?_⟩
  · have := own_set (u := V') (i := zi.length * 2 + 1) hz1 hgz (by unfold zoneRow; rw [rowOf_len (c := 2) (fun _ => rfl), List.length_append, List.length_singleton]; omega)
    rw [hrow] at this
    show World.ownsRow _ _ _ _ _ (Src.addEra S.zones x).length _
    rw [hadd, show (zi.map (·.1) ++ [(⟨z.nm, z.es ++ [x]⟩ : Zone)]).length = S.zones.length by rw [hlen]; simp]
    exact this
  · show _ = Src.addEra S.zones x
    rw [hadd]; simp
  · have hp : p ∈ zi := by simpa using hp
    refine ⟨key (by decide) ?_, hl p hp⟩
    exact own_low (h.all_eras p (by simp [hp])) (hl p hp) hV hg
  · have hp : ((⟨z.nm, z.es ++ [x]⟩ : Zone), V') = p := by simpa using hp
    subst hp
    exact key (by decide) (by simpa using ho)
theorem Tree.reads (h : Tree w base vr vz vl zp S) : ReadsS w (.agg #[vr, vz, vl]) S :=
  ⟨vr, vz, vl, rfl, owns_reads h.rules (by decide), ⟨zp, h.names, owns_reads h.zones (by decide), fun p hp => owns_reads (h.all_eras p hp) (by decide)⟩, owns_reads h.links (by decide)⟩
/-- The last zone's eras, and below what the others' lie. -/
theorem Tree.last {zi : List (Zone × Value)} {z : Zone} {V : Value} (h : Tree w base vr vz vl (zi ++ [(z, V)]) S) : ∃ B, base ≤ B ∧ (∀ p ∈ zi, LowV p.2 B) ∧ w.ownsRow B 39 13 V z.es.length (eraRow z.es) := by
  obtain ⟨B, hb, h5, h6⟩ := h.eras
  exact ⟨B, hb, fun p hp => (h5 p (by simpa using hp)).2, h6 (z, V) (by simp)⟩
end
end Go.Proofs.YtdhbgelijjlifaaDoor
