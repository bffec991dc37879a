/- Sources in memory: rows of eras, zones, links. -/
import Derived.Test.YtdhbgelijjlifaaGreatDoorOwns
import Derived.Test.YtdhbgelijjlifaaGreatDoorSrcPlainB
import Derived.Test.YtdhbgelijjlifaaGreatDoorRulWalkC
import Derived.Test.YtdhbgelijjlifaaGreatDoorSrcWalkC
set_option linter.unusedVariables false
set_option linter.unusedSimpArgs false
namespace Go.Proofs.YtdhbgelijjlifaaGreatDoor
open Go Go.RowKit
abbrev eraCells (x : Era) : List Value := [.int .i64 x.off, .int .i64 x.kd, .int .i64 x.s, .string x.rs, .string x.fm, .bool x.til, .int .i64 x.y, .int .i64 x.m, .int .i64 x.k, .int .i64 x.wd, .int .i64 x.d, .int .i64 x.t, .int .i64 x.r]
abbrev linkCells (x : Link) : List Value := [.string x.tg, .string x.nm]
def rowOf {α : Type} (cells : α → List Value) : List α → List Value
 | [] => []
 | x :: l => cells x ++ rowOf cells l
theorem rowOf_at {α : Type} {cells : α → List Value} {c : Nat} (hc : ∀ x, (cells x).length = c) : ∀ (l : List α) (i : Nat) (h : i < l.length) (k : Nat) (u : Value), (cells l[i])[k]? = some u → (rowOf cells l)[i * c + k]? = some u := by
 intro l
 induction l with
 | nil => intro i h; simp at h
 | cons x l ih =>
   intro i h k u hu
   cases i with
   | zero =>
     have hk : k < (cells x).length := (List.getElem?_eq_some_iff.1 hu).1
     simp only [Nat.zero_mul, Nat.zero_add, rowOf]
     rw [List.getElem?_append_left hk]; exact hu
   | succ i =>
     have := ih i (by simpa using h) k u hu
     simp only [rowOf]
     have e : (i + 1) * c = i * c + c := by rw [Nat.add_mul, Nat.one_mul]
     rw [List.getElem?_append_right (by rw [hc, e]; omega), hc]
     rw [show (i + 1) * c + k - c = i * c + k by rw [e]; omega]
     exact this
theorem rowOf_snoc {α : Type} (cells : α → List Value) (l : List α) (x : α) : rowOf cells (l ++ [x]) = rowOf cells l ++ cells x := by
 induction l with
 | nil => simp [rowOf]
 | cons y l ih => simp [rowOf, ih]
theorem rowOf_len {α : Type} {cells : α → List Value} {c : Nat} (hc : ∀ x, (cells x).length = c) (l : List α) : (rowOf cells l).length = l.length * c := by
 induction l with
 | nil => simp [rowOf]
 | cons x l ih => rw [rowOf, List.length_append, hc, ih, List.length_cons, Nat.add_mul, Nat.one_mul, Nat.add_comm]
def eraRow : List Era → List Value := rowOf eraCells
def linkRow : List Link → List Value := rowOf linkCells
theorem era_at {w : World} {b o : Nat} {l : List Era} (hc : ∀ i u, (eraRow l)[i]? = some u → w.cell? ⟨b, o + i, none⟩ = some u) (j : Nat) (h : j < l.length) :
 w.cell? ⟨b, o + j * 13, none⟩ = some (.int .i64 l[j].off) ∧ w.cell? ⟨b, o + j * 13 + 1, none⟩ = some (.int .i64 l[j].kd) ∧ w.cell? ⟨b, o + j * 13 + 2, none⟩ = some (.int .i64 l[j].s) ∧ w.cell? ⟨b, o + j * 13 + 3, none⟩ = some (.string l[j].rs) ∧ w.cell? ⟨b, o + j * 13 + 4, none⟩ = some (.string l[j].fm) ∧
 w.cell? ⟨b, o + j * 13 + 5, none⟩ = some (.bool l[j].til) ∧ w.cell? ⟨b, o + j * 13 + 6, none⟩ = some (.int .i64 l[j].y) ∧ w.cell? ⟨b, o + j * 13 + 7, none⟩ = some (.int .i64 l[j].m) ∧ w.cell? ⟨b, o + j * 13 + 8, none⟩ = some (.int .i64 l[j].k) ∧ w.cell? ⟨b, o + j * 13 + 9, none⟩ = some (.int .i64 l[j].wd) ∧
 w.cell? ⟨b, o + j * 13 + 10, none⟩ = some (.int .i64 l[j].d) ∧ w.cell? ⟨b, o + j * 13 + 11, none⟩ = some (.int .i64 l[j].t) ∧ w.cell? ⟨b, o + j * 13 + 12, none⟩ = some (.int .i64 l[j].r) := by
 have k := fun c u hu => hc _ _ (rowOf_at (cells := eraCells) (c := 13) (fun _ => rfl) l j h c u hu)
 simp only [← Nat.add_assoc] at k
 exact ⟨k 0 _ rfl, k 1 _ rfl, k 2 _ rfl, k 3 _ rfl, k 4 _ rfl, k 5 _ rfl, k 6 _ rfl, k 7 _ rfl, k 8 _ rfl, k 9 _ rfl, k 10 _ rfl, k 11 _ rfl, k 12 _ rfl⟩
theorem link_at {w : World} {b o : Nat} {l : List Link} (hc : ∀ i u, (linkRow l)[i]? = some u → w.cell? ⟨b, o + i, none⟩ = some u) (j : Nat) (h : j < l.length) :
 w.cell? ⟨b, o + j * 2, none⟩ = some (.string l[j].tg) ∧ w.cell? ⟨b, o + j * 2 + 1, none⟩ = some (.string l[j].nm) := by
 have k := fun c u hu => hc _ _ (rowOf_at (cells := linkCells) (c := 2) (fun _ => rfl) l j h c u hu)
 simp only [← Nat.add_assoc] at k
 exact ⟨k 0 _ rfl, k 1 _ rfl⟩
abbrev zoneCells (p : Zone × Value) : List Value := [.string p.1.nm, p.2]
def zoneRow : List (Zone × Value) → List Value := rowOf zoneCells
theorem zone_at {w : World} {b o : Nat} {l : List (Zone × Value)} (hc : ∀ i u, (zoneRow l)[i]? = some u → w.cell? ⟨b, o + i, none⟩ = some u) (j : Nat) (h : j < l.length) :
 w.cell? ⟨b, o + j * 2, none⟩ = some (.string l[j].1.nm) ∧ w.cell? ⟨b, o + j * 2 + 1, none⟩ = some l[j].2 := by
 have k := fun c u hu => hc _ _ (rowOf_at (cells := zoneCells) (c := 2) (fun _ => rfl) l j h c u hu)
 simp only [← Nat.add_assoc] at k
 exact ⟨k 0 _ rfl, k 1 _ rfl⟩
def ReadsZ (w : World) (v : Value) (zs : List Zone) : Prop :=
 ∃ zp : List (Zone × Value), zp.map (·.1) = zs ∧ Reads w v zs.length (zoneRow zp) ∧ ∀ p ∈ zp, Reads w p.2 p.1.es.length (eraRow p.1.es)
theorem ReadsZ.ext {w w' : World} {v : Value} {zs : List Zone} (h : ReadsZ w v zs) (hx : Ext w w') : ReadsZ w' v zs := by
 obtain ⟨zp, h1, h2, h3⟩ := h
 exact ⟨zp, h1, h2.ext hx, fun p hp => (h3 p hp).ext hx⟩
def ReadsS (w : World) (v : Value) (s : Source) : Prop :=
 ∃ vr vz vl : Value, v = .agg #[vr, vz, vl] ∧ Reads w vr s.rules.length (ruleRow s.rules) ∧ ReadsZ w vz s.zones ∧ Reads w vl s.links.length (linkRow s.links)
theorem ReadsS.ext {w w' : World} {v : Value} {s : Source} (h : ReadsS w v s) (hx : Ext w w') : ReadsS w' v s := by
 obtain ⟨vr, vz, vl, e, h1, h2, h3⟩ := h
 exact ⟨vr, vz, vl, e, h1.ext hx, h2.ext hx, h3.ext hx⟩
theorem ruleRow_eq : ∀ l, ruleRow l = rowOf ruleCells l
 | [] => rfl
 | x :: l => by rw [ruleRow, rowOf, ruleRow_eq l]
theorem shape_of {w : World} {v : Value} {n : Nat} {cs : List Value} (h : Reads w v n cs) : ∃ a c, v = .slice a n c := by
 rcases h with ⟨a, c, rfl, rfl, _⟩ | ⟨b, o, c, rfl, _⟩
 · exact ⟨a, c, rfl⟩
 · exact ⟨_, c, rfl⟩
theorem len_of {w : World} {v : Value} {n : Nat} {cs : List Value} (h : Reads w v n cs) : (n : Int) ≤ 9223372036854775807 := by
 rcases h with ⟨a, c, rfl, rfl, _⟩ | ⟨b, o, c, rfl, h1, h2, _⟩
 · omega
 · unfold maxLen at h2; omega
def fitsR (x : Rule) : Prop := x.nm.size ≤ 1048576 ∧ x.l.size ≤ 1048576
def fitsE (x : Era) : Prop := x.rs.size ≤ 1048576 ∧ x.fm.size ≤ 1048576
def fitsZ (z : Zone) : Prop := z.nm.size ≤ 1048576 ∧ ∀ x ∈ z.es, fitsE x
def fitsL (x : Link) : Prop := x.tg.size ≤ 1048576 ∧ x.nm.size ≤ 1048576
def fits (s : Source) : Prop := (∀ x ∈ s.rules, fitsR x) ∧ (∀ z ∈ s.zones, fitsZ z) ∧ ∀ x ∈ s.links, fitsL x
end Go.Proofs.YtdhbgelijjlifaaGreatDoor
namespace Go.Proofs.YtdhbgelijjlifaaGreatDoor
open Go.RowKit
theorem text_cases (a b : ByteArray) : ((a == b) = true ∧ (a.toList == b.toList) = true ∧ a = b) ∨ ((a == b) = false ∧ (a.toList == b.toList) = false ∧ a.data.toList ≠ b.data.toList) := by
 by_cases h : a.toList = b.toList
 · refine .inl ⟨by rw [beq_toListBytes]; exact beq_iff_eq.2 h, beq_iff_eq.2 h, ?_⟩
   rw [Lib.toList_data, Lib.toList_data] at h
   obtain ⟨⟨a⟩⟩ := a
   obtain ⟨⟨b⟩⟩ := b
   simp at h
   subst h; rfl
 · exact .inr ⟨by rw [beq_toListBytes]; exact beq_eq_false_iff_ne.2 h, beq_eq_false_iff_ne.2 h, fun e => h (by rw [Lib.toList_data, Lib.toList_data]; exact e)⟩
end Go.Proofs.YtdhbgelijjlifaaGreatDoor
