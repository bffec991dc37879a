/- Plain law of sources: the tree of a text, or what is wrong first, and where. -/
import Derived.Test.YtdhbgelijjlifaaGreatDoorSrcPlainB
import Derived.Test.YtdhbgelijjlifaaGreatDoorMomWalkN
import Derived.Test.YtdhbgelijjlifaaGreatDoorFiePlainE
import Derived.Test.YtdhbgelijjlifaaGreatDoorSrcWalkD
import Derived.Test.YtdhbgelijjlifaaGreatDoorOwns
set_option linter.unusedVariables false
set_option linter.unusedSimpArgs false
namespace Go.Proofs.YtdhbgelijjlifaaGreatDoor
open Go
structure Fault where
 e : Int
 line : Int
 at0 : Int
namespace Src
abbrev Wd := ByteArray × Int
def tx (ws : List Wd) (i : Nat) : ByteArray := (ws.getD i (⟨#[]⟩, 0)).1
def pt (ws : List Wd) (i : Nat) : Int := (ws.getD i (⟨#[]⟩, 0)).2
def tl (ws : List Wd) (i : Nat) : List UInt8 := (tx ws i).data.toList
def yearP (t : List UInt8) : Int := if t.all digB = true ∧ t.length ≤ 4 then ((Mom.numOf t : Nat) : Int) else 0
def offP (t : List UInt8) (most : Int) : Int × Int := match Mom.spanR t with
 | none => (0, 6)
 | some n => if n ≤ -86400 ∨ 86400 ≤ n ∨ most < n ∨ n < -most then (0, 11) else (n, 0)
def spotP (ws : List Wd) (i : Nat) : Pr := parseR (((ws.drop i).take 3).map fun w => w.1.data.toList)
def toP (ws : List Wd) : Int := if tl ws 3 = [111, 110, 108, 121] then yearP (tl ws 2) else if tl ws 3 = [109, 97, 120] then 1000000 else yearP (tl ws 3)
def letP (ws : List Wd) : ByteArray := if tl ws 9 = [45] then ⟨#[]⟩ else tx ws 9
def ruleP (ws : List Wd) (line : Int) : Fault ⊕ Rule :=
 if setB (tl ws 1) = false then .inl ⟨6, line, pt ws 1⟩
 else if yearP (tl ws 2) = 0 then .inl ⟨6, line, pt ws 2⟩
 else if toP ws = 0 then .inl ⟨6, line, pt ws 3⟩
 else if ¬ tl ws 4 = [45] then .inl ⟨6, line, pt ws 4⟩
 else match spotP ws 5 with
  | .inl (k, e) => .inl ⟨e, line, pt ws (5 + k.toNat)⟩
  | .inr x =>
    if ¬ (offP (tl ws 8) 43200).2 = 0 then .inl ⟨(offP (tl ws 8) 43200).2, line, pt ws 8⟩
    else if madeB (tl ws 9) 8 [43, 45] = false then .inl ⟨6, line, pt ws 9⟩
    else .inr ⟨tx ws 1, yearP (tl ws 2), toP ws, x.m, x.k, x.wd, x.d, x.t, x.r, (offP (tl ws 8) 43200).1, letP ws⟩
def kindP (ws : List Wd) (i : Nat) (line : Int) : Fault ⊕ (Int × Int × ByteArray) :=
 if tl ws (i + 1) = [45] then .inr (0, 0, ⟨#[]⟩)
 else if opensB (tl ws (i + 1)) = true then (if setB (tl ws (i + 1)) = false then .inl ⟨6, line, pt ws (i + 1)⟩ else .inr (2, 0, tx ws (i + 1)))
 else if ¬ (offP (tl ws (i + 1)) 43200).2 = 0 then .inl ⟨(offP (tl ws (i + 1)) 43200).2, line, pt ws (i + 1)⟩
 else .inr (1, (offP (tl ws (i + 1)) 43200).1, ⟨#[]⟩)
def noSpot : Spot := ⟨0, 0, 0, 0, 0, 0⟩
def untilP (ws : List Wd) (i : Nat) (line : Int) : Fault ⊕ (Bool × Int × Spot) :=
 if ws.length ≤ i + 3 then .inr (false, 0, noSpot)
 else if yearP (tl ws (i + 3)) = 0 then .inl ⟨6, line, pt ws (i + 3)⟩
 else match spotP ws (i + 4) with
  | .inl (k, e) => .inl ⟨e, line, pt ws (i + 4 + k.toNat)⟩
  | .inr x => .inr (true, yearP (tl ws (i + 3)), x)
def eraP (ws : List Wd) (i : Nat) (line : Int) : Fault ⊕ Era :=
 if ¬ (offP (tl ws i) 86400).2 = 0 then .inl ⟨(offP (tl ws i) 86400).2, line, pt ws i⟩
 else match kindP ws i line with
  | .inl f => .inl f
  | .inr (kd, s, rs) =>
    if fmtB (tl ws (i + 2)) = false then .inl ⟨6, line, pt ws (i + 2)⟩
    else match untilP ws i line with
     | .inl f => .inl f
     | .inr (til, y, x) => .inr ⟨(offP (tl ws i) 86400).1, kd, s, rs, tx ws (i + 2), til, y, x.m, x.k, x.wd, x.d, x.t, x.r⟩
def countP (ws : List Wd) (size : Nat) (line : Int) (least most : Nat) : Option Fault :=
 if ws.length < least then some ⟨14, line, size⟩ else if most < ws.length then some ⟨15, line, pt ws most⟩ else none
def lastE (S : Source) : List Era := match S.zones.getLast? with
 | none => []
 | some z => z.es
def openB (S : Source) : Bool := match (lastE S).getLast? with
 | none => false
 | some x => x.til
def addEra (zs : List Zone) (x : Era) : List Zone := match zs.getLast? with
 | none => []
 | some z => zs.dropLast ++ [⟨z.nm, z.es ++ [x]⟩]
def zoneP (S : Source) (ws : List Wd) (size : Nat) (line : Int) : Fault ⊕ Source :=
 if 50 ≤ S.zones.length then .inl ⟨12, line, pt ws 0⟩
 else match countP ws size line 5 9 with
  | some f => .inl f
  | none => if placeB (tl ws 1) = false then .inl ⟨6, line, pt ws 1⟩
    else match eraP ws 2 line with
     | .inl f => .inl f
     | .inr x => .inr ⟨S.rules, S.zones ++ [⟨tx ws 1, [x]⟩], S.links⟩
def nextP (S : Source) (ws : List Wd) (size : Nat) (line : Int) : Fault ⊕ Source :=
 if 40 ≤ (lastE S).length then .inl ⟨12, line, pt ws 0⟩
 else match countP ws size line 3 7 with
  | some f => .inl f
  | none => match eraP ws 0 line with
    | .inl f => .inl f
    | .inr x => .inr ⟨S.rules, addEra S.zones x, S.links⟩
def ruleLineP (S : Source) (ws : List Wd) (size : Nat) (line : Int) : Fault ⊕ Source :=
 if 200 ≤ S.rules.length then .inl ⟨12, line, pt ws 0⟩
 else match countP ws size line 10 10 with
  | some f => .inl f
  | none => match ruleP ws line with
    | .inl f => .inl f
    | .inr x => .inr ⟨S.rules ++ [x], S.zones, S.links⟩
def linkP (S : Source) (ws : List Wd) (size : Nat) (line : Int) : Fault ⊕ Source :=
 if 100 ≤ S.links.length then .inl ⟨12, line, pt ws 0⟩
 else match countP ws size line 3 3 with
  | some f => .inl f
  | none => if placeB (tl ws 1) = false then .inl ⟨6, line, pt ws 1⟩
    else if placeB (tl ws 2) = false then .inl ⟨6, line, pt ws 2⟩
    else .inr ⟨S.rules, S.zones, S.links ++ [⟨tx ws 1, tx ws 2⟩]⟩
def lineP (S : Source) (ws : List Wd) (size : Nat) (line : Int) : Fault ⊕ Source :=
 if openB S = true then nextP S ws size line
 else if tl ws 0 = [82, 117, 108, 101] then ruleLineP S ws size line
 else if tl ws 0 = [90, 111, 110, 101] then zoneP S ws size line
 else if tl ws 0 = [76, 105, 110, 107] then linkP S ws size line
 else .inl ⟨13, line, pt ws 0⟩
def splitW (s : ByteArray) : List Wd × Int × Int := if s.size ≤ 500 then run s (Fie.stop Fie.blank s 0) [] else ([], 500, 12)
def parseP : List ByteArray → Int → Source → Fault ⊕ Source
 | [], n, S => if openB S = true then .inl ⟨14, n + 1, 0⟩ else .inr S
 | l :: r, n, S =>
   if ¬ (splitW l).2.2 = 0 then .inl ⟨(splitW l).2.2, n + 1, (splitW l).2.1⟩
   else if (splitW l).1 = [] then parseP r (n + 1) S
   else match lineP S (splitW l).1 l.size (n + 1) with
    | .inl f => .inl f
    | .inr S' => parseP r (n + 1) S'
def parseT (t : ByteArray) : Fault ⊕ Source := if 100000 < t.size then .inl ⟨12, 0, 0⟩ else parseP (Fie.lines t 0) 0 ⟨[], [], []⟩
end Src
end Go.Proofs.YtdhbgelijjlifaaGreatDoor
namespace Go.Proofs.YtdhbgelijjlifaaGreatDoor
open Go
namespace Src
def fitsN (S : Source) : Prop := S.rules.length ≤ 200 ∧ S.zones.length ≤ 50 ∧ S.links.length ≤ 100 ∧ (lastE S).length ≤ 40
theorem open_zones {S : Source} (h : openB S = true) : S.zones ≠ [] := by
 intro h0
 unfold openB lastE at h
 rw [h0] at h
 simp at h
theorem last_add {zs : List Zone} {x : Era} (rs : List Rule) (ls : List Link) (h : zs ≠ []) : lastE ⟨rs, addEra zs x, ls⟩ = lastE ⟨rs, zs, ls⟩ ++ [x] ∧ (addEra zs x).length = zs.length := by
 rcases List.eq_nil_or_concat zs with h0 | ⟨l, a, h0⟩
 · exact absurd h0 h
 · rw [List.concat_eq_append] at h0
   subst h0
   unfold lastE addEra
   simp
theorem line_fits {S S' : Source} {ws : List Wd} {size : Nat} {line : Int} (h : lineP S ws size line = .inr S') (hf : fitsN S) : fitsN S' := by
 obtain ⟨f1, f2, f3, f4⟩ := hf
 unfold lineP at h
 split at h
 · rename_i ho
   unfold nextP at h
   split at h
   · cases h
   rename_i h0
   split at h
   · cases h
   split at h
   · cases h
   · injection h with h; subst h
     have hl := last_add (x := ‹Era›) S.rules S.links (open_zones ho)
     refine ⟨f1, by show (addEra S.zones _).length ≤ 50; rw [hl.2]; exact f2, f3, ?_⟩
     rw [hl.1, List.length_append]
     have : (lastE ⟨S.rules, S.zones, S.links⟩).length = (lastE S).length := rfl
     simp only [List.length_singleton]
     omega
 split at h
 · unfold ruleLineP at h
   split at h
   · cases h
   rename_i h0
   split at h
   · cases h
   split at h
   · cases h
   · injection h with h; subst h
     exact ⟨by show (S.rules ++ _).length ≤ 200; rw [List.length_append, List.length_singleton]; omega, f2, f3, f4⟩
 split at h
 · unfold zoneP at h
   split at h
   · cases h
   rename_i h0
   split at h
   · cases h
   split at h
   · cases h
   split at h
   · cases h
   · injection h with h; subst h
     exact ⟨f1, by show (S.zones ++ _).length ≤ 50; rw [List.length_append, List.length_singleton]; omega, f3, by unfold lastE; simp⟩
 split at h
 · unfold linkP at h
   split at h
   · cases h
   rename_i h0
   split at h
   · cases h
   split at h
   · cases h
   split at h
   · cases h
   · injection h with h; subst h
     exact ⟨f1, f2, by show (S.links ++ _).length ≤ 100; rw [List.length_append, List.length_singleton]; omega, f4⟩
 · cases h
theorem count_bd {ws : List Wd} {size : Nat} {line : Int} {a b : Nat} (h : countP ws size line a b = none) : a ≤ ws.length ∧ ws.length ≤ b := by
 unfold countP at h
 split at h
 · cases h
 · split at h
   · cases h
   · omega
def readP (S : Source) (s : ByteArray) (n : Int) : Fault ⊕ Source :=
 if ¬ (splitW s).2.2 = 0 then .inl ⟨(splitW s).2.2, n, (splitW s).2.1⟩ else if (splitW s).1 = [] then .inr S else lineP S (splitW s).1 s.size n
theorem parse_cons (l : ByteArray) (r : List ByteArray) (n : Int) (S : Source) : parseP (l :: r) n S = match readP S l (n + 1) with
 | .inl f => .inl f
 | .inr S' => parseP r (n + 1) S' := by
 rw [parseP, readP]
 split
 · rfl
 split
 · rfl
 · rfl
theorem read_fits {S S' : Source} {s : ByteArray} {n : Int} (h : readP S s n = .inr S') (hf : fitsN S) : fitsN S' := by
 unfold readP at h
 split at h
 · cases h
 split at h
 · injection h with h; subst h; exact hf
 · exact line_fits h hf
theorem runN_words (s : ByteArray) : ∀ (f k : Nat) (ws : List Wd), ws.length ≤ 16 → (∀ x ∈ ws, x.1.size ≤ s.size) → (runN s f k ws).1.length ≤ 16 ∧ ∀ x ∈ (runN s f k ws).1, x.1.size ≤ s.size
 | 0, k, ws, h, hs => ⟨h, hs⟩
 | f + 1, k, ws, h, hs => by
   rw [runN]
   by_cases hk : k < s.size
   · rw [dif_pos hk]
     split
     · exact ⟨h, hs⟩
     · cases hc : cut s k ws.length with
       | inl q => exact ⟨by simp, by simp⟩
       | inr q =>
         obtain ⟨lo, hi, en⟩ := q
         have hb := cut_bd s k ws.length lo hi en hk hc
         have hl : ws.length < 16 := by
          unfold cut at hc
          rw [dif_pos hk] at hc
          by_cases c : ws.length = 16
          · exfalso
            split at hc
            · first | cases hc | (rw [if_pos c] at hc; cases hc)
            · split at hc
              · cases hc
              · first | cases hc | (rw [if_pos c] at hc; cases hc)
          · omega
         refine runN_words s f _ _ (by simp; omega) (fun x hx => ?_)
         rcases List.mem_append.1 hx with hx | hx
         · exact hs x hx
         · rw [List.mem_singleton.1 hx]
           show (s.extract lo hi).size ≤ s.size
           rw [ByteArray.size_extract]; omega
   · rw [dif_neg hk]; exact ⟨h, hs⟩
theorem words_ok (s : ByteArray) : (splitW s).1.length ≤ 16 ∧ ∀ x ∈ (splitW s).1, x.1.size ≤ 1000 := by
 unfold splitW
 split
 · rename_i h
   obtain ⟨h1, h2⟩ := runN_words s (s.size - Fie.stop Fie.blank s 0) (Fie.stop Fie.blank s 0) [] (by simp) (by simp)
   exact ⟨h1, fun x hx => Nat.le_trans (h2 x hx) (by omega)⟩
 · exact ⟨by simp, by simp⟩
end Src
end Go.Proofs.YtdhbgelijjlifaaGreatDoor
namespace Go.Proofs.YtdhbgelijjlifaaGreatDoor
open Go Go.RowKit
section
variable {w w1 : World} {base : Nat} {e : TypeId} {size : Nat} {v : Value} {n : Nat} {xs : List Value}
theorem own_base {base' : Nat} (h : w.ownsRow base e size v n xs) (hb : base' ≤ base) : w.ownsRow base' e size v n xs := by
 refine ⟨h.1, ?_⟩
 rcases h.2 with h2 | ⟨g, cap, cur, h1, h2, h3⟩
 · exact .inl h2
 · exact .inr ⟨g, cap, cur, h1, Nat.le_trans hb h2, h3⟩
theorem own_ne {base' : Nat} {e' : TypeId} {size' : Nat} {v' : Value} {n' : Nat} {xs' : List Value} (h : w.ownsRow base e size v n xs) (h' : w.ownsRow base' e' size' v' n' xs') (he : e ≠ e') : v.ownBlock = none ∨ v.ownBlock ≠ v'.ownBlock := by
 rcases h.2 with ⟨h1, _⟩ | ⟨g, cap, cur, h1, _, h3, _⟩
 · left; rw [h1]; rfl
 · rcases h'.2 with ⟨k1, _⟩ | ⟨g', cap', cur', k1, _, k3, _⟩
   · right; rw [h1, k1]; simp [Value.ownBlock]
   · right
     rw [h1, k1]
     simp only [Value.ownBlock]
     intro hh
     injection hh with hh
     subst hh
     rw [h3] at k3
     injection k3 with k3
     injection k3 with _ k3
     exact he k3
theorem own_other {base' : Nat} {e' : TypeId} {size' : Nat} {v' : Value} {n' : Nat} {xs' : List Value} (h : w.ownsRow base e size v n xs) (h' : w.ownsRow base' e' size' v' n' xs') (he : e ≠ e') (hg : w.grownBy w1 v'.ownBlock) : w1.ownsRow base e size v n xs :=
 h.kept hg (own_ne h h' he)
def LowV (v : Value) (B : Nat) : Prop := ∀ g, v.ownBlock = some g → g < B
theorem own_low {B : Nat} {e' : TypeId} {size' : Nat} {v' : Value} {n' : Nat} {xs' : List Value} (h : w.ownsRow base e size v n xs) (hl : LowV v B) (h' : w.ownsRow B e' size' v' n' xs') (hg : w.grownBy w1 v'.ownBlock) : w1.ownsRow base e size v n xs := by
 refine h.kept hg ?_
 cases hv : v.ownBlock with
 | none => exact .inl rfl
 | some g =>
   right
   intro hh
   have h1 := hl g hv
   have h2 := (h'.lt g hh.symm).1
   omega
theorem own_past (h : w.ownsRow base e size v n xs) (hx : Ext w w1) : w1.ownsRow base e size v n xs := h.kept (grown_of_ext hx) (by cases hv : v.ownBlock <;> simp)
theorem low_size (h : w.ownsRow base e size v n xs) : LowV v w.heap.size := fun g hg => (h.lt g hg).2
theorem LowV.le {B B' : Nat} (h : LowV v B) (hb : B ≤ B') : LowV v B' := fun g hg => Nat.lt_of_lt_of_le (h g hg) hb
theorem own_store {p : Addr} {u : Value} (h : w.ownsRow base e size v n xs) (hp : v.ownBlock = none ∨ v.ownBlock ≠ some p.block) : (w.setCell p u).ownsRow base e size v n xs := by
 refine ⟨h.1, ?_⟩
 rcases h.2 with h2 | ⟨g, cap, cur, h1, h2, h3, h4⟩
 · exact .inl h2
 · refine .inr ⟨g, cap, cur, h1, h2, ?_, h4⟩
   rw [Below.heap_setCell _ _ _ _ (by
    rw [h1] at hp
    simp [Value.ownBlock] at hp
    exact hp)]
   exact h3
theorem own_set {g i : Nat} {u : Value} (h : w.ownsRow base e size v n xs) (hg : v.ownBlock = some g) (hi : i < xs.length) : (w.setCell ⟨g, i, none⟩ u).ownsRow base e size v n (xs.set i u) := by
 rcases h.2 with ⟨h1, _⟩ | ⟨g', cap, cur, h1, h2, h3, h4, h5, h6, h7⟩
 · rw [h1] at hg; simp [Value.ownBlock] at hg
 · rw [h1] at hg
   simp [Value.ownBlock] at hg
   subst hg
   refine ⟨by rw [List.length_set]; exact h.1, .inr ⟨g', cap, cur.setIfInBounds i u, h1, h2, ?_, h4, h5, by simpa using h6, ?_⟩⟩
   · have hlt : g' < w.heap.size := (Array.getElem?_eq_some_iff.1 h3).1
     simp only [World.setCell]
     rw [Array.getElem?_modify]
     simp [h3]
   · rw [← h7, Array.toList_setIfInBounds, List.take_set]
end
structure Tree (w : World) (base : Nat) (vr vz vl : Value) (zp : List (Zone × Value)) (S : Source) : Prop where
 rules : w.ownsRow base 61 11 vr S.rules.length (ruleRow S.rules)
 zones : w.ownsRow base 59 2 vz S.zones.length (zoneRow zp)
 links : w.ownsRow base 63 2 vl S.links.length (linkRow S.links)
 names : zp.map (·.1) = S.zones
 eras : ∃ B, base ≤ B ∧ (∀ p ∈ zp.dropLast, w.ownsRow base 56 13 p.2 p.1.es.length (eraRow p.1.es) ∧ LowV p.2 B) ∧ (∀ p, zp.getLast? = some p → w.ownsRow B 56 13 p.2 p.1.es.length (eraRow p.1.es))
section
variable {w w1 : World} {base : Nat} {vr vz vl : Value} {zp : List (Zone × Value)} {S : Source}
theorem Tree.empty : Tree w base (.slice none 0 0) (.slice none 0 0) (.slice none 0 0) [] ⟨[], [], []⟩ :=
 ⟨World.ownsRow_nil _ _ _ _, World.ownsRow_nil _ _ _ _, World.ownsRow_nil _ _ _ _, rfl, base, Nat.le_refl _, fun p hp => (by cases hp), fun p hp => (by cases hp)⟩
theorem Tree.past (h : Tree w base vr vz vl zp S) (hx : Ext w w1) : Tree w1 base vr vz vl zp S := by
 obtain ⟨h1, h2, h3, h4, B, hb, h5, h6⟩ := h
 exact ⟨own_past h1 hx, own_past h2 hx, own_past h3 hx, h4, B, hb, fun p hp => ⟨own_past (h5 p hp).1 hx, (h5 p hp).2⟩, fun p hp => own_past (h6 p hp) hx⟩
theorem Tree.store (h : Tree w base vr vz vl zp S) {p : Addr} {u : Value} (hp : p.block < base) : Tree (w.setCell p u) base vr vz vl zp S := by
 have key : ∀ {b : Nat} {e : TypeId} {size n : Nat} {v : Value} {xs : List Value}, base ≤ b → w.ownsRow b e size v n xs → (w.setCell p u).ownsRow b e size v n xs := fun {b e size n v xs} hb ho => own_store ho (by
  cases hv : v.ownBlock with
  | none => exact .inl rfl
  | some g =>
    right
    intro hh
    injection hh with hh
    have := (ho.lt g hv).1
    omega)
 obtain ⟨h1, h2, h3, h4, B, hb, h5, h6⟩ := h
 exact ⟨key (Nat.le_refl _) h1, key (Nat.le_refl _) h2, key (Nat.le_refl _) h3, h4, B, hb, fun p hp => ⟨key (Nat.le_refl _) (h5 p hp).1, (h5 p hp).2⟩, fun p hp => key hb (h6 p hp)⟩
theorem Tree.era_kept (h : Tree w base vr vz vl zp S) {base' : Nat} {e' : TypeId} {size' : Nat} {v' : Value} {n' : Nat} {xs' : List Value} (h' : w.ownsRow base' e' size' v' n' xs') (he : 56 ≠ e') (hg : w.grownBy w1 v'.ownBlock) :
 ∃ B, base ≤ B ∧ (∀ p ∈ zp.dropLast, w1.ownsRow base 56 13 p.2 p.1.es.length (eraRow p.1.es) ∧ LowV p.2 B) ∧ (∀ p, zp.getLast? = some p → w1.ownsRow B 56 13 p.2 p.1.es.length (eraRow p.1.es)) := by
 obtain ⟨B, hb, h5, h6⟩ := h.eras
 exact ⟨B, hb, fun p hp => ⟨own_other (h5 p hp).1 h' he hg, (h5 p hp).2⟩, fun p hp => own_other (h6 p hp) h' he hg⟩
theorem Tree.rule (h : Tree w base vr vz vl zp S) {vr' : Value} {x : Rule} (ho : w1.ownsRow base 61 11 vr' (S.rules.length + 1) (ruleRow (S.rules ++ [x]))) (hg : w.grownBy w1 vr.ownBlock) : Tree w1 base vr' vz vl zp ⟨S.rules ++ [x], S.zones, S.links⟩ :=
 ⟨by simpa using ho, own_other h.zones h.rules (by decide) hg, own_other h.links h.rules (by decide) hg, h.names, h.era_kept h.rules (by decide) hg⟩
theorem Tree.link (h : Tree w base vr vz vl zp S) {vl' : Value} {x : Link} (ho : w1.ownsRow base 63 2 vl' (S.links.length + 1) (linkRow (S.links ++ [x]))) (hg : w.grownBy w1 vl.ownBlock) : Tree w1 base vr vz vl' zp ⟨S.rules, S.zones, S.links ++ [x]⟩ :=
 ⟨own_other h.rules h.links (by decide) hg, own_other h.zones h.links (by decide) hg, by simpa using ho, h.names, h.era_kept h.links (by decide) hg⟩
theorem Tree.all_eras (h : Tree w base vr vz vl zp S) : ∀ p ∈ zp, w.ownsRow base 56 13 p.2 p.1.es.length (eraRow p.1.es) := by
 obtain ⟨B, hb, h5, h6⟩ := h.eras
 intro p hp
 rcases List.eq_nil_or_concat zp with h0 | ⟨l, a, h0⟩
 · rw [h0] at hp; cases hp
 · rw [List.concat_eq_append] at h0
   subst h0
   rcases List.mem_append.1 hp with hp | hp
   · exact (h5 p (by simpa using hp)).1
   · obtain rfl := List.mem_singleton.1 hp
     exact own_base (h6 p (by simp)) hb
theorem Tree.zone (h : Tree w base vr vz vl zp S) {vz' V : Value} {z : Zone} (ho : w1.ownsRow base 59 2 vz' (S.zones.length + 1) (zoneRow (zp ++ [(z, V)]))) (hg : w.grownBy w1 vz.ownBlock) {B : Nat} (hb : base ≤ B) (hl : ∀ p ∈ zp, LowV p.2 B)
 (hV : w.ownsRow B 56 13 V z.es.length (eraRow z.es)) : Tree w1 base vr vz' vl (zp ++ [(z, V)]) ⟨S.rules, S.zones ++ [z], S.links⟩ := by
 refine ⟨own_other h.rules h.zones (by decide) hg, by simpa using ho, own_other h.links h.zones (by decide) hg, by simp [h.names], B, hb, fun p hp => ?_, fun p hp => ?_⟩
 · have hp : p ∈ zp := by simpa using hp
   exact ⟨own_other (h.all_eras p hp) h.zones (by decide) hg, hl p hp⟩
 · have hp : (z, V) = p := by simpa using hp
   subst hp
   exact own_other hV h.zones (by decide) hg
theorem Tree.era {zi : List (Zone × Value)} {z : Zone} {V V' : Value} {x : Era} {B gz : Nat} (h : Tree w base vr vz vl (zi ++ [(z, V)]) S) (hb : base ≤ B) (hl : ∀ p ∈ zi, LowV p.2 B) (hV : w.ownsRow B 56 13 V z.es.length (eraRow z.es))
 (ho : w1.ownsRow B 56 13 V' (z.es.length + 1) (eraRow (z.es ++ [x]))) (hg : w.grownBy w1 V.ownBlock) (hgz : vz.ownBlock = some gz) :
 Tree (w1.setCell ⟨gz, zi.length * 2 + 1, none⟩ V') base vr vz vl (zi ++ [(⟨z.nm, z.es ++ [x]⟩, V')]) ⟨S.rules, Src.addEra S.zones x, S.links⟩ := by
 have hz1 : w1.ownsRow base 59 2 vz S.zones.length (zoneRow (zi ++ [(z, V)])) := own_other h.zones hV (by decide) hg
 have key : ∀ {b : Nat} {e : TypeId} {size n : Nat} {v : Value} {xs : List Value}, e ≠ 59 → w1.ownsRow b e size v n xs → (w1.setCell ⟨gz, zi.length * 2 + 1, none⟩ V').ownsRow b e size v n xs := fun {b e size n v xs} he ho => own_store ho (by
  rcases own_ne ho hz1 he with h1 | h1
  · exact .inl h1
  · right; rw [hgz] at h1; exact h1)
 have hn : zi.map (·.1) ++ [z] = S.zones := by simpa using h.names
 have hadd : Src.addEra S.zones x = zi.map (·.1) ++ [⟨z.nm, z.es ++ [x]⟩] := by
  rw [← hn]; unfold Src.addEra; simp
 have hlen : S.zones.length = zi.length + 1 := by rw [← hn]; simp
 have hrow : (zoneRow (zi ++ [(z, V)])).set (zi.length * 2 + 1) V' = zoneRow (zi ++ [(⟨z.nm, z.es ++ [x]⟩, V')]) := by
  unfold zoneRow
  rw [rowOf_snoc, rowOf_snoc, List.set_append_right _ _ (by rw [rowOf_len (c := 2) (fun _ => rfl)]; omega), rowOf_len (c := 2) (fun _ => rfl)]
  rw [show zi.length * 2 + 1 - zi.length * 2 = 1 by omega]; rfl
 refine ⟨key (by decide) (own_other h.rules hV (by decide) hg), ?_, key (by decide) (own_other h.links hV (by decide) hg), ?_, B, hb, fun p hp => ?_, fun p hp => ?_⟩
 · have := own_set (u := V') (i := zi.length * 2 + 1) hz1 hgz (by unfold zoneRow; rw [rowOf_len (c := 2) (fun _ => rfl), List.length_append, List.length_singleton]; omega)
   rw [hrow] at this
   show World.ownsRow _ _ _ _ _ (Src.addEra S.zones x).length _
   rw [hadd, show (zi.map (·.1) ++ [(⟨z.nm, z.es ++ [x]⟩ : Zone)]).length = S.zones.length by rw [hlen]; simp]
   exact this
 · show _ = Src.addEra S.zones x
   rw [hadd]; simp
 · have hp : p ∈ zi := by simpa using hp
   refine ⟨key (by decide) ?_, hl p hp⟩
   exact own_low (h.all_eras p (by simp [hp])) (hl p hp) hV hg
 · have hp : ((⟨z.nm, z.es ++ [x]⟩ : Zone), V') = p := by simpa using hp
   subst hp
   exact key (by decide) (by simpa using ho)
theorem Tree.reads (h : Tree w base vr vz vl zp S) : ReadsS w (.agg #[vr, vz, vl]) S :=
 ⟨vr, vz, vl, rfl, owns_reads h.rules (by decide), ⟨zp, h.names, owns_reads h.zones (by decide), fun p hp => owns_reads (h.all_eras p hp) (by decide)⟩, owns_reads h.links (by decide)⟩
theorem Tree.last {zi : List (Zone × Value)} {z : Zone} {V : Value} (h : Tree w base vr vz vl (zi ++ [(z, V)]) S) : ∃ B, base ≤ B ∧ (∀ p ∈ zi, LowV p.2 B) ∧ w.ownsRow B 56 13 V z.es.length (eraRow z.es) := by
 obtain ⟨B, hb, h5, h6⟩ := h.eras
 exact ⟨B, hb, fun p hp => (h5 p (by simpa using hp)).2, h6 (z, V) (by simp)⟩
end
end Go.Proofs.YtdhbgelijjlifaaGreatDoor
