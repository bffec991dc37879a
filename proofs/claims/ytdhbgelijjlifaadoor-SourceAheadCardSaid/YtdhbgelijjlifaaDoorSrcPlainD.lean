/- Plain law of sources: the tree of a text, or what is wrong first, and where. -/
import Derived.Test.YtdhbgelijjlifaaDoorSrcPlainB
import Derived.Test.YtdhbgelijjlifaaDoorMomWalkN
import Derived.Test.YtdhbgelijjlifaaDoorFiePlainE
set_option linter.unusedVariables false
set_option linter.unusedSimpArgs false
namespace Go.Proofs.YtdhbgelijjlifaaDoor
open Go
/-- What is wrong, and where. -/
structure Fault where
  e : Int
  line : Int
  at0 : Int
namespace Src
abbrev Wd := ByteArray × Int
def tx (ws : List Wd) (i : Nat) : ByteArray := (ws.getD i (⟨#[]⟩, 0)).1
def pt (ws : List Wd) (i : Nat) : Int := (ws.getD i (⟨#[]⟩, 0)).2
def tl (ws : List Wd) (i : Nat) : List UInt8 := (tx ws i).data.toList
/-- One to four digits, not 0; 0: it is none. -/
def yearP (t : List UInt8) : Int := if t.all digB = true ∧ t.length ≤ 4 then ((Mom.numOf t : Nat) : Int) else 0
/-- An offset of at most so many seconds, and the error's number. -/
def offP (t : List UInt8) (most : Int) : Int × Int := match Mom.spanR t with
  | none => (0, 6)
  | some n => if n ≤ -86400 ∨ 86400 ≤ n ∨ most < n ∨ n < -most then (0, 11) else (n, 0)
def spotP (ws : List Wd) (i : Nat) : Pr := parseR (((ws.drop i).take 3).map fun w => w.1.data.toList)
/-- The last year of a rule; 0: it is none. -/
def toP (ws : List Wd) : Int := if tl ws 3 = [111, 110, 108, 121] then yearP (tl ws 2) else if tl ws 3 = [109, 97, 120] then 1000000 else yearP (tl ws 3)
def letP (ws : List Wd) : ByteArray := if tl ws 9 = [45] then ⟨#[]⟩ else tx ws 9
def ruleP (ws : List Wd) (line : Int) : Fault ⊕ Rule :=
  if setB (tl ws 1) = false then .inl ⟨6, line, pt ws 1⟩
  else if yearP (tl ws 2) = 0 then .inl ⟨6, line, pt ws 2⟩
  else if toP ws = 0 then .inl ⟨6, line, pt ws 3⟩
  else if ¬ tl ws 4 = [45] then .inl ⟨6, line, pt ws 4⟩
  else match spotP ws 5 with
    | .inl (k, e) => .inl ⟨e, line, pt ws (5 + k.toNat)⟩
    | .inr x =>
      if ¬ (offP (tl ws 8) 43200).2 = 0 then .inl ⟨(offP (tl ws 8) 43200).2, line, pt ws 8⟩
      else if madeB (tl ws 9) 8 [43, 45] = false then .inl ⟨6, line, pt ws 9⟩
      else .inr ⟨tx ws 1, yearP (tl ws 2), toP ws, x.m, x.k, x.wd, x.d, x.t, x.r, (offP (tl ws 8) 43200).1, letP ws⟩
/-- By what an era's saving is told: its kind, the saving, the set's name. -/
def kindP (ws : List Wd) (i : Nat) (line : Int) : Fault ⊕ (Int × Int × ByteArray) :=
  if tl ws (i + 1) = [45] then .inr (0, 0, ⟨#[]⟩)
  else if opensB (tl ws (i + 1)) = true then (if setB (tl ws (i + 1)) = false then .inl ⟨6, line, pt ws (i + 1)⟩ else .inr (2, 0, tx ws (i + 1)))
  else if ¬ (offP (tl ws (i + 1)) 43200).2 = 0 then .inl ⟨(offP (tl ws (i + 1)) 43200).2, line, pt ws (i + 1)⟩
  else .inr (1, (offP (tl ws (i + 1)) 43200).1, ⟨#[]⟩)
def noSpot : Spot := ⟨0, 0, 0, 0, 0, 0⟩
/-- Up to when an era is. -/
def untilP (ws : List Wd) (i : Nat) (line : Int) : Fault ⊕ (Bool × Int × Spot) :=
  if ws.length ≤ i + 3 then .inr (false, 0, noSpot)
  else if yearP (tl ws (i + 3)) = 0 then .inl ⟨6, line, pt ws (i + 3)⟩
  else match spotP ws (i + 4) with
    | .inl (k, e) => .inl ⟨e, line, pt ws (i + 4 + k.toNat)⟩
    | .inr x => .inr (true, yearP (tl ws (i + 3)), x)
def eraP (ws : List Wd) (i : Nat) (line : Int) : Fault ⊕ Era :=
  if ¬ (offP (tl ws i) 86400).2 = 0 then .inl ⟨(offP (tl ws i) 86400).2, line, pt ws i⟩
  else match kindP ws i line with
    | .inl f => .inl f
    | .inr (kd, s, rs) =>
      if fmtB (tl ws (i + 2)) = false then .inl ⟨6, line, pt ws (i + 2)⟩
      else match untilP ws i line with
        | .inl f => .inl f
        | .inr (til, y, x) => .inr ⟨(offP (tl ws i) 86400).1, kd, s, rs, tx ws (i + 2), til, y, x.m, x.k, x.wd, x.d, x.t, x.r⟩
def countP (ws : List Wd) (size : Nat) (line : Int) (least most : Nat) : Option Fault :=
  if ws.length < least then some ⟨14, line, size⟩ else if most < ws.length then some ⟨15, line, pt ws most⟩ else none
/-- The eras of the last zone. -/
def lastE (S : Source) : List Era := match S.zones.getLast? with
  | none => []
  | some z => z.es
/-- Is the last zone's next era still to come? -/
def openB (S : Source) : Bool := match (lastE S).getLast? with
  | none => false
  | some x => x.til
def addEra (zs : List Zone) (x : Era) : List Zone := match zs.getLast? with
  | none => []
  | some z => zs.dropLast ++ [⟨z.nm, z.es ++ [x]⟩]
def zoneP (S : Source) (ws : List Wd) (size : Nat) (line : Int) : Fault ⊕ Source :=
  if 50 ≤ S.zones.length then .inl ⟨12, line, pt ws 0⟩
  else match countP ws size line 5 9 with
    | some f => .inl f
    | none => if placeB (tl ws 1) = false then .inl ⟨6, line, pt ws 1⟩
      else match eraP ws 2 line with
        | .inl f => .inl f
        | .inr x => .inr ⟨S.rules, S.zones ++ [⟨tx ws 1, [x]⟩], S.links⟩
def nextP (S : Source) (ws : List Wd) (size : Nat) (line : Int) : Fault ⊕ Source :=
  if 40 ≤ (lastE S).length then .inl ⟨12, line, pt ws 0⟩
  else match countP ws size line 3 7 with
    | some f => .inl f
    | none => match eraP ws 0 line with
      | .inl f => .inl f
      | .inr x => .inr ⟨S.rules, addEra S.zones x, S.links⟩
def ruleLineP (S : Source) (ws : List Wd) (size : Nat) (line : Int) : Fault ⊕ Source :=
  if 200 ≤ S.rules.length then .inl ⟨12, line, pt ws 0⟩
  else match countP ws size line 10 10 with
    | some f => .inl f
    | none => match ruleP ws line with
      | .inl f => .inl f
      | .inr x => .inr ⟨S.rules ++ [x], S.zones, S.links⟩
def linkP (S : Source) (ws : List Wd) (size : Nat) (line : Int) : Fault ⊕ Source :=
  if 100 ≤ S.links.length then .inl ⟨12, line, pt ws 0⟩
  else match countP ws size line 3 3 with
    | some f => .inl f
    | none => if placeB (tl ws 1) = false then .inl ⟨6, line, pt ws 1⟩
      else if placeB (tl ws 2) = false then .inl ⟨6, line, pt ws 2⟩
      else .inr ⟨S.rules, S.zones, S.links ++ [⟨tx ws 1, tx ws 2⟩]⟩
/-- The source behind a line with fields. -/
def lineP (S : Source) (ws : List Wd) (size : Nat) (line : Int) : Fault ⊕ Source :=
  if openB S = true then nextP S ws size line
  else if tl ws 0 = [82, 117, 108, 101] then ruleLineP S ws size line
  else if tl ws 0 = [90, 111, 110, 101] then zoneP S ws size line
  else if tl ws 0 = [76, 105, 110, 107] then linkP S ws size line
  else .inl ⟨13, line, pt ws 0⟩
/-- A line's fields, or what is wrong. -/
def splitW (s : ByteArray) : List Wd × Int × Int := if s.size ≤ 500 then run s (Fie.stop Fie.blank s 0) [] else ([], 500, 12)
def parseP : List ByteArray → Int → Source → Fault ⊕ Source
  | [], n, S => if openB S = true then .inl ⟨14, n + 1, 0⟩ else .inr S
  | l :: r, n, S =>
    if ¬ (splitW l).2.2 = 0 then .inl ⟨(splitW l).2.2, n + 1, (splitW l).2.1⟩
    else if (splitW l).1 = [] then parseP r (n + 1) S
    else match lineP S (splitW l).1 l.size (n + 1) with
      | .inl f => .inl f
      | .inr S' => parseP r (n + 1) S'
def parseT (t : ByteArray) : Fault ⊕ Source := if 100000 < t.size then .inl ⟨12, 0, 0⟩ else parseP (Fie.lines t 0) 0 ⟨[], [], []⟩
end Src
end Go.Proofs.YtdhbgelijjlifaaDoor
set_option linter.unusedVariables false
set_option linter.unusedSimpArgs false
namespace Go.Proofs.YtdhbgelijjlifaaDoor
open Go
namespace Src
/-- As many as may be. -/
def fitsN (S : Source) : Prop := S.rules.length ≤ 200 ∧ S.zones.length ≤ 50 ∧ S.links.length ≤ 100 ∧ (lastE S).length ≤ 40
theorem open_zones {S : Source} (h : openB S = true) : S.zones ≠ [] := by
  intro h0
  unfold openB lastE at h
  rw [h0] at h
  simp at h
theorem last_add {zs : List Zone} {x : Era} (rs : List Rule) (ls : List Link) (h : zs ≠ []) : lastE ⟨rs, addEra zs x, ls⟩ = lastE ⟨rs, zs, ls⟩ ++ [x] ∧ (addEra zs x).length = zs.length := by
  rcases List.eq_nil_or_concat zs with h0 | ⟨l, a, h0⟩
  · exact absurd h0 h
  · rw [List.concat_eq_append] at h0
    subst h0
    unfold lastE addEra
    simp
theorem line_fits {S S' : Source} {ws : List Wd} {size : Nat} {line : Int} (h : lineP S ws size line = .inr S') (hf : fitsN S) : fitsN S' := by
  obtain ⟨f1, f2, f3, f4⟩ := hf
  unfold lineP at h
  split at h
  · rename_i ho
    unfold nextP at h
    split at h
    · cases h
    rename_i h0
    split at h
    · cases h
    split at h
    · cases h
    · injection h with h; subst h
      have hl := last_add (x := ‹Era›) S.rules S.links (open_zones ho)
      refine ⟨f1, by show (addEra S.zones _).length ≤ 50; rw [hl.2]; exact f2, f3, ?_⟩
      rw [hl.1, List.length_append]
      have : (lastE ⟨S.rules, S.zones, S.links⟩).length = (lastE S).length := rfl
      simp only [List.length_singleton]
      omega
  split at h
  · unfold ruleLineP at h
    split at h
    · cases h
    rename_i h0
    split at h
    · cases h
    split at h
    · cases h
    · injection h with h; subst h
      exact ⟨by show (S.rules ++ _).length ≤ 200; rw [List.length_append, List.length_singleton]; omega, f2, f3, f4⟩
  split at h
  · unfold zoneP at h
    split at h
    · cases h
    rename_i h0
    split at h
    · cases h
    split at h
    · cases h
    split at h
    · cases h
    · injection h with h; subst h
      exact ⟨f1, by show (S.zones ++ _).length ≤ 50; rw [List.length_append, List.length_singleton]; omega, f3, by unfold lastE; simp⟩
  split at h
  · unfold linkP at h
    split at h
    · cases h
    rename_i h0
    split at h
    · cases h
    split at h
    · cases h
    split at h
    · cases h
    · injection h with h; subst h
      exact ⟨f1, f2, by show (S.links ++ _).length ≤ 100; rw [List.length_append, List.length_singleton]; omega, f4⟩
  · cases h
theorem count_bd {ws : List Wd} {size : Nat} {line : Int} {a b : Nat} (h : countP ws size line a b = none) : a ≤ ws.length ∧ ws.length ≤ b := by
  unfold countP at h
  split at h
  · cases h
  · split at h
    · cases h
    · omega
/-- The source behind a line. -/
def readP (S : Source) (s : ByteArray) (n : Int) : Fault ⊕ Source :=
  if ¬ (splitW s).2.2 = 0 then .inl ⟨(splitW s).2.2, n, (splitW s).2.1⟩ else if (splitW s).1 = [] then .inr S else lineP S (splitW s).1 s.size n
theorem parse_cons (l : ByteArray) (r : List ByteArray) (n : Int) (S : Source) : parseP (l :: r) n S = match readP S l (n + 1) with
    | .inl f => .inl f
    | .inr S' => parseP r (n + 1) S' := by
  rw [parseP, readP]
  split
  · rfl
  split
  · rfl
  · rfl
theorem read_fits {S S' : Source} {s : ByteArray} {n : Int} (h : readP S s n = .inr S') (hf : fitsN S) : fitsN S' := by
  unfold readP at h
  split at h
  · cases h
  split at h
  · injection h with h; subst h; exact hf
  · exact line_fits h hf
theorem runN_words (s : ByteArray) : ∀ (f k : Nat) (ws : List Wd), ws.length ≤ 16 → (∀ x ∈ ws, x.1.size ≤ s.size) → (runN s f k ws).1.length ≤ 16 ∧ ∀ x ∈ (runN s f k ws).1, x.1.size ≤ s.size
  | 0, k, ws, h, hs => ⟨h, hs⟩
  | f + 1, k, ws, h, hs => by
    rw [runN]
    by_cases hk : k < s.size
    · rw [dif_pos hk]
      split
      · exact ⟨h, hs⟩
      · cases hc : cut s k ws.length with
        | inl q => exact ⟨by simp, by simp⟩
        | inr q =>
          obtain ⟨lo, hi, en⟩ := q
          have hb := cut_bd s k ws.length lo hi en hk hc
          have hl : ws.length < 16 := by
            unfold cut at hc
            rw [dif_pos hk] at hc
            by_cases c : ws.length = 16
            · exfalso
              split at hc
              · first | cases hc | (rw [if_pos c] at hc; cases hc)
              · split at hc
                · cases hc
                · first | cases hc | (rw [if_pos c] at hc; cases hc)
            · omega
          refine runN_words s f _ _ (by simp; omega) (fun x hx => ?_)
          rcases List.mem_append.1 hx with hx | hx
          · exact hs x hx
          · rw [List.mem_singleton.1 hx]
            show (s.extract lo hi).size ≤ s.size
            rw [ByteArray.size_extract]; omega
    · rw [dif_neg hk]; exact ⟨h, hs⟩
theorem words_ok (s : ByteArray) : (splitW s).1.length ≤ 16 ∧ ∀ x ∈ (splitW s).1, x.1.size ≤ 1000 := by
  unfold splitW
  split
  · rename_i h
    obtain ⟨h1, h2⟩ := runN_words s (s.size - Fie.stop Fie.blank s 0) (Fie.stop Fie.blank s 0) [] (by simp) (by simp)
    exact ⟨h1, fun x hx => Nat.le_trans (h2 x hx) (by omega)⟩
  · exact ⟨by simp, by simp⟩
end Src
end Go.Proofs.YtdhbgelijjlifaaDoor
