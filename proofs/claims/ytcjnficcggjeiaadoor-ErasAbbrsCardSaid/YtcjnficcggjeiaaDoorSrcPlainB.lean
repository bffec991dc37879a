/- Plain laws of sources: which may be. -/
import Derived.Test.YtcjnficcggjeiaaDoorRulPlainB
import Derived.Test.YtcjnficcggjeiaaDoorSrcLib
set_option linter.unusedVariables false
set_option linter.unusedSimpArgs false
namespace Go.Proofs.YtcjnficcggjeiaaDoor
/-- An era: its offset, kind, saving, set, format; its end. -/
structure Era where
  off : Int
  kd : Int
  s : Int
  rs : ByteArray
  fm : ByteArray
  til : Bool
  y : Int
  m : Int
  k : Int
  wd : Int
  d : Int
  t : Int
  r : Int
deriving Inhabited
structure Zone where
  nm : ByteArray
  es : List Era
deriving Inhabited
structure Link where
  tg : ByteArray
  nm : ByteArray
deriving Inhabited
structure Source where
  rules : List Rule
  zones : List Zone
  links : List Link
namespace Src
def saveB (s : Int) : Bool := decide (-43200 ≤ s ∧ s ≤ 43200)
def yearB (n : Int) : Bool := decide (1 ≤ n ∧ n ≤ 9999)
def letterB (l : List UInt8) : Bool := l.isEmpty || (!(l == [45]) && madeB l 8 [43, 45])
def ruleB (x : Rule) : Bool := setB x.nm.data.toList && Rul.rightB x && letterB x.l.data.toList
def kindB (x : Era) : Bool := if x.kd = 0 then x.s == 0 && x.rs.data.toList.isEmpty else if x.kd = 1 then saveB x.s && x.rs.data.toList.isEmpty else if x.kd = 2 then x.s == 0 && setB x.rs.data.toList else false
def endB (x : Era) : Bool := if x.til = true then yearB x.y && Mom.rightB x.m x.k x.wd x.d x.t x.r else x.y == 0 && (x.m == 0 && x.k == 0 && x.wd == 0 && x.d == 0 && x.t == 0 && x.r == 0)
def offB (x : Era) : Bool := decide (-86400 < x.off ∧ x.off < 86400)
def eraB (x : Era) : Bool := offB x && fmtB x.fm.data.toList && kindB x && endB x
/-- Eras of a zone, up to its last. -/
def erasB : List Era → Bool
  | [] => true
  | x :: l => eraB x && (x.til == !l.isEmpty) && erasB l
def zoneB (z : Zone) : Bool := placeB z.nm.data.toList && decide (1 ≤ z.es.length ∧ z.es.length ≤ 40) && erasB z.es
def linkB (x : Link) : Bool := placeB x.tg.data.toList && placeB x.nm.data.toList
def lensB (s : Source) : Bool := decide (s.rules.length ≤ 200 ∧ s.zones.length ≤ 50 ∧ s.links.length ≤ 100)
def srcB (s : Source) : Bool := lensB s && (s.rules.all ruleB && (s.zones.all zoneB && s.links.all linkB))
theorem rules_ok {s : Source} (h : srcB s = true) : Rul.allB s.rules = true := by
  unfold srcB at h
  simp only [Bool.and_eq_true] at h
  have := h.2.1
  rw [List.all_eq_true] at this
  exact List.all_eq_true.2 fun x hx => by have := this x hx; unfold ruleB at this; simp only [Bool.and_eq_true] at this; exact this.1.2
theorem all_drop {α : Type} (f : α → Bool) (l : List α) (j : Nat) (h : j < l.length) : (l.drop j).all f = (f l[j] && (l.drop (j + 1)).all f) := by
  rw [List.drop_eq_getElem_cons h, List.all_cons]
theorem eras_drop (l : List Era) (j : Nat) (h : j < l.length) : erasB (l.drop j) = (eraB l[j] && (l[j].til == decide (j + 1 < l.length)) && erasB (l.drop (j + 1))) := by
  rw [List.drop_eq_getElem_cons h]
  show (eraB l[j] && (l[j].til == !(l.drop (j + 1)).isEmpty) && _) = _
  have : (!(l.drop (j + 1)).isEmpty) = decide (j + 1 < l.length) := by
    rw [Bool.eq_iff_iff]; simp
  rw [this]
/-- The document's. -/
def reraB (x : Era) : Bool := offB x && saveB x.s && fmtB x.fm.data.toList && (decide (0 ≤ x.kd ∧ x.kd ≤ 2) && (x.kd == 1 || x.s == 0) && (x.kd == 2 || x.rs.data.toList.isEmpty) && (!(x.kd == 2) || setB x.rs.data.toList)) && endB x
theorem era_same (x : Era) : reraB x = eraB x := by
  unfold reraB eraB kindB saveB
  cases offB x <;> cases fmtB x.fm.data.toList <;> cases endB x <;> simp
  by_cases h0 : x.kd = 0
  · rw [h0]; simp
    by_cases hs : x.s = 0
    · rw [hs]; simp
    · simp [hs]
  · by_cases h1 : x.kd = 1
    · rw [h1]; simp
    · by_cases h2 : x.kd = 2
      · rw [h2]; simp
        by_cases hs : x.s = 0
        · rw [hs]; simp
        · simp [hs]
      · have hk : (decide (0 ≤ x.kd) && decide (x.kd ≤ 2)) = false := by
          rw [Bool.and_eq_false_iff, decide_eq_false_iff_not, decide_eq_false_iff_not]; omega
        rw [if_neg h0, if_neg h1, show decide (x.kd = 2) = false from decide_eq_false h2, hk]
        simp
end Src
end Go.Proofs.YtcjnficcggjeiaaDoor
