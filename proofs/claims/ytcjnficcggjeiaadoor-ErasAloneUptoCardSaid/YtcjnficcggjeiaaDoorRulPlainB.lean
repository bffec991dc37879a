/- Plain laws of rules: which may be. -/
import Derived.Test.YtcjnficcggjeiaaDoorMomPlainF
set_option linter.unusedVariables false
set_option linter.unusedSimpArgs false
namespace Go.Proofs.YtcjnficcggjeiaaDoor
/-- A rule: its name, first and last year, spot, saving, letter. -/
structure Rule where
  nm : ByteArray
  a : Int
  b : Int
  m : Int
  k : Int
  wd : Int
  d : Int
  t : Int
  r : Int
  s : Int
  l : ByteArray
deriving Inhabited
/-- A turn: its local time, clock, saving, letter. -/
structure Turn where
  at' : Int
  r : Int
  s : Int
  l : ByteArray
namespace Rul
def yearB (n : Int) : Bool := decide (1 ≤ n ∧ n ≤ 9999)
def spotB (x : Rule) : Bool := Mom.rightB x.m x.k x.wd x.d x.t x.r
def rightB (x : Rule) : Bool := yearB x.a && (yearB x.b || x.b == 1000000) && spotB x && decide (-43200 ≤ x.s ∧ x.s ≤ 43200)
def allB (l : List Rule) : Bool := l.all rightB
end Rul
end Go.Proofs.YtcjnficcggjeiaaDoor
set_option linter.unusedVariables false
set_option linter.unusedSimpArgs false
namespace Go.Proofs.YtcjnficcggjeiaaDoor
namespace Rul
/-- The greatest that is so, from a number down to another. -/
def downN (p : Int → Bool) (lo : Int) : Nat → Int → Option Int
  | 0, _ => none
  | f + 1, y => if y < lo then none else if p y = true then some y else downN p lo f (y - 1)
def down (p : Int → Bool) (lo y : Int) : Option Int := downN p lo (y - lo + 1).toNat y
theorem down_end {p : Int → Bool} {lo y : Int} (h : y < lo) : down p lo y = none := by
  unfold down
  rw [show (y - lo + 1).toNat = 0 by omega]; rfl
theorem down_yes {p : Int → Bool} {lo y : Int} (h : lo ≤ y) (hp : p y = true) : down p lo y = some y := by
  unfold down
  obtain ⟨k, hk⟩ : ∃ k, (y - lo + 1).toNat = k + 1 := ⟨(y - lo).toNat, by omega⟩
  rw [hk, downN, if_neg (by omega), if_pos hp]
theorem down_no {p : Int → Bool} {lo y : Int} (h : lo ≤ y) (hp : p y = false) : down p lo y = down p lo (y - 1) := by
  unfold down
  obtain ⟨k, hk⟩ : ∃ k, (y - lo + 1).toNat = k + 1 := ⟨(y - lo).toNat, by omega⟩
  rw [hk, downN, if_neg (by omega), if_neg (by rw [hp]; simp), show (y - 1 - lo + 1).toNat = k by omega]
/-- The best so far, and one more. -/
def upd : Option Turn → Turn → Option Turn
  | none, t => some t
  | some b, t => if b.at' ≤ t.at' then some t else some b
def latestG (f : Rule → Option Turn) (l : List Rule) : Option Turn := l.foldl (fun b x => match f x with | none => b | some t => upd b t) none
theorem latest_none {f : Rule → Option Turn} {l : List Rule} {j : Nat} (h : j < l.length) (hf : f l[j] = none) : latestG f (l.take (j + 1)) = latestG f (l.take j) := by
  unfold latestG
  rw [List.take_succ_eq_append_getElem h, List.foldl_append]; simp [hf]
theorem latest_some {f : Rule → Option Turn} {l : List Rule} {j : Nat} {t : Turn} (h : j < l.length) (hf : f l[j] = some t) : latestG f (l.take (j + 1)) = upd (latestG f (l.take j)) t := by
  unfold latestG
  rw [List.take_succ_eq_append_getElem h, List.foldl_append]; simp [hf]
end Rul
end Go.Proofs.YtcjnficcggjeiaaDoor
