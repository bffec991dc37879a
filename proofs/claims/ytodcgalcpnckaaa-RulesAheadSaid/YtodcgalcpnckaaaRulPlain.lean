/- Plain laws of rules: which may be. -/
import Derived.Test.YtodcgalcpnckaaaMomPlainE
import Derived.Test.YtodcgalcpnckaaaMomPlainF
set_option linter.unusedVariables false
set_option linter.unusedSimpArgs false
namespace Go.Proofs.Ytodcgalcpnckaaa
/-- A rule: its name, first and last year, spot, saving, letter. -/
structure Rule where
  nm : ByteArray
  a : Int
  b : Int
  m : Int
  k : Int
  wd : Int
  d : Int
  t : Int
  r : Int
  s : Int
  l : ByteArray
deriving Inhabited
/-- A turn: its local time, clock, saving, letter. -/
structure Turn where
  at' : Int
  r : Int
  s : Int
  l : ByteArray
namespace Rul
def yearB (n : Int) : Bool := decide (1 ≤ n ∧ n ≤ 9999)
def spotB (x : Rule) : Bool := Mom.rightB x.m x.k x.wd x.d x.t x.r
def rightB (x : Rule) : Bool := yearB x.a && (yearB x.b || x.b == 1000000) && spotB x && decide (-43200 ≤ x.s ∧ x.s ≤ 43200)
def allB (l : List Rule) : Bool := l.all rightB
end Rul
end Go.Proofs.Ytodcgalcpnckaaa
