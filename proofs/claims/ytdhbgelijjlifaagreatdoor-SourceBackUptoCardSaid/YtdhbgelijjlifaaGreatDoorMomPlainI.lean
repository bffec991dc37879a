/- Plain laws of moments: what is written, and how it is read again. -/
import Derived.Test.YtdhbgelijjlifaaGreatDoorSrcSupA
import Derived.Test.YtdhbgelijjlifaaGreatDoorMomWalkJ
import Derived.Test.YtdhbgelijjlifaaGreatDoorMomWalkE
set_option linter.unusedVariables false
set_option linter.unusedSimpArgs false
namespace Go.Proofs.YtdhbgelijjlifaaGreatDoor
namespace Mom
def hms (a : Nat) : List UInt8 := dec (a / 3600) ++ 58 :: (twoD (a / 60 % 60) ++ (if a % 60 = 0 then [] else 58 :: twoD (a % 60)))
def timeD (n : Int) : List UInt8 := if n < 0 then 45 :: hms n.natAbs else hms n.natAbs
def refD (r : Nat) : List UInt8 := if r = 1 then [115] else if r = 2 then [117] else []
def short (l : List (List UInt8)) (i : Nat) : List UInt8 := ((l.map great).getD i []).take 3
def wdD (wd : Nat) : List UInt8 := if wd = 0 then [] else short daysL (wd - 1)
def dayD (k wd d : Nat) : List UInt8 := if k = 0 then dec d else if k = 1 then [108, 97, 115, 116] ++ wdD wd else if k = 2 then wdD wd ++ [62, 61] ++ dec d else wdD wd ++ [60, 61] ++ dec d
def printD (m k wd d : Nat) (t : Int) (r : Nat) : List (List UInt8) := [short monthsL (m - 1), dayD k wd d, timeD t ++ refD r]
end Mom
end Go.Proofs.YtdhbgelijjlifaaGreatDoor
