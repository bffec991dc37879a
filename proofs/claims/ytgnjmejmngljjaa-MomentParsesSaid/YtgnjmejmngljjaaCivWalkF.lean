/- Walks: Regulate, DayOfYear. -/
import Derived.Test.YtgnjmejmngljjaaCivWalkE
set_option linter.unusedVariables false
set_option linter.unusedSimpArgs false
namespace Go.Proofs.Ytgnjmejmngljjaa
open Go.RowKit

/-- Any fields made a date: the month, the day, the error. -/
def max1 (a : Int) : Int := if a < 1 then 1 else a
def minB (b a : Int) : Int := if b < a then b else a
def regM (m o : Int) : Int := if o = 1 then minB 12 (max1 m) else m
def regDd (y m d o : Int) : Int := if o = 1 then minB (Civ.mlen y (regM m o)) (max1 d) else d
def regE (y m d o : Int) : Int := if o = 1 then (if Civ.okD y (regM m o) (regDd y m d o) = true then 0 else 4) else if o = 2 then (if d < 1 ∨ Civ.mlen y m < d then 5 else if Civ.okD y m d = true then 0 else 4) else 1
def regYes (y m d o a : Int) : Int := if regE y m d o = 0 then a else 0
theorem regE_bd (y m d o : Int) : 0 ≤ regE y m d o ∧ regE y m d o ≤ 5 := by
  unfold regE; repeat' split
  all_goals omega
theorem ret_reg {a b c e a' b' c' e' : Int} (h1 : a' = a) (h2 : b' = b) (h3 : c' = c) (h : e' = e) : Ending.returned (.tuple #[.agg #[.int .i64 a, .int .i64 b, .int .i64 c], .int .i64 e]) = .returned (.tuple #[.agg #[.int .i64 a', .int .i64 b', .int .i64 c'], .int .i64 e']) := by rw [h1, h2, h3, h]
theorem yes_of {y m d o : Int} (h : regE y m d o = 0) (a : Int) : regYes y m d o a = a := if_pos h
theorem no_of {y m d o : Int} (h : ¬ regE y m d o = 0) (a : Int) : regYes y m d o a = 0 := if_neg h

/-- What the call returns. -/
def RegSays (f : FuncId) (y m d o : Int) (w : World) : Prop :=
  Rets Try.prog f #[.int .i64 y, .int .i64 m, .int .i64 d, .int .i64 o] w (.tuple #[.agg #[.int .i64 (regYes y m d o y), .int .i64 (regYes y m d o (regM m o)), .int .i64 (regYes y m d o (regDd y m d o))], .int .i64 (regE y m d o)])

theorem regE_else (y m d o : Int) (h1 : ¬ o = 1) (h2 : ¬ o = 2) : regE y m d o = 1 := by unfold regE; rw [if_neg h1, if_neg h2]
end Go.Proofs.Ytgnjmejmngljjaa
