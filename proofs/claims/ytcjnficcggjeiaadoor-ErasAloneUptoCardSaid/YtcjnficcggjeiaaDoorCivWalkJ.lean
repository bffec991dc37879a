/- Walk: the reference's date of a number. -/
import Derived.Test.YtcjnficcggjeiaaDoorCivWalkC
import Derived.Test.YtcjnficcggjeiaaDoorTail
set_option linter.unusedVariables false
set_option linter.unusedSimpArgs false
namespace Go.Proofs.YtcjnficcggjeiaaDoor
open Go.RowKit

theorem jan_era_le (n : Int) : ∀ c, (n + 719528) / 146097 = c → Civ.jan (400 * c) ≤ n ∧ n < Civ.jan (400 * c + 400) := by
  intro c hc
  unfold Civ.jan; omega

end Go.Proofs.YtcjnficcggjeiaaDoor
set_option linter.unusedVariables false
set_option linter.unusedSimpArgs false
namespace Go.Proofs.YtcjnficcggjeiaaDoor
open Go.RowKit

/-- A date's weekday, 0 where it is not right. -/
def wday (y m d : Int) : Int := if Civ.okD y m d = true then (Civ.num y m d + 3) % 7 + 1 else 0
theorem wday_yes (y m d : Int) (h : Civ.okD y m d = true) : wday y m d = (Civ.num y m d + 3) % 7 + 1 := if_pos h
theorem wday_no (y m d : Int) (h : Civ.okD y m d = false) : wday y m d = 0 := by simp [wday, h]
theorem wday_yes' (y m d : Int) (h : Civ.okD y m d = true) : wday y m d = (dnum y m d + 3) % 7 + 1 := by rw [wday_yes y m d h, dnum_yes y m d h]
theorem dnum_bd (y m d : Int) : -100000001 ≤ dnum y m d ∧ dnum y m d ≤ 100000000 := by
  cases h : Civ.okD y m d
  · rw [dnum_no y m d h]; omega
  · rw [dnum_yes y m d h]; have := Civ.okD_yes y m d h; omega

theorem days_2000 (w : World) : Rets Tryd.prog 79 #[.agg #[.int .i64 2000, .int .i64 3, .int .i64 1]] w (.tuple #[.int .i64 11017, .bool true]) := by
  have := days_any 2000 3 1 w
  rw [show dnum 2000 3 1 = 11017 from by decide, show Civ.okD 2000 3 1 = true from by decide] at this
  exact this
theorem of_m1 (w : World) : Rets Tryd.prog 100 #[.int .i64 (-1)] w (.tuple #[.agg #[.int .i64 1969, .int .i64 12, .int .i64 31], .bool true]) := by
  have := of_yes (-1) w (by omega) (by omega)
  rw [show Civ.dy (-1) = 1969 from by decide, show Civ.dm (-1) = 12 from by decide, show Civ.dd (-1) = 31 from by decide] at this
  exact this
theorem month_2000 (w : World) : Rets Tryd.prog 84 #[.int .i64 2000, .int .i64 2] w (.int .i64 29) := by
  have := monthlen_any 2000 2 w
  rw [show Civ.mlen 2000 2 = 29 from by decide] at this
  exact this
end Go.Proofs.YtcjnficcggjeiaaDoor
set_option linter.unusedVariables false
set_option linter.unusedSimpArgs false
namespace Go.Proofs.YtcjnficcggjeiaaDoor
open Go.RowKit

/-- Any fields made a date: the month, the day, the error. -/
def max1 (a : Int) : Int := if a < 1 then 1 else a
def minB (b a : Int) : Int := if b < a then b else a
def regM (m o : Int) : Int := if o = 1 then minB 12 (max1 m) else m
def regDd (y m d o : Int) : Int := if o = 1 then minB (Civ.mlen y (regM m o)) (max1 d) else d
def regE (y m d o : Int) : Int := if o = 1 then (if Civ.okD y (regM m o) (regDd y m d o) = true then 0 else 4) else if o = 2 then (if d < 1 ∨ Civ.mlen y m < d then 5 else if Civ.okD y m d = true then 0 else 4) else 1
def regYes (y m d o a : Int) : Int := if regE y m d o = 0 then a else 0
theorem regE_bd (y m d o : Int) : 0 ≤ regE y m d o ∧ regE y m d o ≤ 5 := by
  unfold regE; repeat' split
  all_goals omega
theorem ret_reg {a b c e a' b' c' e' : Int} (h1 : a' = a) (h2 : b' = b) (h3 : c' = c) (h : e' = e) : Ending.returned (.tuple #[.agg #[.int .i64 a, .int .i64 b, .int .i64 c], .int .i64 e]) = .returned (.tuple #[.agg #[.int .i64 a', .int .i64 b', .int .i64 c'], .int .i64 e']) := by rw [h1, h2, h3, h]
theorem yes_of {y m d o : Int} (h : regE y m d o = 0) (a : Int) : regYes y m d o a = a := if_pos h
theorem no_of {y m d o : Int} (h : ¬ regE y m d o = 0) (a : Int) : regYes y m d o a = 0 := if_neg h

/-- What the call returns. -/
def RegSays (f : FuncId) (y m d o : Int) (w : World) : Prop :=
  Rets Tryd.prog f #[.int .i64 y, .int .i64 m, .int .i64 d, .int .i64 o] w (.tuple #[.agg #[.int .i64 (regYes y m d o y), .int .i64 (regYes y m d o (regM m o)), .int .i64 (regYes y m d o (regDd y m d o))], .int .i64 (regE y m d o)])

theorem regE_else (y m d o : Int) (h1 : ¬ o = 1) (h2 : ¬ o = 2) : regE y m d o = 1 := by unfold regE; rw [if_neg h1, if_neg h2]
end Go.Proofs.YtcjnficcggjeiaaDoor
set_option linter.unusedVariables false
set_option linter.unusedSimpArgs false
namespace Go.Proofs.YtcjnficcggjeiaaDoor
open Go.RowKit

theorem no4 {y m d o : Int} (h : regE y m d o = 4) (a : Int) : regYes y m d o a = 0 := no_of (by rw [h]; omega) a
theorem reg4 {e : Int} {k : Bool} (h : e = if k = true then 0 else 4) (g : (!k) = true) : e = 4 := by simp at g; rw [h, if_neg (by simp [g])]
theorem reg0 {e : Int} {k : Bool} (h : e = if k = true then 0 else 4) (g : (!k) = false) : e = 0 := by simp at g; rw [h, if_pos g]

theorem rreg2_cases (y m d : Int) : m < 1 ∨ (decide (m < 1) = false ∧ 12 < m) ∨ (decide (m < 1) = false ∧ decide (12 < m) = false ∧ d < 1) ∨ (decide (m < 1) = false ∧ decide (12 < m) = false ∧ decide (d < 1) = false ∧ Civ.mlen y m < d)
    ∨ (decide (m < 1) = false ∧ decide (12 < m) = false ∧ decide (d < 1) = false ∧ decide (Civ.mlen y m < d) = false) := by
  simp only [decide_eq_false_iff_not]; omega
theorem clip_m (m : Int) : (m < 1 ∧ minB 12 (max1 m) = 1) ∨ (1 ≤ m ∧ 12 < m ∧ minB 12 (max1 m) = 12) ∨ (1 ≤ m ∧ m ≤ 12 ∧ minB 12 (max1 m) = m) := by
  unfold minB max1; repeat' split
  all_goals omega
theorem clip_d (L d : Int) (h : 28 ≤ L) : (d < 1 ∧ minB L (max1 d) = 1) ∨ (1 ≤ d ∧ L < d ∧ minB L (max1 d) = L) ∨ (1 ≤ d ∧ d ≤ L ∧ minB L (max1 d) = d) := by
  unfold minB max1; repeat' split
  all_goals omega
end Go.Proofs.YtcjnficcggjeiaaDoor
set_option linter.unusedVariables false
set_option linter.unusedSimpArgs false
namespace Go.Proofs.YtcjnficcggjeiaaDoor
open Go.RowKit

def doy (y m d : Int) : Int := if Civ.okD y m d = true then Civ.num y m d - Civ.jan y + 1 else 0
theorem doy_yes (y m d : Int) (h : Civ.okD y m d = true) : doy y m d = Civ.num y m d - Civ.jan y + 1 := if_pos h
theorem doy_no (y m d : Int) (h : Civ.okD y m d = false) : doy y m d = 0 := by simp [doy, h]
theorem num_first (y : Int) : Civ.num y 1 1 = Civ.jan y := by unfold Civ.num; rw [Civ.cum_1]; omega
theorem rets_eq {P : Program} {f : FuncId} {args : Array Value} {w : World} {v v' : Value} (h : Rets P f args w v) (e : v = v') : Rets P f args w v' := e ▸ h
/-- What is known of a right date. -/
theorem right_bds (y m d : Int) (h : Civ.okD y m d = true) : -271821 ≤ y ∧ y ≤ 275760 ∧ 1 ≤ m ∧ m ≤ 12 ∧ 1 ≤ d ∧ d ≤ 31 ∧ -100000001 ≤ Civ.num y m d ∧ Civ.num y m d ≤ 100000000 ∧ Civ.jan y ≤ Civ.num y m d ∧ Civ.num y m d ≤ Civ.jan y + 365 := by
  obtain ⟨⟨f1, f2, f3, f4⟩, a, b⟩ := Civ.okD_yes y m d h
  have hy := Civ.okD_year y m d h
  have hm := Civ.mlen_bd y m
  have hn := Civ.num_year y m d ⟨f1, f2, f3, f4⟩
  have hl := Civ.lp_01 y
  rw [Civ.jan_succ] at hn
  omega

/-- The week's year, out of its Thursday. -/
def thY (y th : Int) : Int := if th < Civ.jan y then y - 1 else if Civ.jan (y + 1) ≤ th then y + 1 else y
def thN (y th : Int) : Int := (th - Civ.jan (thY y th)) / 7 + 1
def thurs (y m d : Int) : Int := Civ.num y m d + 4 - wday y m d
def wkY (y m d : Int) : Int := if Civ.okD y m d = true then thY y (thurs y m d) else 0
def wkN (y m d : Int) : Int := if Civ.okD y m d = true then thN y (thurs y m d) else 0
theorem wday_bd (y m d : Int) (h : Civ.okD y m d = true) : 1 ≤ wday y m d ∧ wday y m d ≤ 7 := by rw [wday_yes y m d h]; omega
theorem wk_no (y m d : Int) (h : Civ.okD y m d = false) : wkY y m d = 0 ∧ wkN y m d = 0 := by simp [wkY, wkN, h]

theorem thY_cases (y T : Int) (h0 : Civ.jan y - 7 ≤ T) (h9 : T ≤ Civ.jan y + 380) : ((T < Civ.jan y ∧ thY y T = y - 1) ∨ (Civ.jan y ≤ T ∧ Civ.jan (y + 1) ≤ T ∧ thY y T = y + 1) ∨ (Civ.jan y ≤ T ∧ T < Civ.jan (y + 1) ∧ y = thY y T)) ∧ Civ.jan (thY y T) ≤ T ∧ T < Civ.jan (thY y T) + 366 := by
  have hs := Civ.jan_succ y
  have hp := Civ.jan_succ (y - 1)
  rw [show y - 1 + 1 = y by omega] at hp
  have l0 := Civ.lp_01 y
  have l1 := Civ.lp_01 (y - 1)
  have hm := Civ.jan_mono y (y + 1) (by omega)
  unfold thY
  by_cases c1 : T < Civ.jan y
  · rw [if_pos c1]; exact ⟨.inl ⟨c1, rfl⟩, by omega, by omega⟩
  · rw [if_neg c1]
    by_cases c2 : Civ.jan (y + 1) ≤ T
    · rw [if_pos c2]; exact ⟨.inr (.inl ⟨by omega, c2, rfl⟩), by omega, by omega⟩
    · rw [if_neg c2]; exact ⟨.inr (.inr ⟨by omega, by omega, rfl⟩), by omega, by omega⟩

end Go.Proofs.YtcjnficcggjeiaaDoor
set_option linter.unusedVariables false
set_option linter.unusedSimpArgs false
namespace Go.Proofs.YtcjnficcggjeiaaDoor
open Go.RowKit

def cmpI (a b : Int) : Int := if a < b then -1 else if b < a then 1 else 0
theorem cmpI_lt {a b : Int} (h : a < b) : cmpI a b = -1 := if_pos h
theorem cmpI_gt {a b : Int} (h : b < a) : cmpI a b = 1 := by unfold cmpI; rw [if_neg (by omega), if_pos h]
theorem cmpI_eq {a b : Int} (h1 : ¬ a < b) (h2 : ¬ b < a) : cmpI a b = 0 := by unfold cmpI; rw [if_neg h1, if_neg h2]
theorem cmpI_bd (a b : Int) : -1 ≤ cmpI a b ∧ cmpI a b ≤ 1 := by
  unfold cmpI
  by_cases h1 : a < b
  · rw [if_pos h1]; omega
  · rw [if_neg h1]; by_cases h2 : b < a
    · rw [if_pos h2]; omega
    · rw [if_neg h2]; omega
/-- The first that is not 0. -/
def or3 (a b c : Int) : Int := if a ≠ 0 then a else if b ≠ 0 then b else c
theorem or3_1 {a b c : Int} (h : a ≠ 0) : or3 a b c = a := if_pos h
theorem or3_2 {a b c : Int} (h : a = 0) (k : b ≠ 0) : or3 a b c = b := by unfold or3; rw [if_neg (by omega), if_pos k]
theorem or3_3 {a b c : Int} (h : a = 0) (k : b = 0) : or3 a b c = c := by unfold or3; rw [if_neg (by omega), if_neg (by omega)]

def cmpD (y m d y' m' d' : Int) : Int := or3 (cmpI y y') (cmpI m m') (cmpI d d')
theorem cmpD_cases (y m d y' m' d' : Int) : (y = y' ∧ m = m' ∧ d = d' ∧ cmpD y m d y' m' d' = 0) ∨ (¬ (y = y' ∧ m = m' ∧ d = d') ∧ (y < y' ∨ (y = y' ∧ (m < m' ∨ (m = m' ∧ d < d')))) ∧ cmpD y m d y' m' d' = -1) ∨
    (¬ (y = y' ∧ m = m' ∧ d = d') ∧ ¬ (y < y' ∨ (y = y' ∧ (m < m' ∨ (m = m' ∧ d < d')))) ∧ cmpD y m d y' m' d' = 1) := by
  unfold cmpD
  rcases Int.lt_trichotomy y y' with h | h | h
  · rw [cmpI_lt h, or3_1 (by omega)]; exact .inr (.inl ⟨by omega, .inl h, rfl⟩)
  · subst h
    rw [cmpI_eq (by omega) (by omega)]
    rcases Int.lt_trichotomy m m' with k | k | k
    · rw [cmpI_lt k, or3_2 rfl (by omega)]; exact .inr (.inl ⟨by omega, .inr ⟨rfl, .inl k⟩, rfl⟩)
    · subst k
      rw [cmpI_eq (by omega) (by omega), or3_3 rfl rfl]
      rcases Int.lt_trichotomy d d' with l | l | l
      · rw [cmpI_lt l]; exact .inr (.inl ⟨by omega, .inr ⟨rfl, .inr ⟨rfl, l⟩⟩, rfl⟩)
      · subst l; rw [cmpI_eq (by omega) (by omega)]; exact .inl ⟨rfl, rfl, rfl, rfl⟩
      · rw [cmpI_gt l]; exact .inr (.inr ⟨by omega, by omega, rfl⟩)
    · rw [cmpI_gt k, or3_2 rfl (by omega)]; exact .inr (.inr ⟨by omega, by omega, rfl⟩)
  · rw [cmpI_gt h, or3_1 (by omega)]; exact .inr (.inr ⟨by omega, by omega, rfl⟩)

theorem cmpD_y1 {y m d y' m' d' : Int} (h : y < y') : cmpD y m d y' m' d' = -1 := by unfold cmpD; rw [cmpI_lt h, or3_1 (by omega)]
theorem cmpD_y2 {y m d y' m' d' : Int} (h : y' < y) : cmpD y m d y' m' d' = 1 := by unfold cmpD; rw [cmpI_gt h, or3_1 (by omega)]
theorem cmpD_m1 {y m d m' d' : Int} (h : m < m') : cmpD y m d y m' d' = -1 := by unfold cmpD; rw [cmpI_eq (by omega) (by omega), cmpI_lt h, or3_2 rfl (by omega)]
theorem cmpD_m2 {y m d m' d' : Int} (h : m' < m) : cmpD y m d y m' d' = 1 := by unfold cmpD; rw [cmpI_eq (by omega) (by omega), cmpI_gt h, or3_2 rfl (by omega)]
theorem cmpD_d (y m d d' : Int) : cmpD y m d y m d' = cmpI d d' := by unfold cmpD; rw [cmpI_eq (by omega) (by omega), cmpI_eq (by omega) (by omega), or3_3 rfl rfl]

end Go.Proofs.YtcjnficcggjeiaaDoor
set_option linter.unusedVariables false
set_option linter.unusedSimpArgs false
namespace Go.Proofs.YtcjnficcggjeiaaDoor
open Go.RowKit

/-- A number is a date's. -/
def inR (n : Int) : Bool := decide (-100000001 ≤ n ∧ n ≤ 100000000)
theorem inR_yes {n : Int} (h : inR n = true) : -100000001 ≤ n ∧ n ≤ 100000000 := of_decide_eq_true h
theorem inR_no {n : Int} (h : inR n = false) : n < -100000001 ∨ 100000000 < n := by have := of_decide_eq_false h; omega
theorem inR_mk {n : Int} (h1 : -100000001 ≤ n) (h2 : n ≤ 100000000) : inR n = true := decide_eq_true ⟨h1, h2⟩
theorem inR_mk_no {n : Int} (h : n < -100000001 ∨ 100000000 < n) : inR n = false := decide_eq_false (by omega)
/-- .., or 0. -/
def orZ (b : Bool) (a : Int) : Int := if b = true then a else 0
theorem orZ_yes {b : Bool} {a : Int} (h : b = true) : orZ b a = a := if_pos h
theorem orZ_no {b : Bool} {a : Int} (h : b = false) : orZ b a = 0 := by simp [orZ, h]
theorem of_any (n : Int) (w : World) : Rets Tryd.prog 100 #[.int .i64 n] w (.tuple #[.agg #[.int .i64 (orZ (inR n) (Civ.dy n)), .int .i64 (orZ (inR n) (Civ.dm n)), .int .i64 (orZ (inR n) (Civ.dd n))], .bool (inR n)]) := by
  cases h : inR n
  · exact of_no n w (inR_no h)
  · exact of_yes n w (inR_yes h).1 (inR_yes h).2
def addOk (y m d n : Int) : Bool := Civ.okD y m d && inR (Civ.num y m d + n)
def addE (y m d n : Int) : Int := if Civ.okD y m d = true then (if inR (Civ.num y m d + n) = true then 0 else 4) else 1
theorem addE_bd (y m d n : Int) : 0 ≤ addE y m d n ∧ addE y m d n ≤ 4 := by
  unfold addE
  by_cases h : Civ.okD y m d = true
  · rw [if_pos h]; by_cases k : inR (Civ.num y m d + n) = true
    · rw [if_pos k]; omega
    · rw [if_neg k]; omega
  · rw [if_neg h]; omega
theorem add_no {y m d n : Int} (h : Civ.okD y m d = false) : addOk y m d n = false ∧ addE y m d n = 1 := by simp [addOk, addE, h]
theorem add_out {y m d n : Int} (h : Civ.okD y m d = true) (k : inR (Civ.num y m d + n) = false) : addOk y m d n = false ∧ addE y m d n = 4 := by simp [addOk, addE, h, k]
theorem add_yes {y m d n : Int} (h : Civ.okD y m d = true) (k : inR (Civ.num y m d + n) = true) : addOk y m d n = true ∧ addE y m d n = 0 := by simp [addOk, addE, h, k]

def AddSays (f : FuncId) (y m d n : Int) (w : World) : Prop :=
  Rets Tryd.prog f #[.agg #[.int .i64 y, .int .i64 m, .int .i64 d], .int .i64 n] w (.tuple #[.agg #[.int .i64 (orZ (addOk y m d n) (Civ.dy (Civ.num y m d + n))), .int .i64 (orZ (addOk y m d n) (Civ.dm (Civ.num y m d + n))), .int .i64 (orZ (addOk y m d n) (Civ.dd (Civ.num y m d + n)))], .int .i64 (addE y m d n)])

theorem add_cases (y m d n : Int) (b : Int) (hb : 200000001 ≤ b) : Civ.okD y m d = false ∨ (Civ.okD y m d = true ∧ n < -b ∧ inR (Civ.num y m d + n) = false) ∨ (Civ.okD y m d = true ∧ decide (n < -b) = false ∧ b < n ∧ inR (Civ.num y m d + n) = false)
    ∨ (Civ.okD y m d = true ∧ decide (n < -b) = false ∧ decide (b < n) = false ∧ inR (Civ.num y m d + n) = false) ∨ (Civ.okD y m d = true ∧ decide (n < -b) = false ∧ decide (b < n) = false ∧ inR (Civ.num y m d + n) = true) := by
  cases h : Civ.okD y m d
  · exact .inl rfl
  · have hb := right_bds y m d h
    right
    by_cases c1 : n < -b
    · exact .inl ⟨rfl, c1, inR_mk_no (by omega)⟩
    · by_cases c2 : b < n
      · exact .inr (.inl ⟨rfl, decide_eq_false c1, c2, inR_mk_no (by omega)⟩)
      · cases k : inR (Civ.num y m d + n)
        · exact .inr (.inr (.inl ⟨rfl, decide_eq_false c1, decide_eq_false c2, rfl⟩))
        · exact .inr (.inr (.inr ⟨rfl, decide_eq_false c1, decide_eq_false c2, rfl⟩))

theorem neg_word : (-1 : Int) * 4294967296 = -4294967296 := by decide
end Go.Proofs.YtcjnficcggjeiaaDoor
