/- Plain laws of the calendar: no program in sight. -/
import Derived.Lib.SplitLaws
import Derived.Lib.IndexBytes
import Derived.Lib.IndexMore
import Derived.Lib.CutLaws
set_option linter.unusedVariables false
set_option linter.unusedSimpArgs false
namespace Go.Proofs.YtdhbgelijjlifaaDoor
namespace Civ
/-- A year with a day more. -/
def leapB (y : Int) : Bool := decide (y % 4 = 0 ∧ (y % 100 ≠ 0 ∨ y % 400 = 0))
theorem leap_yes (y : Int) (h : leapB y = true) : y % 4 = 0 ∧ (y % 100 ≠ 0 ∨ y % 400 = 0) := by simpa [leapB] using h
theorem leap_no (y : Int) (h : leapB y = false) : ¬ (y % 4 = 0 ∧ (y % 100 ≠ 0 ∨ y % 400 = 0)) := by simpa only [leapB, decide_eq_false_iff_not] using h
theorem leap_mk (y : Int) (h : y % 4 = 0 ∧ (y % 100 ≠ 0 ∨ y % 400 = 0)) : leapB y = true := by simpa [leapB] using h
theorem leap_mk_no (y : Int) (h : ¬ (y % 4 = 0 ∧ (y % 100 ≠ 0 ∨ y % 400 = 0))) : leapB y = false := by simpa only [leapB, decide_eq_false_iff_not] using h
/-- 1 in a leap year, else 0. -/
def lp (y : Int) : Int := if leapB y then 1 else 0
theorem lp_yes (y : Int) (h : leapB y = true) : lp y = 1 := by simp [lp, h]
theorem lp_no (y : Int) (h : leapB y = false) : lp y = 0 := by simp [lp, h]
theorem lp_01 (y : Int) : 0 ≤ lp y ∧ lp y ≤ 1 := by unfold lp; split <;> omega
theorem lp_val (y : Int) : lp y = (y + 4) / 4 - (y + 3) / 4 - (y + 100) / 100 + (y + 99) / 100 + (y + 400) / 400 - (y + 399) / 400 := by
  cases h : leapB y
  · rw [lp_no y h]; have := leap_no y h; omega
  · rw [lp_yes y h]; have := leap_yes y h; omega
/-- The number of a year's first day. -/
def jan (y : Int) : Int := 365 * y + (y + 3) / 4 - (y + 99) / 100 + (y + 399) / 400 - 719528
theorem jan_succ (y : Int) : jan (y + 1) = jan y + 365 + lp y := by rw [lp_val]; unfold jan; omega
theorem jan_era (c : Int) : jan (400 * c) = c * 146097 - 719528 := by unfold jan; omega
theorem jan_mono (a b : Int) (h : a ≤ b) : jan a + 365 * (b - a) ≤ jan b := by unfold jan; omega
/-- How many days stand ahead of a month. -/
def cum (y m : Int) : Int := if m ≤ 1 then 0 else if m = 2 then 31 else (if m = 3 then 59 else if m = 4 then 90 else if m = 5 then 120 else if m = 6 then 151 else if m = 7 then 181 else if m = 8 then 212 else if m = 9 then 243 else if m = 10 then 273 else if m = 11 then 304 else if m = 12 then 334 else 365) + lp y
def mlen (y m : Int) : Int := if m < 1 ∨ 12 < m then 0 else if m = 2 then 28 + lp y else if m = 4 ∨ m = 6 ∨ m = 9 ∨ m = 11 then 30 else 31
theorem m12 (m : Int) (h : 1 ≤ m) (k : m ≤ 12) : m = 1 ∨ m = 2 ∨ m = 3 ∨ m = 4 ∨ m = 5 ∨ m = 6 ∨ m = 7 ∨ m = 8 ∨ m = 9 ∨ m = 10 ∨ m = 11 ∨ m = 12 := by omega
theorem cum_succ (y m : Int) (h : 1 ≤ m) (k : m ≤ 12) : cum y (m + 1) = cum y m + mlen y m := by
  rcases m12 m h k with rfl | rfl | rfl | rfl | rfl | rfl | rfl | rfl | rfl | rfl | rfl | rfl <;> simp [cum, mlen] <;> omega
theorem cum_13 (y : Int) : cum y 13 = 365 + lp y := by simp [cum]
theorem cum_1 (y : Int) : cum y 1 = 0 := by simp [cum]
theorem mlen_bd (y m : Int) : 0 ≤ mlen y m ∧ mlen y m ≤ 31 := by
  have := lp_01 y
  unfold mlen; split
  · omega
  · split
    · omega
    · split <;> omega
theorem mlen_lo (y m : Int) (h : 1 ≤ m) (k : m ≤ 12) : 28 ≤ mlen y m := by
  have := lp_01 y
  unfold mlen; rw [if_neg (by omega)]; split
  · omega
  · split <;> omega
theorem mlen_out (y m : Int) (h : m < 1 ∨ 12 < m) : mlen y m = 0 := by unfold mlen; rw [if_pos h]
theorem mlen_31 (y m : Int) (h : m = 1 ∨ m = 3 ∨ m = 5 ∨ m = 7 ∨ m = 8 ∨ m = 10 ∨ m = 12) : mlen y m = 31 := by
  rcases h with rfl | rfl | rfl | rfl | rfl | rfl | rfl <;> simp [mlen]
theorem mlen_30 (y m : Int) (h : m = 4 ∨ m = 6 ∨ m = 9 ∨ m = 11) : mlen y m = 30 := by
  rcases h with rfl | rfl | rfl | rfl <;> simp [mlen]
theorem mlen_2 (y m : Int) (h : m = 2) : mlen y m = 28 + lp y := by subst h; simp [mlen]
theorem mlen_in (y m : Int) (h : 1 ≤ mlen y m) : 1 ≤ m ∧ m ≤ 12 := by
  by_cases c : m < 1 ∨ 12 < m
  · rw [mlen_out y m c] at h; omega
  · omega
theorem cum_bd (y m : Int) (h : 1 ≤ m) (k : m ≤ 13) : 0 ≤ cum y m ∧ cum y m ≤ 365 + lp y ∧ 28 * (m - 1) ≤ cum y m := by
  have := lp_01 y
  by_cases c : m = 13
  · subst c; rw [cum_13]; omega
  · rcases m12 m h (by omega) with rfl | rfl | rfl | rfl | rfl | rfl | rfl | rfl | rfl | rfl | rfl | rfl <;> simp [cum] <;> omega
theorem cum_le (y m : Int) (h : 1 ≤ m) (k : m ≤ 12) : cum y m + mlen y m ≤ 365 + lp y := by
  rw [← cum_succ y m h k]; exact (cum_bd y (m + 1) (by omega) (by omega)).2.1
theorem cum_mono (y a b : Int) (h : 1 ≤ a) (k : b ≤ 12) (ab : a < b) : cum y a + mlen y a ≤ cum y b := by
  have hl := lp_01 y
  rcases m12 a h (by omega) with rfl | rfl | rfl | rfl | rfl | rfl | rfl | rfl | rfl | rfl | rfl | rfl <;> rcases m12 b (by omega) k with rfl | rfl | rfl | rfl | rfl | rfl | rfl | rfl | rfl | rfl | rfl | rfl <;> first | omega | (simp [cum, mlen]; try omega)
/-- A date's number. -/
def num (y m d : Int) : Int := jan y + cum y m + d - 1
/-- A date's fields are right, however far. -/
def fits (y m d : Int) : Prop := 1 ≤ m ∧ m ≤ 12 ∧ 1 ≤ d ∧ d ≤ mlen y m
theorem num_year (y m d : Int) (h : fits y m d) : jan y ≤ num y m d ∧ num y m d < jan (y + 1) := by
  obtain ⟨h1, h2, h3, h4⟩ := h
  have := cum_bd y m h1 (by omega); have := cum_le y m h1 h2
  rw [jan_succ]; unfold num; omega
theorem num_inj (y m d y' m' d' : Int) (h : fits y m d) (h' : fits y' m' d') (e : num y m d = num y' m' d') : y = y' ∧ m = m' ∧ d = d' := by
  have a := num_year y m d h; have a' := num_year y' m' d' h'
  have hy : y = y' := by
    rcases Int.lt_trichotomy y y' with c | c | c
    · have := jan_mono (y + 1) y' (by omega); omega
    · exact c
    · have := jan_mono (y' + 1) y (by omega); omega
  subst hy
  obtain ⟨h1, h2, h3, h4⟩ := h
  obtain ⟨k1, k2, k3, k4⟩ := h'
  have hm : m = m' := by
    unfold num at e
    rcases Int.lt_trichotomy m m' with c | c | c
    · have := cum_mono y m m' h1 k2 c; omega
    · exact c
    · have := cum_mono y m' m k1 h2 c; omega
  subst hm
  unfold num at e
  exact ⟨rfl, rfl, by omega⟩
/-- A date may be. -/
def okD (y m d : Int) : Bool := decide (1 ≤ m ∧ m ≤ 12 ∧ 1 ≤ d ∧ d ≤ mlen y m ∧ -100000001 ≤ num y m d ∧ num y m d ≤ 100000000)
theorem okD_yes (y m d : Int) (h : okD y m d = true) : fits y m d ∧ -100000001 ≤ num y m d ∧ num y m d ≤ 100000000 := by
  have := of_decide_eq_true h; exact ⟨⟨this.1, this.2.1, this.2.2.1, this.2.2.2.1⟩, this.2.2.2.2.1, this.2.2.2.2.2⟩
theorem okD_no (y m d : Int) (h : okD y m d = false) : ¬ (fits y m d ∧ -100000001 ≤ num y m d ∧ num y m d ≤ 100000000) := by
  intro ⟨⟨a, b, c, e⟩, f, g⟩
  exact of_decide_eq_false h ⟨a, b, c, e, f, g⟩
theorem okD_mk (y m d : Int) (h : fits y m d) (a : -100000001 ≤ num y m d) (b : num y m d ≤ 100000000) : okD y m d = true := decide_eq_true ⟨h.1, h.2.1, h.2.2.1, h.2.2.2, a, b⟩
theorem okD_mk_no (y m d : Int) (h : ¬ (fits y m d ∧ -100000001 ≤ num y m d ∧ num y m d ≤ 100000000)) : okD y m d = false := decide_eq_false fun k => h ⟨⟨k.1, k.2.1, k.2.2.1, k.2.2.2.1⟩, k.2.2.2.2.1, k.2.2.2.2.2⟩
theorem okD_year (y m d : Int) (h : okD y m d = true) : -271821 ≤ y ∧ y ≤ 275760 := by
  obtain ⟨f, a, b⟩ := okD_yes y m d h
  have := num_year y m d f
  unfold jan at this
  omega
/-- The number as the program reckons it: years begin in March. -/
theorem count_eq (y m d : Int) (h1 : 1 ≤ m) (h2 : m ≤ 12) :
    (if m - 3 < 0 then ((y - 1) / 400) * 146097 + (y - 1) % 400 * 365 + (y - 1) % 400 / 4 - (y - 1) % 400 / 100 + (153 * (m - 3 + 12) + 2) / 5 + d - 1 - 719468
     else (y / 400) * 146097 + y % 400 * 365 + y % 400 / 4 - y % 400 / 100 + (153 * (m - 3) + 2) / 5 + d - 1 - 719468) = num y m d := by
  have hl := lp_val y
  unfold num jan
  rcases m12 m h1 h2 with rfl | rfl | rfl | rfl | rfl | rfl | rfl | rfl | rfl | rfl | rfl | rfl <;> simp [cum] <;> omega
theorem of_year (D y : Int) (h : 0 ≤ D) (h' : D < 146097) (e : y = (D - D/1460 + D/36524 - D/146096) / 365) : 0 ≤ y ∧ y ≤ 399 ∧ 0 ≤ D - (365 * y + y / 4 - y / 100) ∧ D - (365*y + y/4 - y/100) ≤ 365 ∧ (D - (365*y + y/4 - y/100) = 365 → (y + 1) % 4 = 0 ∧ ((y+1) % 100 ≠ 0 ∨ (y + 1) % 400 = 0)):= by
  have c : D < 36524 ∨ (36524 ≤ D ∧ D < 73048) ∨ (73048 ≤ D ∧ D < 109572) ∨ (109572 ≤ D ∧ D < 146096) ∨ D = 146096 := by omega
  rcases c with c | c | c | c | c
  · obtain ⟨e1, e2⟩ : D / 36524 = 0 ∧ D/146096 = 0 := by omega
    rw [e1, e2] at e
    have : y / 100 = 0 := by omega
    rw [this]
    refine ⟨by omega, by omega, by omega, by omega, fun q => ?_⟩
    by_cases q4 : y % 4 = 3
    · refine ⟨by omega, ?_⟩
      omega
    · exfalso
      omega
  · obtain ⟨e1, e2⟩ : D / 36524 = 1 ∧ D/146096 = 0 := by omega
    rw [e1, e2] at e
    have : y / 100 = 1 := by omega
    rw [this]
    refine ⟨by omega, by omega, by omega, by omega, fun q => ?_⟩
    by_cases q4 : y % 4 = 3
    · refine ⟨by omega, ?_⟩
      omega
    · exfalso
      omega
  · obtain ⟨e1, e2⟩ : D / 36524 = 2 ∧ D/146096 = 0 := by omega
    rw [e1, e2] at e
    have : y / 100 = 2 := by omega
    rw [this]
    refine ⟨by omega, by omega, by omega, by omega, fun q => ?_⟩
    by_cases q4 : y % 4 = 3
    · refine ⟨by omega, ?_⟩
      omega
    · exfalso
      omega
  · obtain ⟨e1, e2⟩ : D / 36524 = 3 ∧ D/146096 = 0 := by omega
    rw [e1, e2] at e
    have : y / 100 = 3 := by omega
    rw [this]
    refine ⟨by omega, by omega, by omega, by omega, fun q => ?_⟩
    by_cases q4 : y % 4 = 3
    · refine ⟨by omega, ?_⟩
      omega
    · exfalso
      omega
  · subst c; subst e; decide

/-- The date of a number, as the program reckons it: the year from March on, the rest, the month from March on. -/
def ofC (n : Int) : Int := (n + 719468) / 146097
def ofDay (n : Int) : Int := (n + 719468) % 146097
def ofY (n : Int) : Int := (ofDay n - ofDay n / 1460 + ofDay n / 36524 - ofDay n / 146096) / 365
def ofR (n : Int) : Int := ofDay n - (365 * ofY n + ofY n / 4 - ofY n / 100)
def ofM (n : Int) : Int := (5 * ofR n + 2) / 153
def dy (n : Int) : Int := if 12 < ofM n + 3 then ofY n + 400 * ofC n + 1 else ofY n + 400 * ofC n
def dm (n : Int) : Int := if 12 < ofM n + 3 then ofM n + 3 - 12 else ofM n + 3
def dd (n : Int) : Int := ofR n - (153 * ofM n + 2) / 5 + 1
theorem ofDay_bd (n : Int) : 0 ≤ ofDay n ∧ ofDay n < 146097 := by unfold ofDay; omega
theorem of_late (y c r m : Int) (y0 : 0 ≤ y) (y1 : y ≤ 399) (r0 : 0 ≤ r) (r1 : r ≤ 365) (hl : r = 365 → (y + 1) % 4 = 0 ∧ ((y + 1) % 100 ≠ 0 ∨ (y + 1) % 400 = 0)) (hm : m = (5 * r + 2) / 153) (h : 10 ≤ m) :
    fits (y + 400 * c + 1) (m + 3 - 12) (r - (153 * m + 2) / 5 + 1) ∧ num (y + 400 * c + 1) (m + 3 - 12) (r - (153 * m + 2) / 5 + 1) = c * 146097 + y * 365 + y / 4 - y / 100 + r - 719468 := by
  have hce := count_eq (y + 400 * c + 1) (m + 3 - 12) (r - (153 * m + 2) / 5 + 1) (by omega) (by omega)
  rw [if_pos (by omega)] at hce
  have e1 : (y + 400 * c + 1 - 1) / 400 = c := by omega
  have e2 : (y + 400 * c + 1 - 1) % 400 = y := by omega
  have e3 : m + 3 - 12 - 3 + 12 = m := by omega
  rw [e1, e2, e3] at hce
  refine ⟨?_, by rw [← hce]; omega⟩
  have hl0 := lp_01 (y + 400 * c + 1)
  have hm2 : m = 10 ∨ m = 11 := by omega
  rcases hm2 with q | q
  · refine ⟨by omega, by omega, by omega, ?_⟩
    subst q; simp [mlen]; omega
  · refine ⟨by omega, by omega, by omega, ?_⟩
    have : mlen (y + 400 * c + 1) (m + 3 - 12) = 28 + lp (y + 400 * c + 1) := by subst q; simp [mlen]
    rw [this]
    by_cases q5 : r = 365
    · have := hl q5
      have : lp (y + 400 * c + 1) = 1 := lp_yes _ (leap_mk _ (by omega))
      omega
    · omega
theorem of_early (y c r m : Int) (y0 : 0 ≤ y) (y1 : y ≤ 399) (r0 : 0 ≤ r) (hm : m = (5 * r + 2) / 153) (h : m ≤ 9) :
    fits (y + 400 * c) (m + 3) (r - (153 * m + 2) / 5 + 1) ∧ num (y + 400 * c) (m + 3) (r - (153 * m + 2) / 5 + 1) = c * 146097 + y * 365 + y / 4 - y / 100 + r - 719468 := by
  have hce := count_eq (y + 400 * c) (m + 3) (r - (153 * m + 2) / 5 + 1) (by omega) (by omega)
  rw [if_neg (by omega)] at hce
  have e1 : (y + 400 * c) / 400 = c := by omega
  have e2 : (y + 400 * c) % 400 = y := by omega
  have e3 : m + 3 - 3 = m := by omega
  rw [e1, e2, e3] at hce
  refine ⟨?_, by rw [← hce]; omega⟩
  refine ⟨by omega, by omega, by omega, ?_⟩
  have hm2 : m = 0 ∨ m = 1 ∨ m = 2 ∨ m = 3 ∨ m = 4 ∨ m = 5 ∨ m = 6 ∨ m = 7 ∨ m = 8 ∨ m = 9 := by omega
  rcases hm2 with q | q | q | q | q | q | q | q | q | q <;> (subst q; simp [mlen]; omega)
theorem of_bd (n : Int) : 0 ≤ ofY n ∧ ofY n ≤ 399 ∧ 0 ≤ ofR n ∧ ofR n ≤ 365 ∧ (ofR n = 365 → (ofY n + 1) % 4 = 0 ∧ ((ofY n + 1) % 100 ≠ 0 ∨ (ofY n + 1) % 400 = 0)) := by
  obtain ⟨hd0, hd1⟩ := ofDay_bd n
  exact of_year (ofDay n) (ofY n) hd0 hd1 rfl
theorem ofM_bd (n : Int) : 0 ≤ ofM n ∧ ofM n ≤ 11 := by
  have := of_bd n
  unfold ofM; omega
theorem of_ok (n : Int) : fits (dy n) (dm n) (dd n) ∧ num (dy n) (dm n) (dd n) = n := by
  obtain ⟨y0, y1, r0, r1, hl⟩ := of_bd n
  have hn : ofC n * 146097 + ofY n * 365 + ofY n / 4 - ofY n / 100 + ofR n - 719468 = n := by unfold ofR ofC ofDay; omega
  unfold dy dm dd
  by_cases h12 : 12 < ofM n + 3
  · rw [if_pos h12, if_pos h12]
    have := of_late (ofY n) (ofC n) (ofR n) (ofM n) y0 y1 r0 r1 hl rfl (by omega)
    rw [hn] at this; exact this
  · rw [if_neg h12, if_neg h12]
    have := of_early (ofY n) (ofC n) (ofR n) (ofM n) y0 y1 r0 rfl (by omega)
    rw [hn] at this; exact this
theorem of_unique (n y m d : Int) (h : fits y m d) (e : num y m d = n) : y = dy n ∧ m = dm n ∧ d = dd n :=
  num_inj y m d _ _ _ h (of_ok n).1 (e.trans (of_ok n).2.symm)
end Civ
end Go.Proofs.YtdhbgelijjlifaaDoor
set_option linter.unusedVariables false
set_option linter.unusedSimpArgs false
namespace Go.Proofs.YtdhbgelijjlifaaDoor
namespace Mom
def headOk (m k t r : Int) : Prop := 1 ≤ m ∧ m ≤ 12 ∧ 0 ≤ k ∧ k ≤ 3 ∧ -604799 ≤ t ∧ t ≤ 604799 ∧ 0 ≤ r ∧ r ≤ 2
instance (m k t r : Int) : Decidable (headOk m k t r) := by unfold headOk; infer_instance
def tailOkB (k wd d : Int) : Bool := decide ((k = 0 ∧ wd = 0 ∧ 1 ≤ d ∧ d ≤ 31) ∨ (k = 1 ∧ 1 ≤ wd ∧ wd ≤ 7 ∧ d = 0) ∨ (k ≠ 0 ∧ k ≠ 1 ∧ 1 ≤ wd ∧ wd ≤ 7 ∧ 1 ≤ d ∧ d ≤ 31))
def rightB (m k wd d t r : Int) : Bool := decide (headOk m k t r) && tailOkB k wd d
theorem right_yes {m k wd d t r : Int} (h : rightB m k wd d t r = true) : headOk m k t r ∧ tailOkB k wd d = true := by
  unfold rightB at h
  rw [Bool.and_eq_true] at h
  exact ⟨of_decide_eq_true h.1, h.2⟩
theorem right_head_no {m k wd d t r : Int} (h : ¬ headOk m k t r) : rightB m k wd d t r = false := by
  unfold rightB; rw [Bool.and_eq_false_iff]; left; exact decide_eq_false h
theorem right_head {m k wd d t r : Int} (h : headOk m k t r) : rightB m k wd d t r = tailOkB k wd d := by
  unfold rightB; rw [decide_eq_true h, Bool.true_and]
theorem head_cases (m k t r : Int) : m < 1 ∨ (decide (m < 1) = false ∧ 12 < m) ∨ (decide (m < 1) = false ∧ decide (12 < m) = false ∧ k < 0) ∨ (decide (m < 1) = false ∧ decide (12 < m) = false ∧ decide (k < 0) = false ∧ 3 < k) ∨
    (decide (m < 1) = false ∧ decide (12 < m) = false ∧ decide (k < 0) = false ∧ decide (3 < k) = false ∧ t < -604799) ∨
    (decide (m < 1) = false ∧ decide (12 < m) = false ∧ decide (k < 0) = false ∧ decide (3 < k) = false ∧ decide (t < -604799) = false ∧ 604799 < t) ∨
    (decide (m < 1) = false ∧ decide (12 < m) = false ∧ decide (k < 0) = false ∧ decide (3 < k) = false ∧ decide (t < -604799) = false ∧ decide (604799 < t) = false ∧ r < 0) ∨
    (decide (m < 1) = false ∧ decide (12 < m) = false ∧ decide (k < 0) = false ∧ decide (3 < k) = false ∧ decide (t < -604799) = false ∧ decide (604799 < t) = false ∧ decide (r < 0) = false ∧ 2 < r) ∨
    (decide (m < 1) = false ∧ decide (12 < m) = false ∧ decide (k < 0) = false ∧ decide (3 < k) = false ∧ decide (t < -604799) = false ∧ decide (604799 < t) = false ∧ decide (r < 0) = false ∧ decide (2 < r) = false ∧ headOk m k t r) := by
  by_cases h1 : m < 1
  · exact .inl h1
  by_cases h2 : 12 < m
  · exact .inr (.inl ⟨decide_eq_false h1, h2⟩)
  by_cases h3 : k < 0
  · exact .inr (.inr (.inl ⟨decide_eq_false h1, decide_eq_false h2, h3⟩))
  by_cases h4 : 3 < k
  · exact .inr (.inr (.inr (.inl ⟨decide_eq_false h1, decide_eq_false h2, decide_eq_false h3, h4⟩)))
  by_cases h5 : t < -604799
  · exact .inr (.inr (.inr (.inr (.inl ⟨decide_eq_false h1, decide_eq_false h2, decide_eq_false h3, decide_eq_false h4, h5⟩))))
  by_cases h6 : 604799 < t
  · exact .inr (.inr (.inr (.inr (.inr (.inl ⟨decide_eq_false h1, decide_eq_false h2, decide_eq_false h3, decide_eq_false h4, decide_eq_false h5, h6⟩)))))
  by_cases h7 : r < 0
  · exact .inr (.inr (.inr (.inr (.inr (.inr (.inl ⟨decide_eq_false h1, decide_eq_false h2, decide_eq_false h3, decide_eq_false h4, decide_eq_false h5, decide_eq_false h6, h7⟩))))))
  by_cases h8 : 2 < r
  · exact .inr (.inr (.inr (.inr (.inr (.inr (.inr (.inl ⟨decide_eq_false h1, decide_eq_false h2, decide_eq_false h3, decide_eq_false h4, decide_eq_false h5, decide_eq_false h6, decide_eq_false h7, h8⟩)))))))
  · exact .inr (.inr (.inr (.inr (.inr (.inr (.inr (.inr ⟨decide_eq_false h1, decide_eq_false h2, decide_eq_false h3, decide_eq_false h4, decide_eq_false h5, decide_eq_false h6, decide_eq_false h7, decide_eq_false h8, by unfold headOk; omega⟩)))))))
end Mom
end Go.Proofs.YtdhbgelijjlifaaDoor
set_option linter.unusedVariables false
set_option linter.unusedSimpArgs false
namespace Go.Proofs.YtdhbgelijjlifaaDoor
namespace Mom
def backI (n wd : Int) : Int := (n + 3 - wd + 1) % 7
theorem back_bd (n wd : Int) : 0 ≤ backI n wd ∧ backI n wd ≤ 6 := by unfold backI; omega
theorem back_wd {n wd : Int} (h1 : 1 ≤ wd) (h2 : wd ≤ 7) : (n - backI n wd + 3) % 7 + 1 = wd := by unfold backI; omega
def fallI (k wd d f len : Int) : Int := if k = 0 then f + d - 1 else if k = 1 then f + len - 1 - backI (f + len - 1) wd else if k = 2 then f + d + 5 - backI (f + d + 5) wd else f + d - 1 - backI (f + d - 1) wd
theorem fall_0 {k wd d f len : Int} (h : k = 0) : fallI k wd d f len = f + d - 1 := if_pos h
theorem fall_1 {k wd d f len : Int} (h : k = 1) : fallI k wd d f len = f + len - 1 - backI (f + len - 1) wd := by unfold fallI; rw [if_neg (by omega), if_pos h]
theorem fall_2 {k wd d f len : Int} (h : k = 2) : fallI k wd d f len = f + d + 5 - backI (f + d + 5) wd := by unfold fallI; rw [if_neg (by omega), if_neg (by omega), if_pos h]
theorem fall_3 {k wd d f len : Int} (h : k = 3) : fallI k wd d f len = f + d - 1 - backI (f + d - 1) wd := by unfold fallI; rw [if_neg (by omega), if_neg (by omega), if_neg (by omega)]
def onI (m k wd d y : Int) : Int := fallI k wd d (Civ.num y m 1) (Civ.mlen y m)
def onB (m k wd d t r y : Int) : Bool := rightB m k wd d t r && decide (1 ≤ y ∧ y ≤ 300000) && Civ.okD y m 1 && decide (onI m k wd d y ≤ 100000000)
def onV (m k wd d t r y : Int) : Int := if onB m k wd d t r y = true then onI m k wd d y else 0
theorem onB_right {m k wd d t r y : Int} (h : rightB m k wd d t r = false) : onB m k wd d t r y = false := by unfold onB; rw [h]; rfl
theorem onB_year {m k wd d t r y : Int} (h : y < 1 ∨ 300000 < y) : onB m k wd d t r y = false := by
  unfold onB; rw [show decide (1 ≤ y ∧ y ≤ 300000) = false from decide_eq_false (by omega), Bool.and_false]; rfl
theorem onB_day {m k wd d t r y : Int} (h : Civ.okD y m 1 = false) : onB m k wd d t r y = false := by
  unfold onB; rw [h, Bool.and_false]; rfl
theorem onB_end {m k wd d t r y : Int} (h : 100000000 < onI m k wd d y) : onB m k wd d t r y = false := by
  unfold onB; rw [show decide (onI m k wd d y ≤ 100000000) = false from decide_eq_false (by omega), Bool.and_false]
theorem onB_yes {m k wd d t r y : Int} (h1 : rightB m k wd d t r = true) (h2 : 1 ≤ y) (h3 : y ≤ 300000) (h4 : Civ.okD y m 1 = true) (h5 : onI m k wd d y ≤ 100000000) : onB m k wd d t r y = true := by
  unfold onB; rw [h1, h4, show decide (1 ≤ y ∧ y ≤ 300000) = true from decide_eq_true ⟨h2, h3⟩, decide_eq_true h5]; rfl
theorem onB_all {m k wd d t r y : Int} (h : onB m k wd d t r y = true) : rightB m k wd d t r = true ∧ 1 ≤ y ∧ y ≤ 300000 ∧ Civ.okD y m 1 = true ∧ onI m k wd d y ≤ 100000000 := by
  unfold onB at h
  simp only [Bool.and_eq_true, decide_eq_true_eq] at h
  obtain ⟨⟨⟨a, b, c⟩, e⟩, f⟩ := h
  exact ⟨a, b, c, e, f⟩
theorem onV_no {m k wd d t r y : Int} (h : onB m k wd d t r y = false) : onV m k wd d t r y = 0 := by unfold onV; rw [h]; rfl
theorem onV_yes {m k wd d t r y : Int} (h : onB m k wd d t r y = true) : onV m k wd d t r y = onI m k wd d y := if_pos h
theorem right_all {m k wd d t r : Int} (h : rightB m k wd d t r = true) : 1 ≤ m ∧ m ≤ 12 ∧ -604799 ≤ t ∧ t ≤ 604799 ∧ 0 ≤ r ∧ r ≤ 2 ∧ ((k = 0 ∧ wd = 0 ∧ 1 ≤ d ∧ d ≤ 31) ∨ (k = 1 ∧ 1 ≤ wd ∧ wd ≤ 7 ∧ d = 0) ∨ (k = 2 ∧ 1 ≤ wd ∧ wd ≤ 7 ∧ 1 ≤ d ∧ d ≤ 31) ∨ (k = 3 ∧ 1 ≤ wd ∧ wd ≤ 7 ∧ 1 ≤ d ∧ d ≤ 31)) := by
  obtain ⟨h1, h2⟩ := right_yes h
  unfold headOk at h1
  unfold tailOkB at h2
  rw [decide_eq_true_eq] at h2
  omega
end Mom
end Go.Proofs.YtdhbgelijjlifaaDoor
set_option linter.unusedVariables false
set_option linter.unusedSimpArgs false
namespace Go.Proofs.YtdhbgelijjlifaaDoor
/-- A rule: its name, first and last year, spot, saving, letter. -/
structure Rule where
  nm : ByteArray
  a : Int
  b : Int
  m : Int
  k : Int
  wd : Int
  d : Int
  t : Int
  r : Int
  s : Int
  l : ByteArray
deriving Inhabited
/-- A turn: its local time, clock, saving, letter. -/
structure Turn where
  at' : Int
  r : Int
  s : Int
  l : ByteArray
namespace Rul
def yearB (n : Int) : Bool := decide (1 ≤ n ∧ n ≤ 9999)
def spotB (x : Rule) : Bool := Mom.rightB x.m x.k x.wd x.d x.t x.r
def rightB (x : Rule) : Bool := yearB x.a && (yearB x.b || x.b == 1000000) && spotB x && decide (-43200 ≤ x.s ∧ x.s ≤ 43200)
def allB (l : List Rule) : Bool := l.all rightB
end Rul
end Go.Proofs.YtdhbgelijjlifaaDoor
set_option linter.unusedVariables false
set_option linter.unusedSimpArgs false
namespace Go.Proofs.YtdhbgelijjlifaaDoor
namespace Rul
/-- The greatest that is so, from a number down to another. -/
def downN (p : Int → Bool) (lo : Int) : Nat → Int → Option Int
  | 0, _ => none
  | f + 1, y => if y < lo then none else if p y = true then some y else downN p lo f (y - 1)
def down (p : Int → Bool) (lo y : Int) : Option Int := downN p lo (y - lo + 1).toNat y
theorem down_end {p : Int → Bool} {lo y : Int} (h : y < lo) : down p lo y = none := by
  unfold down
  rw [show (y - lo + 1).toNat = 0 by omega]; rfl
theorem down_yes {p : Int → Bool} {lo y : Int} (h : lo ≤ y) (hp : p y = true) : down p lo y = some y := by
  unfold down
  obtain ⟨k, hk⟩ : ∃ k, (y - lo + 1).toNat = k + 1 := ⟨(y - lo).toNat, by omega⟩
  rw [hk, downN, if_neg (by omega), if_pos hp]
theorem down_no {p : Int → Bool} {lo y : Int} (h : lo ≤ y) (hp : p y = false) : down p lo y = down p lo (y - 1) := by
  unfold down
  obtain ⟨k, hk⟩ : ∃ k, (y - lo + 1).toNat = k + 1 := ⟨(y - lo).toNat, by omega⟩
  rw [hk, downN, if_neg (by omega), if_neg (by rw [hp]; simp), show (y - 1 - lo + 1).toNat = k by omega]
/-- The best so far, and one more. -/
def upd : Option Turn → Turn → Option Turn
  | none, t => some t
  | some b, t => if b.at' ≤ t.at' then some t else some b
def latestG (f : Rule → Option Turn) (l : List Rule) : Option Turn := l.foldl (fun b x => match f x with | none => b | some t => upd b t) none
theorem latest_none {f : Rule → Option Turn} {l : List Rule} {j : Nat} (h : j < l.length) (hf : f l[j] = none) : latestG f (l.take (j + 1)) = latestG f (l.take j) := by
  unfold latestG
  rw [List.take_succ_eq_append_getElem h, List.foldl_append]; simp [hf]
theorem latest_some {f : Rule → Option Turn} {l : List Rule} {j : Nat} {t : Turn} (h : j < l.length) (hf : f l[j] = some t) : latestG f (l.take (j + 1)) = upd (latestG f (l.take j)) t := by
  unfold latestG
  rw [List.take_succ_eq_append_getElem h, List.foldl_append]; simp [hf]
end Rul
end Go.Proofs.YtdhbgelijjlifaaDoor
set_option linter.unusedVariables false
set_option linter.unusedSimpArgs false
namespace Go.Proofs.YtdhbgelijjlifaaDoor
namespace Src
def letB (c : UInt8) : Bool := decide (97 ≤ (c.toNat : Int) ∧ (c.toNat : Int) ≤ 122 ∨ 65 ≤ (c.toNat : Int) ∧ (c.toNat : Int) ≤ 90)
def digB (c : UInt8) : Bool := decide (48 ≤ (c.toNat : Int) ∧ (c.toNat : Int) ≤ 57)
def okB (others : List UInt8) (c : UInt8) : Bool := letB c || digB c || others.contains c
def madeB (l : List UInt8) (most : Int) (others : List UInt8) : Bool := l.all (okB others) && !l.isEmpty && decide ((l.length : Int) ≤ most)
def opensB : List UInt8 → Bool
  | [] => false
  | c :: _ => letB c || c == 95
def setB (l : List UInt8) : Bool := madeB l 20 [95, 45] && opensB l
/-- The document's. -/
def headB : List UInt8 → Bool
  | [] => false
  | c :: _ => !digB c && !(c == 45)
def rsetB (l : List UInt8) : Bool := decide (l.length ≤ 20) && headB l && l.all (fun c => letB c || digB c || c == 95 || c == 45)
theorem ok_set (c : UInt8) : okB [95, 45] c = (letB c || digB c || c == 95 || c == 45) := by
  unfold okB; simp [List.contains, List.elem, Bool.or_assoc]
  cases c == 95 <;> cases c == 45 <;> simp
theorem let_95 : letB 95 = false := by decide
theorem let_45 : letB 45 = false := by decide
theorem dig_let {c : UInt8} (h : letB c = true) : digB c = false := by
  unfold letB at h; unfold digB; simp at h ⊢; omega
theorem dig_95 : digB 95 = false := by decide
theorem set_same (l : List UInt8) : rsetB l = setB l := by
  unfold rsetB setB madeB
  rw [show (fun c => letB c || digB c || c == 95 || c == 45) = okB [95, 45] from funext fun c => (ok_set c).symm]
  cases l with
  | nil => simp [headB, opensB]
  | cons c r =>
    simp only [List.all_cons, List.isEmpty_cons, Bool.not_false, Bool.and_true, headB, opensB]
    by_cases h1 : letB c = true
    · have h2 := dig_let h1
      have h3 : (c == 45) = false := by
        cases h : c == 45
        · rfl
        · rw [beq_iff_eq] at h; subst h; rw [let_45] at h1; cases h1
      have hk : okB [95, 45] c = true := by rw [ok_set, h1]; rfl
      rw [h1, h2, h3, hk]
      have : decide ((c :: r).length ≤ 20) = decide (((c :: r).length : Int) ≤ 20) := by congr 1; apply propext; omega
      rw [this]
      cases decide (((c :: r).length : Int) ≤ 20) <;> simp
    · have h1' : letB c = false := by simpa using h1
      by_cases h4 : c = 95
      · subst h4
        have : decide ((95 :: r).length ≤ 20) = decide (((95 :: r).length : Int) ≤ 20) := by congr 1; apply propext; omega
        rw [this]
        have hk : okB [95, 45] 95 = true := by decide
        rw [let_95, dig_95, hk]
        cases decide (((95 :: r).length : Int) ≤ 20) <;> simp
      · have h5 : (c == 95) = false := by simpa using h4
        rw [h1', h5]
        by_cases h6 : digB c = true
        · rw [h6]; simp
        · have h6' : digB c = false := by simpa using h6
          by_cases h7 : (c == 45) = true
          · rw [h7]; simp
          · have h7' : (c == 45) = false := by simpa using h7
            have hk : okB [95, 45] c = false := by rw [ok_set, h1', h6', h5, h7']; rfl
            rw [hk]; simp

/-! Places. -/
def okP (c : UInt8) : Bool := okB [95, 43, 45] c
/-- Parts between bytes of one kind. -/
def splitC (x : UInt8) : List UInt8 → List (List UInt8)
  | [] => [[]]
  | c :: l => if c = x then [] :: splitC x l else match splitC x l with
    | p :: ps => (c :: p) :: ps
    | [] => [[c]]
theorem splitC_ne (x : UInt8) (l : List UInt8) : splitC x l ≠ [] := by
  cases l with
  | nil => simp [splitC]
  | cons c l => unfold splitC; split; · simp
                split <;> simp
def placeB (l : List UInt8) : Bool := (splitC 47 l).all (fun p => madeB p 40 [95, 43, 45]) && decide ((l.length : Int) ≤ 40)
/-- The document's: how long is the part at hand? -/
def placeD : Nat → List UInt8 → Bool
  | k, [] => decide (0 < k)
  | k, c :: l => if c = 47 then (if k = 0 then false else placeD 0 l) else if okP c = true then placeD (k + 1) l else false
def rplaceB (l : List UInt8) : Bool := placeD 0 l && decide (l.length ≤ 40)
theorem madeP (p : List UInt8) : madeB p 40 [95, 43, 45] = (p.all okP && !p.isEmpty && decide (p.length ≤ 40)) := by
  unfold madeB okP
  congr 1; congr 1; apply propext; omega
theorem parts_le (x : UInt8) : ∀ (l : List UInt8), ∀ p ∈ splitC x l, p.length ≤ l.length := by
  intro l
  induction l with
  | nil => intro p hp; simp [splitC] at hp; subst hp; simp
  | cons c l ih =>
    intro p hp
    unfold splitC at hp
    split at hp
    · rcases List.mem_cons.1 hp with rfl | hp
      · simp
      · have := ih p hp; simp; omega
    · cases hs : splitC x l with
      | nil => exact absurd hs (splitC_ne x l)
      | cons q qs =>
        rw [hs] at hp ih
        rcases List.mem_cons.1 hp with rfl | hp
        · have := ih q (by simp); simp; omega
        · have := ih p (by simp [hp]); simp; omega
/-- The first part has k bytes more. -/
def headK (k : Nat) : List (List UInt8) → Bool
  | [] => false
  | p :: ps => p.all okP && decide (0 < k + p.length) && ps.all (fun q => q.all okP && !q.isEmpty)
theorem place_head : ∀ (l : List UInt8) (k : Nat), placeD k l = headK k (splitC 47 l) := by
  intro l
  induction l with
  | nil => intro k; simp [placeD, splitC, headK]
  | cons c l ih =>
    intro k
    unfold placeD splitC
    by_cases h : c = 47
    · rw [if_pos h, if_pos h]
      cases hs : splitC 47 l with
      | nil => exact absurd hs (splitC_ne 47 l)
      | cons q qs =>
        rw [hs] at ih
        by_cases hk : k = 0
        · rw [if_pos hk]; subst hk; simp [headK]
        · rw [if_neg hk, ih 0]
          simp only [headK, List.all_nil, List.length_nil, List.all_cons, Bool.true_and]
          rw [show decide (0 < k + 0) = true from decide_eq_true (by omega)]
          cases q with
          | nil => simp
          | cons x q => simp
    · rw [if_neg h, if_neg h]
      cases hs : splitC 47 l with
      | nil => exact absurd hs (splitC_ne 47 l)
      | cons q qs =>
        rw [hs] at ih
        simp only [headK, List.all_cons, List.length_cons]
        rw [show decide (0 < k + (q.length + 1)) = true from decide_eq_true (by omega)]
        by_cases ho : okP c = true
        · rw [if_pos ho, ih (k + 1), ho]
          simp only [headK]
          rw [show decide (0 < k + 1 + q.length) = true from decide_eq_true (by omega)]
          simp
        · rw [if_neg ho]
          have : okP c = false := by simpa using ho
          rw [this]; simp
theorem place_same (l : List UInt8) : rplaceB l = placeB l := by
  unfold rplaceB placeB
  rw [place_head, show decide ((l.length : Int) ≤ 40) = decide (l.length ≤ 40) by congr 1; apply propext; omega]
  by_cases h : l.length ≤ 40
  · rw [decide_eq_true h, Bool.and_true, Bool.and_true]
    have hp := parts_le 47 l
    have : (splitC 47 l).all (fun p => madeB p 40 [95, 43, 45]) = (splitC 47 l).all (fun q => q.all okP && !q.isEmpty) := by
      rw [Bool.eq_iff_iff, List.all_eq_true, List.all_eq_true]
      constructor
      · intro g p hm; have := g p hm; rw [madeP] at this; simp at this ⊢; exact this.1
      · intro g p hm; have := g p hm; rw [madeP]; simp at this ⊢; have := hp p hm; exact ⟨by assumption, by omega⟩
    rw [this]
    cases hs : splitC 47 l with
    | nil => exact absurd hs (splitC_ne 47 l)
    | cons q qs =>
      simp only [headK, List.all_cons, Nat.zero_add]
      cases q <;> simp
  · rw [decide_eq_false h, Bool.and_false, Bool.and_false]

/-! Formats. -/
/-- What is ahead of the first such byte, what is behind; is there one? -/
def cutC (x : UInt8) : List UInt8 → List UInt8 × List UInt8 × Bool
  | [] => ([], [], false)
  | c :: l => if c = x then ([], l, true) else (c :: (cutC x l).1, (cutC x l).2.1, (cutC x l).2.2)
theorem cutC_no {x : UInt8} : ∀ {l : List UInt8}, x ∉ l → cutC x l = (l, [], false)
  | [], _ => rfl
  | c :: l, h => by
    rw [List.mem_cons, not_or] at h
    unfold cutC
    rw [if_neg (fun e => h.1 e.symm), cutC_no h.2]
theorem cutC_yes {x : UInt8} : ∀ {a : List UInt8} (r : List UInt8), x ∉ a → cutC x (a ++ x :: r) = (a, r, true)
  | [], r, _ => by simp [cutC]
  | c :: a, r, h => by
    rw [List.mem_cons, not_or] at h
    rw [List.cons_append]
    unfold cutC
    rw [if_neg (fun e => h.1 e.symm), cutC_yes r h.2]
def szB : List UInt8 → Bool
  | [] => false
  | c :: _ => c == 115 || c == 122
def ok4 (c : UInt8) : Bool := okB [43, 45, 37, 47] c
def plainB (c : UInt8) : Bool := letB c || digB c || c == 43 || c == 45
def tailB (l : List UInt8) : Bool := if (cutC 37 l).2.2 = true then !l.contains 47 && !(cutC 37 l).2.1.contains 37 && szB (cutC 37 l).2.1 else
  !(cutC 47 (cutC 37 l).1).2.2 || (!(cutC 47 (cutC 37 l).1).1.isEmpty && !(cutC 47 (cutC 37 l).1).2.1.isEmpty && !(cutC 47 (cutC 37 l).1).2.1.contains 47)
def fmtB (l : List UInt8) : Bool := madeB l 20 [43, 45, 37, 47] && tailB l
/-- The document's: how many marks have stood? -/
def fmtD : Bool → Nat → List UInt8 → Bool
  | _, k, [] => decide (k ≤ 1)
  | f, k, c :: r => if c = 37 then szB r && fmtD false (k + 1) r else if c = 47 then !f && !r.isEmpty && fmtD false (k + 1) r else plainB c && fmtD false k r
def rfmtB (l : List UInt8) : Bool := fmtD true 0 l && !l.isEmpty && decide (l.length ≤ 20)
theorem fmt_two : ∀ (l : List UInt8) (f : Bool) (k : Nat), 2 ≤ k → fmtD f k l = false
  | [], f, k, h => decide_eq_false (by omega)
  | c :: r, f, k, h => by
    unfold fmtD
    rw [fmt_two r false (k + 1) (by omega), fmt_two r false k h]
    simp
theorem plain_37 : plainB 37 = false := by decide
theorem plain_47 : plainB 47 = false := by decide
theorem fmt_one : ∀ (l : List UInt8) (f : Bool), fmtD f 1 l = l.all plainB
  | [], f => rfl
  | c :: r, f => by
    unfold fmtD
    rw [fmt_two r false (1 + 1) (by omega), fmt_one r false, List.all_cons]
    by_cases h : c = 37
    · subst h; rw [plain_37]; simp
    · by_cases h2 : c = 47
      · subst h2; rw [plain_47]; simp
      · simp [h, h2]
theorem ok4_eq (c : UInt8) : ok4 c = (plainB c || c == 37 || c == 47) := by
  unfold ok4 okB plainB; simp [List.contains, List.elem, Bool.or_assoc]
  cases c == 43 <;> cases c == 45 <;> cases c == 37 <;> cases c == 47 <;> simp
theorem ok4_plain {c : UInt8} (h1 : c ≠ 37) (h2 : c ≠ 47) : ok4 c = plainB c := by
  rw [ok4_eq, beq_eq_false_iff_ne.2 h1, beq_eq_false_iff_ne.2 h2]; simp
theorem all_plain : ∀ {l : List UInt8}, 37 ∉ l → 47 ∉ l → l.all ok4 = l.all plainB
  | [], _, _ => rfl
  | c :: l, h1, h2 => by
    rw [List.mem_cons, not_or] at h1 h2
    rw [List.all_cons, List.all_cons, ok4_plain (fun e => h1.1 e.symm) (fun e => h2.1 e.symm), all_plain h1.2 h2.2]
theorem plain_all (l : List UInt8) : l.all plainB = (l.all ok4 && !l.contains 37 && !l.contains 47) := by
  by_cases h1 : 37 ∈ l
  · have : l.all plainB = false := by
      rw [List.all_eq_false]; exact ⟨37, h1, by rw [plain_37]; simp⟩
    rw [this, show l.contains 37 = true by simpa using h1]; simp
  · by_cases h2 : 47 ∈ l
    · have : l.all plainB = false := by
        rw [List.all_eq_false]; exact ⟨47, h2, by rw [plain_47]; simp⟩
      rw [this, show l.contains 47 = true by simpa using h2]; simp
    · rw [← all_plain h1 h2, show l.contains 37 = false by simpa using h1, show l.contains 47 = false by simpa using h2]; simp
theorem fmt_skip : ∀ (a r : List UInt8) (f : Bool), 37 ∉ a → 47 ∉ a → fmtD f 0 (a ++ r) = (a.all plainB && fmtD (f && a.isEmpty) 0 r)
  | [], r, f, _, _ => by simp
  | c :: a, r, f, h1, h2 => by
    rw [List.mem_cons, not_or] at h1 h2
    rw [List.cons_append, fmtD, if_neg (fun e => h1.1 e.symm), if_neg (fun e => h2.1 e.symm), fmt_skip a r false h1.2 h2.2]
    simp [Bool.and_assoc]
theorem parted (l : List UInt8) : (37 ∉ l ∧ 47 ∉ l) ∨ ∃ a c r, l = a ++ c :: r ∧ (37 ∉ a ∧ 47 ∉ a) ∧ (c = 37 ∨ c = 47) := by
  induction l with
  | nil => left; simp
  | cons c l ih =>
    by_cases h : c = 37 ∨ c = 47
    · right; exact ⟨[], c, l, rfl, by simp, h⟩
    · have hc1 : ¬ 37 = c := fun e => h (.inl e.symm)
      have hc2 : ¬ 47 = c := fun e => h (.inr e.symm)
      rcases ih with ⟨h1, h2⟩ | ⟨a, x, r, rfl, ⟨h1, h2⟩, h3⟩
      · left; simp [h1, h2, hc1, hc2]
      · right; exact ⟨c :: a, x, r, rfl, by simp [h1, h2, hc1, hc2], h3⟩
theorem first_at {x : UInt8} : ∀ {l : List UInt8}, x ∈ l → ∃ b d, l = b ++ x :: d ∧ x ∉ b
  | [], h => by cases h
  | c :: l, h => by
    by_cases hx : c = x
    · exact ⟨[], l, by rw [hx]; rfl, by simp⟩
    · have hm : x ∈ l := by
        rcases List.mem_cons.1 h with h | h
        · exact absurd h.symm hx
        · exact h
      obtain ⟨b, d, g1, g2⟩ := first_at hm
      exact ⟨c :: b, d, by rw [g1]; rfl, by simp [g2]; exact fun e => hx e.symm⟩
theorem fmt_core (l : List UInt8) : fmtD true 0 l = (l.all ok4 && tailB l) := by
  rcases parted l with ⟨h1, h2⟩ | ⟨a, c, r, rfl, ⟨h1, h2⟩, rfl | rfl⟩
  · have := fmt_skip l [] true h1 h2
    rw [List.append_nil] at this
    rw [this, all_plain h1 h2]
    unfold tailB
    rw [cutC_no h1, cutC_no h2]
    simp [fmtD]
  · rw [fmt_skip a _ true h1 h2]
    unfold tailB
    rw [cutC_yes r h1, if_pos rfl, fmtD, if_pos rfl, fmt_one, plain_all r, List.all_append, List.all_cons, ← all_plain h1 h2]
    have e1 : (a ++ 37 :: r).contains 47 = r.contains 47 := by simp [h2]
    have e2 : ok4 37 = true := by decide
    rw [e1, e2]
    cases a.all ok4 <;> cases szB r <;> cases r.all ok4 <;> cases r.contains 37 <;> cases r.contains 47 <;> rfl
  · rw [fmt_skip a _ true h1 h2, fmtD, if_neg (by decide), if_pos rfl, fmt_one, plain_all r, List.all_append, List.all_cons, ← all_plain h1 h2]
    have e2 : ok4 47 = true := by decide
    rw [e2]
    unfold tailB
    by_cases h3 : 37 ∈ r
    · have e3 : r.contains 37 = true := by simpa using h3
      obtain ⟨b, d, rfl, hb⟩ := first_at h3
      have e4 : 37 ∉ a ++ 47 :: b := by simp [h1, hb]
      rw [show a ++ 47 :: (b ++ 37 :: d) = (a ++ 47 :: b) ++ 37 :: d by simp, cutC_yes d e4, if_pos rfl, e3]
      have : (a ++ 47 :: b ++ 37 :: d).contains 47 = true := by simp
      rw [this]; simp
    · have e3 : r.contains 37 = false := by simpa using h3
      have e4 : 37 ∉ a ++ 47 :: r := by simp [h1, h3]
      rw [cutC_no e4, if_neg (by simp), cutC_yes r h2, e3]
      cases a.all ok4 <;> cases r.all ok4 <;> cases r.contains 47 <;> cases a.isEmpty <;> cases r.isEmpty <;> rfl
theorem fmt_same (l : List UInt8) : rfmtB l = fmtB l := by
  unfold rfmtB fmtB madeB
  rw [fmt_core, show decide ((l.length : Int) ≤ 20) = decide (l.length ≤ 20) by congr 1; apply propext; omega]
  show _ = (l.all ok4 && _ && _ && _)
  cases l.all ok4 <;> cases tailB l <;> cases l.isEmpty <;> cases decide (l.length ≤ 20) <;> rfl

/-! Letters. -/
def rlettersB (l : List UInt8) : Bool := l.all plainB && decide (1 ≤ l.length) && decide (l.length ≤ 8)
theorem letters_same (l : List UInt8) : rlettersB l = madeB l 8 [43, 45] := by
  unfold rlettersB madeB
  have : okB [43, 45] = plainB := by
    funext c
    unfold okB plainB; simp [List.contains, List.elem, Bool.or_assoc]
    cases c == 43 <;> cases c == 45 <;> simp
  rw [this, show decide ((l.length : Int) ≤ 8) = decide (l.length ≤ 8) by congr 1; apply propext; omega]
  cases l <;> simp
end Src
end Go.Proofs.YtdhbgelijjlifaaDoor
set_option linter.unusedVariables false
set_option linter.unusedSimpArgs false
namespace Go.Proofs.YtdhbgelijjlifaaDoor
namespace Src
theorem byte_no {x : UInt8} : ∀ {l : List UInt8}, x ∉ l → Lib.indexByte l x = -1
  | [], _ => rfl
  | c :: l, h => by
    rw [List.mem_cons, not_or] at h
    unfold Lib.indexByte
    rw [if_neg (by rw [beq_iff_eq]; exact fun e => h.1 e.symm), byte_no h.2]; rfl
theorem byte_yes {x : UInt8} : ∀ {a : List UInt8} (r : List UInt8), x ∉ a → Lib.indexByte (a ++ x :: r) x = a.length
  | [], r, _ => by simp [Lib.indexByte]
  | c :: a, r, h => by
    rw [List.mem_cons, not_or] at h
    rw [List.cons_append]
    unfold Lib.indexByte
    rw [if_neg (by rw [beq_iff_eq]; exact fun e => h.1 e.symm), byte_yes r h.2, if_neg (by rw [beq_iff_eq]; omega)]
    simp
theorem index_no {x : UInt8} {l : List UInt8} (h : x ∉ l) : Lib.index l [x] = -1 := by rw [Lib.index_one, byte_no h]
theorem index_yes {x : UInt8} {a : List UInt8} (r : List UInt8) (h : x ∉ a) : Lib.index (a ++ x :: r) [x] = a.length := by rw [Lib.index_one, byte_yes r h]
theorem byte_lt {x : UInt8} (l : List UInt8) : decide (Lib.indexByte l x < 0) = !l.contains x := by
  by_cases h : x ∈ l
  · obtain ⟨a, r, rfl, ha⟩ := first_at h
    rw [byte_yes r ha, decide_eq_false (by omega)]; simp
  · rw [byte_no h, show l.contains x = false by simpa using h]; rfl
theorem contains_one (l : List UInt8) (x : UInt8) : decide (0 ≤ Lib.indexByte l x) = l.contains x := by
  by_cases h : x ∈ l
  · obtain ⟨a, r, rfl, ha⟩ := first_at h
    rw [byte_yes r ha, decide_eq_true (by omega)]; simp
  · rw [byte_no h, show l.contains x = false by simpa using h]; rfl
theorem cut_one (l : List UInt8) (x : UInt8) : Lib.cut l [x] = cutC x l := by
  unfold Lib.cut
  by_cases h : x ∈ l
  · obtain ⟨a, r, rfl, ha⟩ := first_at h
    rw [index_yes r ha, if_pos (by omega), cutC_yes r ha]
    simp
  · rw [index_no h, if_neg (by omega), cutC_no h]
theorem splitC_no {x : UInt8} : ∀ {l : List UInt8}, x ∉ l → splitC x l = [l]
  | [], _ => rfl
  | c :: l, h => by
    rw [List.mem_cons, not_or] at h
    unfold splitC
    rw [if_neg (fun e => h.1 e.symm), splitC_no h.2]
theorem splitC_yes {x : UInt8} : ∀ {a : List UInt8} (r : List UInt8), x ∉ a → splitC x (a ++ x :: r) = a :: splitC x r
  | [], r, _ => by simp [splitC]
  | c :: a, r, h => by
    rw [List.mem_cons, not_or] at h
    rw [List.cons_append]
    conv => lhs; unfold splitC
    rw [if_neg (fun e => h.1 e.symm), splitC_yes r h.2]
theorem split_one (x : UInt8) : ∀ (n : Nat) (l : List UInt8), l.length ≤ n → Lib.splitK [x] 0 (Lib.count l [x]) l = splitC x l
  | n, l, hn => by
    by_cases h : x ∈ l
    · obtain ⟨a, r, rfl, ha⟩ := first_at h
      cases n with
      | zero => simp at hn
      | succ n =>
        have e := index_yes r ha
        have e2 : List.drop (a.length + [x].length) (a ++ x :: r) = r := by simp
        rw [Lib.count_hit (by simp) e, e2, Nat.add_comm]
        unfold Lib.splitK
        rw [e, if_neg (by rw [beq_iff_eq]; omega), Int.toNat_natCast, e2, splitC_yes r ha, split_one x n r (by simp at hn; omega)]
        simp
    · rw [Lib.count_miss (index_no h), splitC_no h]; rfl
theorem pieces_one (s : ByteArray) (x : UInt8) : (Lib.splitB ⟨#[x]⟩ 0 (Lib.countB s ⟨#[x]⟩) s).map (·.data.toList) = splitC x s.data.toList := by
  rw [Lib.splitB_data]
  exact split_one x _ _ (Nat.le_refl _)
theorem pieces_len (s : ByteArray) (x : UInt8) : (Lib.splitB ⟨#[x]⟩ 0 (Lib.countB s ⟨#[x]⟩) s).length = Lib.countB s ⟨#[x]⟩ + 1 := Lib.splitB_all (⟨#[x]⟩ : ByteArray) (Nat.le_refl 1) 0 _ s rfl
end Src
end Go.Proofs.YtdhbgelijjlifaaDoor
set_option linter.unusedVariables false
set_option linter.unusedSimpArgs false
namespace Go.Proofs.YtdhbgelijjlifaaDoor
/-- An era: its offset, kind, saving, set, format; its end. -/
structure Era where
  off : Int
  kd : Int
  s : Int
  rs : ByteArray
  fm : ByteArray
  til : Bool
  y : Int
  m : Int
  k : Int
  wd : Int
  d : Int
  t : Int
  r : Int
deriving Inhabited
structure Zone where
  nm : ByteArray
  es : List Era
deriving Inhabited
structure Link where
  tg : ByteArray
  nm : ByteArray
deriving Inhabited
structure Source where
  rules : List Rule
  zones : List Zone
  links : List Link
namespace Src
def saveB (s : Int) : Bool := decide (-43200 ≤ s ∧ s ≤ 43200)
def yearB (n : Int) : Bool := decide (1 ≤ n ∧ n ≤ 9999)
def letterB (l : List UInt8) : Bool := l.isEmpty || (!(l == [45]) && madeB l 8 [43, 45])
def ruleB (x : Rule) : Bool := setB x.nm.data.toList && Rul.rightB x && letterB x.l.data.toList
def kindB (x : Era) : Bool := if x.kd = 0 then x.s == 0 && x.rs.data.toList.isEmpty else if x.kd = 1 then saveB x.s && x.rs.data.toList.isEmpty else if x.kd = 2 then x.s == 0 && setB x.rs.data.toList else false
def endB (x : Era) : Bool := if x.til = true then yearB x.y && Mom.rightB x.m x.k x.wd x.d x.t x.r else x.y == 0 && (x.m == 0 && x.k == 0 && x.wd == 0 && x.d == 0 && x.t == 0 && x.r == 0)
def offB (x : Era) : Bool := decide (-86400 < x.off ∧ x.off < 86400)
def eraB (x : Era) : Bool := offB x && fmtB x.fm.data.toList && kindB x && endB x
/-- Eras of a zone, up to its last. -/
def erasB : List Era → Bool
  | [] => true
  | x :: l => eraB x && (x.til == !l.isEmpty) && erasB l
def zoneB (z : Zone) : Bool := placeB z.nm.data.toList && decide (1 ≤ z.es.length ∧ z.es.length ≤ 40) && erasB z.es
def linkB (x : Link) : Bool := placeB x.tg.data.toList && placeB x.nm.data.toList
def lensB (s : Source) : Bool := decide (s.rules.length ≤ 200 ∧ s.zones.length ≤ 50 ∧ s.links.length ≤ 100)
def srcB (s : Source) : Bool := lensB s && (s.rules.all ruleB && (s.zones.all zoneB && s.links.all linkB))
theorem rules_ok {s : Source} (h : srcB s = true) : Rul.allB s.rules = true := by
  unfold srcB at h
  simp only [Bool.and_eq_true] at h
  have := h.2.1
  rw [List.all_eq_true] at this
  exact List.all_eq_true.2 fun x hx => by have := this x hx; unfold ruleB at this; simp only [Bool.and_eq_true] at this; exact this.1.2
theorem all_drop {α : Type} (f : α → Bool) (l : List α) (j : Nat) (h : j < l.length) : (l.drop j).all f = (f l[j] && (l.drop (j + 1)).all f) := by
  rw [List.drop_eq_getElem_cons h, List.all_cons]
theorem eras_drop (l : List Era) (j : Nat) (h : j < l.length) : erasB (l.drop j) = (eraB l[j] && (l[j].til == decide (j + 1 < l.length)) && erasB (l.drop (j + 1))) := by
  rw [List.drop_eq_getElem_cons h]
  show (eraB l[j] && (l[j].til == !(l.drop (j + 1)).isEmpty) && _) = _
  have : (!(l.drop (j + 1)).isEmpty) = decide (j + 1 < l.length) := by
    rw [Bool.eq_iff_iff]; simp
  rw [this]
/-- The document's. -/
def reraB (x : Era) : Bool := offB x && saveB x.s && fmtB x.fm.data.toList && (decide (0 ≤ x.kd ∧ x.kd ≤ 2) && (x.kd == 1 || x.s == 0) && (x.kd == 2 || x.rs.data.toList.isEmpty) && (!(x.kd == 2) || setB x.rs.data.toList)) && endB x
theorem era_same (x : Era) : reraB x = eraB x := by
  unfold reraB eraB kindB saveB
  cases offB x <;> cases fmtB x.fm.data.toList <;> cases endB x <;> simp
  by_cases h0 : x.kd = 0
  · rw [h0]; simp
    by_cases hs : x.s = 0
    · rw [hs]; simp
    · simp [hs]
  · by_cases h1 : x.kd = 1
    · rw [h1]; simp
    · by_cases h2 : x.kd = 2
      · rw [h2]; simp
        by_cases hs : x.s = 0
        · rw [hs]; simp
        · simp [hs]
      · have hk : (decide (0 ≤ x.kd) && decide (x.kd ≤ 2)) = false := by
          rw [Bool.and_eq_false_iff, decide_eq_false_iff_not, decide_eq_false_iff_not]; omega
        rw [if_neg h0, if_neg h1, show decide (x.kd = 2) = false from decide_eq_false h2, hk]
        simp
end Src
end Go.Proofs.YtdhbgelijjlifaaDoor
