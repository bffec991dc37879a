/- Plain laws of the calendar: no program in sight. -/
set_option linter.unusedVariables false
set_option linter.unusedSimpArgs false
namespace Go.Proofs.YtcjnficcggjeiaaDoor
namespace Civ
/-- A year with a day more. -/
def leapB (y : Int) : Bool := decide (y % 4 = 0 ∧ (y % 100 ≠ 0 ∨ y % 400 = 0))
theorem leap_yes (y : Int) (h : leapB y = true) : y % 4 = 0 ∧ (y % 100 ≠ 0 ∨ y % 400 = 0) := by simpa [leapB] using h
theorem leap_no (y : Int) (h : leapB y = false) : ¬ (y % 4 = 0 ∧ (y % 100 ≠ 0 ∨ y % 400 = 0)) := by simpa only [leapB, decide_eq_false_iff_not] using h
theorem leap_mk (y : Int) (h : y % 4 = 0 ∧ (y % 100 ≠ 0 ∨ y % 400 = 0)) : leapB y = true := by simpa [leapB] using h
theorem leap_mk_no (y : Int) (h : ¬ (y % 4 = 0 ∧ (y % 100 ≠ 0 ∨ y % 400 = 0))) : leapB y = false := by simpa only [leapB, decide_eq_false_iff_not] using h
/-- 1 in a leap year, else 0. -/
def lp (y : Int) : Int := if leapB y then 1 else 0
theorem lp_yes (y : Int) (h : leapB y = true) : lp y = 1 := by simp [lp, h]
theorem lp_no (y : Int) (h : leapB y = false) : lp y = 0 := by simp [lp, h]
theorem lp_01 (y : Int) : 0 ≤ lp y ∧ lp y ≤ 1 := by unfold lp; split <;> omega
theorem lp_val (y : Int) : lp y = (y + 4) / 4 - (y + 3) / 4 - (y + 100) / 100 + (y + 99) / 100 + (y + 400) / 400 - (y + 399) / 400 := by
  cases h : leapB y
  · rw [lp_no y h]; have := leap_no y h; omega
  · rw [lp_yes y h]; have := leap_yes y h; omega
/-- The number of a year's first day. -/
def jan (y : Int) : Int := 365 * y + (y + 3) / 4 - (y + 99) / 100 + (y + 399) / 400 - 719528
theorem jan_succ (y : Int) : jan (y + 1) = jan y + 365 + lp y := by rw [lp_val]; unfold jan; omega
theorem jan_era (c : Int) : jan (400 * c) = c * 146097 - 719528 := by unfold jan; omega
theorem jan_mono (a b : Int) (h : a ≤ b) : jan a + 365 * (b - a) ≤ jan b := by unfold jan; omega
/-- How many days stand ahead of a month. -/
def cum (y m : Int) : Int := if m ≤ 1 then 0 else if m = 2 then 31 else (if m = 3 then 59 else if m = 4 then 90 else if m = 5 then 120 else if m = 6 then 151 else if m = 7 then 181 else if m = 8 then 212 else if m = 9 then 243 else if m = 10 then 273 else if m = 11 then 304 else if m = 12 then 334 else 365) + lp y
def mlen (y m : Int) : Int := if m < 1 ∨ 12 < m then 0 else if m = 2 then 28 + lp y else if m = 4 ∨ m = 6 ∨ m = 9 ∨ m = 11 then 30 else 31
theorem m12 (m : Int) (h : 1 ≤ m) (k : m ≤ 12) : m = 1 ∨ m = 2 ∨ m = 3 ∨ m = 4 ∨ m = 5 ∨ m = 6 ∨ m = 7 ∨ m = 8 ∨ m = 9 ∨ m = 10 ∨ m = 11 ∨ m = 12 := by omega
theorem cum_succ (y m : Int) (h : 1 ≤ m) (k : m ≤ 12) : cum y (m + 1) = cum y m + mlen y m := by
  rcases m12 m h k with rfl | rfl | rfl | rfl | rfl | rfl | rfl | rfl | rfl | rfl | rfl | rfl <;> simp [cum, mlen] <;> omega
theorem cum_13 (y : Int) : cum y 13 = 365 + lp y := by simp [cum]
theorem cum_1 (y : Int) : cum y 1 = 0 := by simp [cum]
theorem mlen_bd (y m : Int) : 0 ≤ mlen y m ∧ mlen y m ≤ 31 := by
  have := lp_01 y
  unfold mlen; split
  · omega
  · split
    · omega
    · split <;> omega
theorem mlen_lo (y m : Int) (h : 1 ≤ m) (k : m ≤ 12) : 28 ≤ mlen y m := by
  have := lp_01 y
  unfold mlen; rw [if_neg (by omega)]; split
  · omega
  · split <;> omega
theorem mlen_out (y m : Int) (h : m < 1 ∨ 12 < m) : mlen y m = 0 := by unfold mlen; rw [if_pos h]
theorem mlen_31 (y m : Int) (h : m = 1 ∨ m = 3 ∨ m = 5 ∨ m = 7 ∨ m = 8 ∨ m = 10 ∨ m = 12) : mlen y m = 31 := by
  rcases h with rfl | rfl | rfl | rfl | rfl | rfl | rfl <;> simp [mlen]
theorem mlen_30 (y m : Int) (h : m = 4 ∨ m = 6 ∨ m = 9 ∨ m = 11) : mlen y m = 30 := by
  rcases h with rfl | rfl | rfl | rfl <;> simp [mlen]
theorem mlen_2 (y m : Int) (h : m = 2) : mlen y m = 28 + lp y := by subst h; simp [mlen]
theorem mlen_in (y m : Int) (h : 1 ≤ mlen y m) : 1 ≤ m ∧ m ≤ 12 := by
  by_cases c : m < 1 ∨ 12 < m
  · rw [mlen_out y m c] at h; omega
  · omega
theorem cum_bd (y m : Int) (h : 1 ≤ m) (k : m ≤ 13) : 0 ≤ cum y m ∧ cum y m ≤ 365 + lp y ∧ 28 * (m - 1) ≤ cum y m := by
  have := lp_01 y
  by_cases c : m = 13
  · subst c; rw [cum_13]; omega
  · rcases m12 m h (by omega) with rfl | rfl | rfl | rfl | rfl | rfl | rfl | rfl | rfl | rfl | rfl | rfl <;> simp [cum] <;> omega
theorem cum_le (y m : Int) (h : 1 ≤ m) (k : m ≤ 12) : cum y m + mlen y m ≤ 365 + lp y := by
  rw [← cum_succ y m h k]; exact (cum_bd y (m + 1) (by omega) (by omega)).2.1
theorem cum_mono (y a b : Int) (h : 1 ≤ a) (k : b ≤ 12) (ab : a < b) : cum y a + mlen y a ≤ cum y b := by
  have hl := lp_01 y
  rcases m12 a h (by omega) with rfl | rfl | rfl | rfl | rfl | rfl | rfl | rfl | rfl | rfl | rfl | rfl <;> rcases m12 b (by omega) k with rfl | rfl | rfl | rfl | rfl | rfl | rfl | rfl | rfl | rfl | rfl | rfl <;> first | omega | (simp [cum, mlen]; try omega)
/-- A date's number. -/
def num (y m d : Int) : Int := jan y + cum y m + d - 1
/-- A date's fields are right, however far. -/
def fits (y m d : Int) : Prop := 1 ≤ m ∧ m ≤ 12 ∧ 1 ≤ d ∧ d ≤ mlen y m
theorem num_year (y m d : Int) (h : fits y m d) : jan y ≤ num y m d ∧ num y m d < jan (y + 1) := by
  obtain ⟨h1, h2, h3, h4⟩ := h
  have := cum_bd y m h1 (by omega); have := cum_le y m h1 h2
  rw [jan_succ]; unfold num; omega
theorem num_inj (y m d y' m' d' : Int) (h : fits y m d) (h' : fits y' m' d') (e : num y m d = num y' m' d') : y = y' ∧ m = m' ∧ d = d' := by
  have a := num_year y m d h; have a' := num_year y' m' d' h'
  have hy : y = y' := by
    rcases Int.lt_trichotomy y y' with c | c | c
    · have := jan_mono (y + 1) y' (by omega); omega
    · exact c
    · have := jan_mono (y' + 1) y (by omega); omega
  subst hy
  obtain ⟨h1, h2, h3, h4⟩ := h
  obtain ⟨k1, k2, k3, k4⟩ := h'
  have hm : m = m' := by
    unfold num at e
    rcases Int.lt_trichotomy m m' with c | c | c
    · have := cum_mono y m m' h1 k2 c; omega
    · exact c
    · have := cum_mono y m' m k1 h2 c; omega
  subst hm
  unfold num at e
  exact ⟨rfl, rfl, by omega⟩
/-- A date may be. -/
def okD (y m d : Int) : Bool := decide (1 ≤ m ∧ m ≤ 12 ∧ 1 ≤ d ∧ d ≤ mlen y m ∧ -100000001 ≤ num y m d ∧ num y m d ≤ 100000000)
theorem okD_yes (y m d : Int) (h : okD y m d = true) : fits y m d ∧ -100000001 ≤ num y m d ∧ num y m d ≤ 100000000 := by
  have := of_decide_eq_true h; exact ⟨⟨this.1, this.2.1, this.2.2.1, this.2.2.2.1⟩, this.2.2.2.2.1, this.2.2.2.2.2⟩
theorem okD_no (y m d : Int) (h : okD y m d = false) : ¬ (fits y m d ∧ -100000001 ≤ num y m d ∧ num y m d ≤ 100000000) := by
  intro ⟨⟨a, b, c, e⟩, f, g⟩
  exact of_decide_eq_false h ⟨a, b, c, e, f, g⟩
theorem okD_mk (y m d : Int) (h : fits y m d) (a : -100000001 ≤ num y m d) (b : num y m d ≤ 100000000) : okD y m d = true := decide_eq_true ⟨h.1, h.2.1, h.2.2.1, h.2.2.2, a, b⟩
theorem okD_mk_no (y m d : Int) (h : ¬ (fits y m d ∧ -100000001 ≤ num y m d ∧ num y m d ≤ 100000000)) : okD y m d = false := decide_eq_false fun k => h ⟨⟨k.1, k.2.1, k.2.2.1, k.2.2.2.1⟩, k.2.2.2.2.1, k.2.2.2.2.2⟩
theorem okD_year (y m d : Int) (h : okD y m d = true) : -271821 ≤ y ∧ y ≤ 275760 := by
  obtain ⟨f, a, b⟩ := okD_yes y m d h
  have := num_year y m d f
  unfold jan at this
  omega
/-- The number as the program reckons it: years begin in March. -/
theorem count_eq (y m d : Int) (h1 : 1 ≤ m) (h2 : m ≤ 12) :
    (if m - 3 < 0 then ((y - 1) / 400) * 146097 + (y - 1) % 400 * 365 + (y - 1) % 400 / 4 - (y - 1) % 400 / 100 + (153 * (m - 3 + 12) + 2) / 5 + d - 1 - 719468
     else (y / 400) * 146097 + y % 400 * 365 + y % 400 / 4 - y % 400 / 100 + (153 * (m - 3) + 2) / 5 + d - 1 - 719468) = num y m d := by
  have hl := lp_val y
  unfold num jan
  rcases m12 m h1 h2 with rfl | rfl | rfl | rfl | rfl | rfl | rfl | rfl | rfl | rfl | rfl | rfl <;> simp [cum] <;> omega
theorem of_year (D y : Int) (h : 0 ≤ D) (h' : D < 146097) (e : y = (D - D/1460 + D/36524 - D/146096) / 365) : 0 ≤ y ∧ y ≤ 399 ∧ 0 ≤ D - (365 * y + y / 4 - y / 100) ∧ D - (365*y + y/4 - y/100) ≤ 365 ∧ (D - (365*y + y/4 - y/100) = 365 → (y + 1) % 4 = 0 ∧ ((y+1) % 100 ≠ 0 ∨ (y + 1) % 400 = 0)):= by
  have c : D < 36524 ∨ (36524 ≤ D ∧ D < 73048) ∨ (73048 ≤ D ∧ D < 109572) ∨ (109572 ≤ D ∧ D < 146096) ∨ D = 146096 := by omega
  rcases c with c | c | c | c | c
  · obtain ⟨e1, e2⟩ : D / 36524 = 0 ∧ D/146096 = 0 := by omega
    rw [e1, e2] at e
    have : y / 100 = 0 := by omega
    rw [this]
    refine ⟨by omega, by omega, by omega, by omega, fun q => ?_⟩
    by_cases q4 : y % 4 = 3
    · refine ⟨by omega, ?_⟩
      omega
    · exfalso
      omega
  · obtain ⟨e1, e2⟩ : D / 36524 = 1 ∧ D/146096 = 0 := by omega
    rw [e1, e2] at e
    have : y / 100 = 1 := by omega
    rw [this]
    refine ⟨by omega, by omega, by omega, by omega, fun q => ?_⟩
    by_cases q4 : y % 4 = 3
    · refine ⟨by omega, ?_⟩
      omega
    · exfalso
      omega
  · obtain ⟨e1, e2⟩ : D / 36524 = 2 ∧ D/146096 = 0 := by omega
    rw [e1, e2] at e
    have : y / 100 = 2 := by omega
    rw [this]
    refine ⟨by omega, by omega, by omega, by omega, fun q => ?_⟩
    by_cases q4 : y % 4 = 3
    · refine ⟨by omega, ?_⟩
      omega
    · exfalso
      omega
  · obtain ⟨e1, e2⟩ : D / 36524 = 3 ∧ D/146096 = 0 := by omega
    rw [e1, e2] at e
    have : y / 100 = 3 := by omega
    rw [this]
    refine ⟨by omega, by omega, by omega, by omega, fun q => ?_⟩
    by_cases q4 : y % 4 = 3
    · refine ⟨by omega, ?_⟩
      omega
    · exfalso
      omega
  · subst c; subst e; decide

/-- The date of a number, as the program reckons it: the year from March on, the rest, the month from March on. -/
def ofC (n : Int) : Int := (n + 719468) / 146097
def ofDay (n : Int) : Int := (n + 719468) % 146097
def ofY (n : Int) : Int := (ofDay n - ofDay n / 1460 + ofDay n / 36524 - ofDay n / 146096) / 365
def ofR (n : Int) : Int := ofDay n - (365 * ofY n + ofY n / 4 - ofY n / 100)
def ofM (n : Int) : Int := (5 * ofR n + 2) / 153
def dy (n : Int) : Int := if 12 < ofM n + 3 then ofY n + 400 * ofC n + 1 else ofY n + 400 * ofC n
def dm (n : Int) : Int := if 12 < ofM n + 3 then ofM n + 3 - 12 else ofM n + 3
def dd (n : Int) : Int := ofR n - (153 * ofM n + 2) / 5 + 1
theorem ofDay_bd (n : Int) : 0 ≤ ofDay n ∧ ofDay n < 146097 := by unfold ofDay; omega
theorem of_late (y c r m : Int) (y0 : 0 ≤ y) (y1 : y ≤ 399) (r0 : 0 ≤ r) (r1 : r ≤ 365) (hl : r = 365 → (y + 1) % 4 = 0 ∧ ((y + 1) % 100 ≠ 0 ∨ (y + 1) % 400 = 0)) (hm : m = (5 * r + 2) / 153) (h : 10 ≤ m) :
    fits (y + 400 * c + 1) (m + 3 - 12) (r - (153 * m + 2) / 5 + 1) ∧ num (y + 400 * c + 1) (m + 3 - 12) (r - (153 * m + 2) / 5 + 1) = c * 146097 + y * 365 + y / 4 - y / 100 + r - 719468 := by
  have hce := count_eq (y + 400 * c + 1) (m + 3 - 12) (r - (153 * m + 2) / 5 + 1) (by omega) (by omega)
  rw [if_pos (by omega)] at hce
  have e1 : (y + 400 * c + 1 - 1) / 400 = c := by omega
  have e2 : (y + 400 * c + 1 - 1) % 400 = y := by omega
  have e3 : m + 3 - 12 - 3 + 12 = m := by omega
  rw [e1, e2, e3] at hce
  refine ⟨?_, by rw [← hce]; omega⟩
  have hl0 := lp_01 (y + 400 * c + 1)
  have hm2 : m = 10 ∨ m = 11 := by omega
  rcases hm2 with q | q
  · refine ⟨by omega, by omega, by omega, ?_⟩
    subst q; simp [mlen]; omega
  · refine ⟨by omega, by omega, by omega, ?_⟩
    have : mlen (y + 400 * c + 1) (m + 3 - 12) = 28 + lp (y + 400 * c + 1) := by subst q; simp [mlen]
    rw [this]
    by_cases q5 : r = 365
    · have := hl q5
      have : lp (y + 400 * c + 1) = 1 := lp_yes _ (leap_mk _ (by omega))
      omega
    · omega
theorem of_early (y c r m : Int) (y0 : 0 ≤ y) (y1 : y ≤ 399) (r0 : 0 ≤ r) (hm : m = (5 * r + 2) / 153) (h : m ≤ 9) :
    fits (y + 400 * c) (m + 3) (r - (153 * m + 2) / 5 + 1) ∧ num (y + 400 * c) (m + 3) (r - (153 * m + 2) / 5 + 1) = c * 146097 + y * 365 + y / 4 - y / 100 + r - 719468 := by
  have hce := count_eq (y + 400 * c) (m + 3) (r - (153 * m + 2) / 5 + 1) (by omega) (by omega)
  rw [if_neg (by omega)] at hce
  have e1 : (y + 400 * c) / 400 = c := by omega
  have e2 : (y + 400 * c) % 400 = y := by omega
  have e3 : m + 3 - 3 = m := by omega
  rw [e1, e2, e3] at hce
  refine ⟨?_, by rw [← hce]; omega⟩
  refine ⟨by omega, by omega, by omega, ?_⟩
  have hm2 : m = 0 ∨ m = 1 ∨ m = 2 ∨ m = 3 ∨ m = 4 ∨ m = 5 ∨ m = 6 ∨ m = 7 ∨ m = 8 ∨ m = 9 := by omega
  rcases hm2 with q | q | q | q | q | q | q | q | q | q <;> (subst q; simp [mlen]; omega)
theorem of_bd (n : Int) : 0 ≤ ofY n ∧ ofY n ≤ 399 ∧ 0 ≤ ofR n ∧ ofR n ≤ 365 ∧ (ofR n = 365 → (ofY n + 1) % 4 = 0 ∧ ((ofY n + 1) % 100 ≠ 0 ∨ (ofY n + 1) % 400 = 0)) := by
  obtain ⟨hd0, hd1⟩ := ofDay_bd n
  exact of_year (ofDay n) (ofY n) hd0 hd1 rfl
theorem ofM_bd (n : Int) : 0 ≤ ofM n ∧ ofM n ≤ 11 := by
  have := of_bd n
  unfold ofM; omega
theorem of_ok (n : Int) : fits (dy n) (dm n) (dd n) ∧ num (dy n) (dm n) (dd n) = n := by
  obtain ⟨y0, y1, r0, r1, hl⟩ := of_bd n
  have hn : ofC n * 146097 + ofY n * 365 + ofY n / 4 - ofY n / 100 + ofR n - 719468 = n := by unfold ofR ofC ofDay; omega
  unfold dy dm dd
  by_cases h12 : 12 < ofM n + 3
  · rw [if_pos h12, if_pos h12]
    have := of_late (ofY n) (ofC n) (ofR n) (ofM n) y0 y1 r0 r1 hl rfl (by omega)
    rw [hn] at this; exact this
  · rw [if_neg h12, if_neg h12]
    have := of_early (ofY n) (ofC n) (ofR n) (ofM n) y0 y1 r0 rfl (by omega)
    rw [hn] at this; exact this
theorem of_unique (n y m d : Int) (h : fits y m d) (e : num y m d = n) : y = dy n ∧ m = dm n ∧ d = dd n :=
  num_inj y m d _ _ _ h (of_ok n).1 (e.trans (of_ok n).2.symm)
end Civ
end Go.Proofs.YtcjnficcggjeiaaDoor
