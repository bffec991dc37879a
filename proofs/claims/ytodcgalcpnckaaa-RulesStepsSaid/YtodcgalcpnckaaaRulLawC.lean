/- Plain laws of rules: what is in force turns at turns alone, and is told by the turn behind which none is near. -/
import Derived.Test.YtodcgalcpnckaaaRulLawA
set_option linter.unusedVariables false
set_option linter.unusedSimpArgs false
namespace Go.Proofs.Ytodcgalcpnckaaa
namespace Rul
theorem turn_at' {x : Rule} {y : Int} (h : turnB x y = true) : (turnOf x y).at' = Mom.onI x.m x.k x.wd x.d y * 86400 + x.t := by
  unfold turnB at h
  rw [Bool.and_eq_true] at h
  show locV x.m x.k x.wd x.d x.t x.r y = _
  unfold locV; rw [if_pos (show Mom.onB x.m x.k x.wd x.d x.t x.r y = true from h.1)]
theorem turn_in {x : Rule} {y : Int} (h : turnB x y = true) : x.a ≤ y ∧ y ≤ x.b := by
  unfold turnB inB at h
  rw [Bool.and_eq_true, decide_eq_true_eq] at h
  exact h.2
/-- A later year's turn is later, by far. -/
theorem turn_mono {x : Rule} (hx : rightB x = true) {y z : Int} (hy : turnB x y = true) (hz : turnB x z = true) (h : y < z) : (turnOf x y).at' + 30000000 ≤ (turnOf x z).at' := by
  rw [turn_at' hy, turn_at' hz]
  obtain ⟨a1, a2, hs, -⟩ := rule_parts hx
  obtain ⟨m1, m2, t1, t2, -, -, hk⟩ := Mom.right_all (show Mom.rightB x.m x.k x.wd x.d x.t x.r = true from hs)
  have hj := Civ.jan_mono y z (by omega)
  have hl := Civ.lp_01 y
  have hl' := Civ.lp_01 z
  have hc : Civ.cum z x.m ≥ Civ.cum y x.m - 1 := by
    rcases Civ.m12 x.m m1 m2 with h | h | h | h | h | h | h | h | h | h | h | h <;> rw [h] <;> simp [Civ.cum] <;> omega
  have n1 : Civ.num y x.m 1 = Civ.jan y + Civ.cum y x.m := by unfold Civ.num; omega
  have n2 : Civ.num z x.m 1 = Civ.jan z + Civ.cum z x.m := by unfold Civ.num; omega
  have hf : Civ.num y x.m 1 + 364 ≤ Civ.num z x.m 1 := by omega
  have l1 := Civ.mlen_bd y x.m
  have l2 := Civ.mlen_lo y x.m m1 m2
  have l3 := Civ.mlen_bd z x.m
  have l4 := Civ.mlen_lo z x.m m1 m2
  have hI : Mom.onI x.m x.k x.wd x.d y + 354 ≤ Mom.onI x.m x.k x.wd x.d z := by
    unfold Mom.onI
    generalize Civ.num y x.m 1 = f at *
    generalize Civ.num z x.m 1 = g at *
    generalize Civ.mlen y x.m = p at *
    generalize Civ.mlen z x.m = q at *
    have b1 := Mom.back_bd (f + p - 1) x.wd
    have b2 := Mom.back_bd (f + x.d + 5) x.wd
    have b3 := Mom.back_bd (f + x.d - 1) x.wd
    have c1 := Mom.back_bd (g + q - 1) x.wd
    have c2 := Mom.back_bd (g + x.d + 5) x.wd
    have c3 := Mom.back_bd (g + x.d - 1) x.wd
    rcases hk with ⟨h, _⟩ | ⟨h, _⟩ | ⟨h, _⟩ | ⟨h, _⟩
    · rw [Mom.fall_0 h, Mom.fall_0 h]; omega
    · rw [Mom.fall_1 h, Mom.fall_1 h]; omega
    · rw [Mom.fall_2 h, Mom.fall_2 h]; omega
    · rw [Mom.fall_3 h, Mom.fall_3 h]; omega
  omega
theorem late_at {x : Rule} (hx : rightB x = true) {T y : Int} (hb : turnB x y = true) (h : yearD T + 2 ≤ y) : T + 10000000 ≤ (turnOf x y).at' := by
  obtain ⟨x1, x2, -⟩ := rule_parts hx
  have hn := turn_near hx hb
  have hyx := turn_in hb
  have hjy : -719528 ≤ Civ.jan y := by unfold Civ.jan; omega
  unfold yearD at h
  split at h
  · omega
  · split at h
    · exfalso
      unfold turnB at hb
      rw [Bool.and_eq_true] at hb
      obtain ⟨-, -, -, hok, -⟩ := Mom.onB_all (show Mom.onB x.m x.k x.wd x.d x.t x.r y = true from hb.1)
      have := Civ.okD_year _ _ _ hok
      omega
    · split at h
      · omega
      · obtain ⟨d1, d2⟩ := dy_in (n := T / 86400) (by omega) (by omega)
        have := Civ.jan_mono (Civ.dy (T / 86400) + 1) y (by omega)
        omega
theorem early_at {x : Rule} (hx : rightB x = true) {T y : Int} (hb : turnB x y = true) (h : y ≤ yearD T - 2) : (turnOf x y).at' + 10000000 ≤ T := by
  obtain ⟨x1, x2, -⟩ := rule_parts hx
  have hn := turn_near hx hb
  have hyx := turn_in hb
  unfold yearD at h
  split at h
  · omega
  · split at h
    · have e : Civ.jan 275760 = 99999744 := by decide +kernel
      have := Civ.jan_mono y 275758 (by omega)
      have := Civ.jan_mono (275758 : Int) 275760 (by omega)
      omega
    · split at h
      · omega
      · obtain ⟨d1, d2⟩ := dy_in (n := T / 86400) (by omega) (by omega)
        have := Civ.jan_mono y (Civ.dy (T / 86400) - 2) (by omega)
        have := Civ.jan_mono (Civ.dy (T / 86400) - 2) (Civ.dy (T / 86400)) (by omega)
        omega
/-! ### the greatest that is so -/
theorem downN_some {p : Int → Bool} {lo : Int} : ∀ (f : Nat) (M y : Int), downN p lo f M = some y → lo ≤ y ∧ y ≤ M ∧ p y = true ∧ ∀ y', y < y' → y' ≤ M → p y' = false
  | 0, M, y, h => by cases h
  | f + 1, M, y, h => by
    rw [downN] at h
    split at h
    · cases h
    · split at h
      · injection h with h; subst h
        exact ⟨by omega, Int.le_refl _, by assumption, fun y' h1 h2 => by omega⟩
      · rename_i hp
        obtain ⟨h1, h2, h3, h4⟩ := downN_some f (M - 1) y h
        refine ⟨h1, by omega, h3, fun y' g1 g2 => ?_⟩
        rcases Int.lt_or_le (M - 1) y' with g3 | g3
        · obtain rfl : y' = M := by omega
          simpa using hp
        · exact h4 y' g1 g3
theorem down_some {p : Int → Bool} {lo M y : Int} (h : down p lo M = some y) : lo ≤ y ∧ y ≤ M ∧ p y = true ∧ ∀ y', y < y' → y' ≤ M → p y' = false := downN_some _ _ _ h
theorem down_of {p : Int → Bool} {lo M y : Int} (h1 : lo ≤ y) (h2 : y ≤ M) (hp : p y = true) (h : ∀ y', y < y' → y' ≤ M → p y' = false) : down p lo M = some y := by
  rw [down_skip (M - y).toNat y M (by omega) h2 h]
  exact down_yes h1 hp
theorem down_none' {p : Int → Bool} {lo M : Int} (h : down p lo M = none) : ∀ y, lo ≤ y → y ≤ M → p y = false := by
  intro y h1 h2
  by_cases hM : lo ≤ M
  · cases hp : p y
    · rfl
    · exfalso
      -- the greatest that is so lies at y or behind
      have key : ∀ (n : Nat) (M : Int), M - y ≤ n → y ≤ M → down p lo M ≠ none := by
        intro n
        induction n with
        | zero =>
          intro M a b
          have e : M = y := by omega
          rw [e, down_yes h1 hp]; simp
        | succ n ih =>
          intro M a b
          by_cases e : M = y
          · subst e; rw [down_yes h1 hp]; simp
          · cases hq : p M
            · rw [down_no (by omega) hq]; exact ih (M - 1) (by omega) (by omega)
            · rw [down_yes (by omega) hq]; simp
      exact key (M - y).toNat M (by omega) h2 h
  · omega
/-! ### the latest of all -/
theorem latest_endN {f : Rule → Option Turn} : ∀ (n : Nat) (l : List Rule), l.length = n → (latestG f l = none → ∀ x ∈ l, f x = none) ∧
    ∀ t, latestG f l = some t → ∃ (i : Nat) (hi : i < l.length), f l[i] = some t ∧ ∀ (j : Nat) (hj : j < l.length) u, f l[j] = some u → (j ≤ i → u.at' ≤ t.at') ∧ (i < j → u.at' < t.at') := by
  intro n
  induction n with
  | zero =>
    intro l hn
    obtain rfl := List.eq_nil_of_length_eq_zero hn
    exact ⟨fun _ x hx => by simp at hx, fun t h => by cases h⟩
  | succ n ih =>
    intro l hn
    have hne : l ≠ [] := by intro h; rw [h] at hn; simp at hn
    obtain ⟨r, x, rfl⟩ : ∃ r x, l = r ++ [x] := ⟨l.dropLast, l.getLast hne, (List.dropLast_concat_getLast hne).symm⟩
    have hr : r.length = n := by simpa using hn
    obtain ⟨ih1, ih2⟩ := ih r hr
    have e : latestG f (r ++ [x]) = match f x with | none => latestG f r | some t => upd (latestG f r) t := by
      unfold latestG; rw [List.foldl_append]; rfl
    have geti : ∀ (i : Nat) (hi : i < n), (r ++ [x])[i]'(by simp; omega) = r[i]'(by omega) := fun i hi => List.getElem_append_left (by omega)
    have getx : (r ++ [x])[n]'(by simp; omega) = x := by simp [← hr]
    cases hfx : f x with
    | none =>
      rw [hfx] at e
      simp only at e
      rw [e]
      refine ⟨fun h z hz => ?_, fun t h => ?_⟩
      · rcases List.mem_append.1 hz with hz | hz
        · exact ih1 h z hz
        · simp at hz; subst hz; exact hfx
      · obtain ⟨i, hi, h1, h2⟩ := ih2 t h
        refine ⟨i, by omega, by rw [geti i (by omega)]; exact h1, fun j hj u hu => ?_⟩
        rcases Nat.lt_or_ge j n with hjn | hjn
        · rw [geti j hjn] at hu; exact h2 j (by omega) u hu
        · obtain rfl : j = n := by omega
          rw [getx, hfx] at hu; cases hu
    | some tx =>
      rw [hfx] at e
      simp only at e
      rw [e]
      cases hq : latestG f r with
      | none =>
        refine ⟨fun h => (by simp [upd] at h), fun t h => ?_⟩
        simp only [upd, Option.some.injEq] at h
        subst h
        refine ⟨n, by omega, by rw [getx]; exact hfx, fun j hj u hu => ?_⟩
        rcases Nat.lt_or_ge j n with hjn | hjn
        · rw [geti j hjn, ih1 hq _ (List.getElem_mem _)] at hu; cases hu
        · obtain rfl : j = n := by omega
          rw [getx, hfx] at hu; cases hu
          exact ⟨fun _ => Int.le_refl _, fun h => by omega⟩
      | some b =>
        obtain ⟨i, hi, h1, h2⟩ := ih2 b hq
        by_cases hle : b.at' ≤ tx.at'
        · refine ⟨fun h => by simp [upd, hle] at h, fun t h => ?_⟩
          simp only [upd, if_pos hle, Option.some.injEq] at h
          subst h
          refine ⟨n, by omega, by rw [getx]; exact hfx, fun j hj u hu => ?_⟩
          rcases Nat.lt_or_ge j n with hjn | hjn
          · rw [geti j hjn] at hu
            obtain ⟨g1, g2⟩ := h2 j (by omega) u hu
            refine ⟨fun _ => ?_, fun h => by omega⟩
            rcases Nat.lt_or_ge i j with g | g
            · have := g2 g; omega
            · have := g1 g; omega
          · obtain rfl : j = n := by omega
            rw [getx, hfx] at hu; cases hu
            exact ⟨fun _ => Int.le_refl _, fun h => by omega⟩
        · refine ⟨fun h => by simp [upd, hle] at h, fun t h => ?_⟩
          simp only [upd, if_neg hle, Option.some.injEq] at h
          subst h
          refine ⟨i, by omega, by rw [geti i (by omega)]; exact h1, fun j hj u hu => ?_⟩
          rcases Nat.lt_or_ge j n with hjn | hjn
          · rw [geti j hjn] at hu; exact h2 j (by omega) u hu
          · obtain rfl : j = n := by omega
            rw [getx, hfx] at hu; cases hu
            exact ⟨fun h => by omega, fun _ => by omega⟩
theorem latest_end {f : Rule → Option Turn} (l : List Rule) : (latestG f l = none → ∀ x ∈ l, f x = none) ∧
    ∀ t, latestG f l = some t → ∃ (i : Nat) (hi : i < l.length), f l[i] = some t ∧ ∀ (j : Nat) (hj : j < l.length) u, f l[j] = some u → (j ≤ i → u.at' ≤ t.at') ∧ (i < j → u.at' < t.at') := latest_endN l.length l rfl
theorem latest_of_dom {f : Rule → Option Turn} {l : List Rule} {i : Nat} (hi : i < l.length) {t : Turn} (h1 : f l[i] = some t) (h2 : ∀ (j : Nat) (hj : j < l.length) u, f l[j] = some u → (j ≤ i → u.at' ≤ t.at') ∧ (i < j → u.at' < t.at')) : latestG f l = some t := by
  obtain ⟨e1, e2⟩ := latest_end (f := f) l
  cases hq : latestG f l with
  | none => rw [e1 hq _ (List.getElem_mem hi)] at h1; cases h1
  | some t' =>
    obtain ⟨i', hi', g1, g2⟩ := e2 t' hq
    rcases Nat.lt_trichotomy i i' with h | h | h
    · have := (h2 i' hi' t' g1).2 h
      have := (g2 i hi t h1).1 (by omega)
      omega
    · subst h; rw [h1] at g1; exact g1.symm
    · have := (h2 i' hi' t' g1).1 (by omega)
      have := (g2 i hi t h1).2 h
      omega
/-! ### what is in force -/
theorem last_some {l : List Rule} (hA : allB l = true) {off : Int} (o1 : -86400 < off) (o2 : off < 86400) {T : Int} {x : Rule} (hx : x ∈ l) {t : Turn} (h : lastOf l off T (yearD T + 2) x = some t) :
    ∃ y, turnB x y = true ∧ uniD l off (turnOf x y) ≤ T ∧ t = turnOf x y ∧ ∀ y', y < y' → lastP l off T x y' = false := by
  unfold lastOf at h
  obtain ⟨y, hy, rfl⟩ := Option.map_eq_some_iff.1 h
  obtain ⟨h1, h2, h3, h4⟩ := down_some hy
  unfold lastP at h3
  rw [Bool.and_eq_true, decide_eq_true_eq] at h3
  refine ⟨y, h3.1, h3.2, rfl, fun y' hy' => ?_⟩
  by_cases hm : y' ≤ min x.b (yearD T + 2)
  · exact h4 y' hy' hm
  · unfold lastP
    cases hb : turnB x y'
    · rfl
    · rw [Bool.true_and]
      have hin := turn_in hb
      have := late_at (all_mem hA hx) hb (T := T) (by omega)
      have := uni_near hA off o1 o2 (turnOf x y')
      exact decide_eq_false (by omega)
theorem last_of {l : List Rule} {off T : Int} {x : Rule} {y : Int} (hb : turnB x y = true) (hu : uniD l off (turnOf x y) ≤ T) (hA : allB l = true) (o1 : -86400 < off) (o2 : off < 86400) (hx : x ∈ l) (h : ∀ y', y < y' → lastP l off T x y' = false) : lastOf l off T (yearD T + 2) x = some (turnOf x y) := by
  have hin := turn_in hb
  have hle : y ≤ yearD T + 2 := by
    rcases Int.lt_or_le (yearD T + 2) y with h' | h'
    · have := late_at (all_mem hA hx) hb (T := T) (by omega)
      have := uni_near hA off o1 o2 (turnOf x y)
      omega
    · exact h'
  unfold lastOf
  rw [down_of (p := lastP l off T x) hin.1 (by omega) (by unfold lastP; rw [hb, Bool.true_and]; exact decide_eq_true hu) (fun y' a _ => h y' a)]
  rfl
theorem last_none {l : List Rule} (hA : allB l = true) {off : Int} (o1 : -86400 < off) (o2 : off < 86400) {T : Int} {x : Rule} (hx : x ∈ l) (h : lastOf l off T (yearD T + 2) x = none) : ∀ y, lastP l off T x y = false := by
  intro y
  unfold lastOf at h
  rw [Option.map_eq_none_iff] at h
  cases hb : turnB x y
  · unfold lastP; rw [hb]; rfl
  · have hin := turn_in hb
    by_cases hm : y ≤ yearD T + 2
    · exact down_none' h y hin.1 (by omega)
    · unfold lastP
      rw [hb, Bool.true_and]
      have := late_at (all_mem hA hx) hb (T := T) (by omega)
      have := uni_near hA off o1 o2 (turnOf x y)
      exact decide_eq_false (by omega)
theorem lastP_less {l : List Rule} {off T : Int} {x : Rule} {y : Int} (h : lastP l off T x y = false) : lastP l off (T - 1) x y = false := by
  unfold lastP at *
  cases hb : turnB x y
  · rfl
  · rw [hb, Bool.true_and, decide_eq_false_iff_not] at h
    rw [Bool.true_and]
    exact decide_eq_false (by omega)
/-- What is in force changes at a turn's universal time alone. -/
theorem force_steps {l : List Rule} (hA : allB l = true) {off : Int} (o1 : -86400 < off) (o2 : off < 86400) (T : Int) :
    forceD l off T = forceD l off (T - 1) ∨ ∃ x ∈ l, ∃ y, turnB x y = true ∧ uniD l off (turnOf x y) = T ∧ forceD l off T = turnOf x y ∧ yearD T - 2 ≤ y ∧ y ≤ yearD T + 2 := by
  cases hq : lastD l off T with
  | none =>
    left
    have h1 := (latest_end (f := lastOf l off T (yearD T + 2)) l).1 hq
    have h2 : lastD l off (T - 1) = none := by
      cases hq2 : lastD l off (T - 1) with
      | none => rfl
      | some t =>
        obtain ⟨i, hi, g1, -⟩ := (latest_end (f := lastOf l off (T - 1) (yearD (T - 1) + 2)) l).2 t hq2
        obtain ⟨y, b1, b2, -⟩ := last_some hA o1 o2 (List.getElem_mem hi) g1
        have := last_none hA o1 o2 (List.getElem_mem hi) (h1 _ (List.getElem_mem hi)) y
        have := lastP_less this
        unfold lastP at this
        rw [b1, Bool.true_and, decide_eq_false_iff_not] at this
        exact absurd b2 this
    unfold forceD
    rw [hq, h2]
  | some t =>
    obtain ⟨i, hi, g1, g2⟩ := (latest_end (f := lastOf l off T (yearD T + 2)) l).2 t hq
    obtain ⟨y, b1, b2, rfl, b3⟩ := last_some hA o1 o2 (List.getElem_mem hi) g1
    have hx := all_mem hA (List.getElem_mem hi)
    by_cases hu : uniD l off (turnOf l[i] y) = T
    · right
      refine ⟨l[i], List.getElem_mem hi, y, b1, hu, by unfold forceD; rw [hq], ?_, ?_⟩
      · rcases Int.lt_or_le y (yearD T - 2) with h | h
        · have := early_at hx b1 (T := T) (by omega)
          have := uni_near hA off o1 o2 (turnOf l[i] y)
          omega
        · exact h
      · rcases Int.lt_or_le (yearD T + 2) y with h | h
        · have := late_at hx b1 (T := T) (by omega)
          have := uni_near hA off o1 o2 (turnOf l[i] y)
          omega
        · exact h
    · left
      have h2 : lastD l off (T - 1) = some (turnOf l[i] y) := by
        refine latest_of_dom hi (last_of b1 (by omega) hA o1 o2 (List.getElem_mem hi) (fun y' h' => lastP_less (b3 y' h'))) fun j hj u hu' => ?_
        obtain ⟨z, c1, c2, rfl, c3⟩ := last_some hA o1 o2 (List.getElem_mem hj) hu'
        have hxj := all_mem hA (List.getElem_mem hj)
        -- at T the rule has a turn that is no earlier
        have hz : ∃ z', lastOf l off T (yearD T + 2) l[j] = some (turnOf l[j] z') ∧ (turnOf l[j] z).at' ≤ (turnOf l[j] z').at' := by
          cases hc : lastOf l off T (yearD T + 2) l[j] with
          | none =>
            have := last_none hA o1 o2 (List.getElem_mem hj) hc z
            unfold lastP at this
            rw [c1, Bool.true_and, decide_eq_false_iff_not] at this
            omega
          | some t' =>
            obtain ⟨z', d1, d2, rfl, d3⟩ := last_some hA o1 o2 (List.getElem_mem hj) hc
            refine ⟨z', rfl, ?_⟩
            rcases Int.lt_trichotomy z z' with h | h | h
            · have := turn_mono hxj c1 d1 h; omega
            · rw [h]; exact Int.le_refl _
            · have := d3 z h
              unfold lastP at this
              rw [c1, Bool.true_and, decide_eq_false_iff_not] at this
              omega
        obtain ⟨z', e1, e2⟩ := hz
        obtain ⟨f1, f2⟩ := g2 j hj _ e1
        exact ⟨fun h => by have := f1 h; omega, fun h => by have := f2 h; omega⟩
      unfold forceD
      rw [hq, h2]
/-- Behind a turn that no other is near, its saving is in force. -/
theorem force_tells {l : List Rule} (hA : allB l = true) {off : Int} (o1 : -86400 < off) (o2 : off < 86400) {i : Nat} (hi : i < l.length) {y : Int} (hb : turnB l[i] y = true)
    (hfar : ∀ (j : Nat) (hj : j < l.length) (z : Int), turnB l[j] z = true → y - 1 ≤ z → z ≤ y + 1 → (j ≠ i ∨ z ≠ y) → 172800 ≤ (turnOf l[j] z).at' - (turnOf l[i] y).at' ∨ 172800 ≤ (turnOf l[i] y).at' - (turnOf l[j] z).at')
    {T : Int} (t1 : uniD l off (turnOf l[i] y) ≤ T) (t2 : T ≤ uniD l off (turnOf l[i] y) + 3599) : forceD l off T = turnOf l[i] y := by
  have hx := all_mem hA (List.getElem_mem hi)
  have hX := uni_near hA off o1 o2 (turnOf l[i] y)
  have hXs := ahead_s hA (turnOf l[i] y).at'
  have hlast : lastD l off T = some (turnOf l[i] y) := by
    refine latest_of_dom hi (last_of hb t1 hA o1 o2 (List.getElem_mem hi) fun y' h' => ?_) fun j hj u hu' => ?_
    · unfold lastP
      cases hb' : turnB l[i] y'
      · rfl
      · rw [Bool.true_and]
        have := turn_mono hx hb hb' h'
        have := uni_near hA off o1 o2 (turnOf l[i] y')
        exact decide_eq_false (by omega)
    · obtain ⟨z, c1, c2, rfl, c3⟩ := last_some hA o1 o2 (List.getElem_mem hj) hu'
      have hxj := all_mem hA (List.getElem_mem hj)
      have hZ := uni_near hA off o1 o2 (turnOf l[j] z)
      by_cases hsame : j = i ∧ z = y
      · obtain ⟨rfl, rfl⟩ := hsame
        exact ⟨fun _ => Int.le_refl _, fun h => by omega⟩
      · -- another turn
        suffices h : (turnOf l[j] z).at' < (turnOf l[i] y).at' from ⟨fun _ => by omega, fun _ => h⟩
        rcases Int.lt_or_le (turnOf l[j] z).at' (turnOf l[i] y).at' with h | h
        · exact h
        · exfalso
          -- it lies in one of the years around
          have n1 := turn_near hx hb
          have n2 := turn_near hxj c1
          have hz1 : z ≤ y + 1 := by
            rcases Int.lt_or_le (y + 1) z with g | g
            · have := Civ.jan_mono (y + 2) z (by omega)
              have := Civ.jan_mono y (y + 2) (by omega)
              omega
            · exact g
          have hz2 : y - 1 ≤ z := by
            rcases Int.lt_or_le z (y - 1) with g | g
            · have := Civ.jan_mono z (y - 2) (by omega)
              have := Civ.jan_mono (y - 2) y (by omega)
              omega
            · exact g
          have hf := hfar j hj z c1 hz2 hz1 (by
            by_cases h9 : j = i
            · exact .inr (fun h8 => hsame ⟨h9, h8⟩)
            · exact .inl h9)
          have hZs := ahead_s hA (turnOf l[j] z).at'
          have e1 : uniD l off (turnOf l[j] z) ≥ (turnOf l[j] z).at' - (if (turnOf l[j] z).r = 2 then 0 else off + 43200) := by
            unfold uniD
            split
            · omega
            · split <;> omega
          have e2 : uniD l off (turnOf l[i] y) ≤ (turnOf l[i] y).at' - (if (turnOf l[i] y).r = 2 then 0 else off) + (if (turnOf l[i] y).r = 0 then 43200 else 0) := by
            obtain ⟨-, -, -, -, -, r1, r2⟩ := rule_parts hx
            have hr : (turnOf l[i] y).r = l[i].r := rfl
            unfold uniD
            rw [hr]
            split
            · split <;> omega
            · split
              · rw [if_neg (by omega)]; omega
              · rw [if_pos (by omega)]; omega
          generalize (turnOf l[j] z).r = r1 at *
          generalize (turnOf l[i] y).r = r2 at *
          split at e1 <;> split at e2 <;> (try split at e2) <;> omega
  unfold forceD
  rw [hlast]
end Rul
end Go.Proofs.Ytodcgalcpnckaaa
