/- Plain laws of rules: few turns a year where few rules are in force; the years behind the last one come again. -/
import Derived.Test.YtodcgalcpnckaaaRulWalkZB
import Derived.Test.YtodcgalcpnckaaaRulWalkW
set_option linter.unusedVariables false
set_option linter.unusedSimpArgs false
namespace Go.Proofs.Ytodcgalcpnckaaa
namespace Rul
/-- Of some rules one begins last. -/
theorem last_begin : ∀ (l : List Rule), l ≠ [] → ∃ x ∈ l, ∀ z ∈ l, z.a ≤ x.a
  | [], h => absurd rfl h
  | [x], _ => ⟨x, by simp, by simp⟩
  | x :: y :: l, _ => by
    obtain ⟨m, hm, h⟩ := last_begin (y :: l) (by simp)
    by_cases hx : m.a ≤ x.a
    · refine ⟨x, by simp, fun z hz => ?_⟩
      rcases List.mem_cons.1 hz with rfl | hz
      · exact Int.le_refl _
      · have := h z hz; omega
    · refine ⟨m, by simp [List.mem_cons.1 hm], fun z hz => ?_⟩
      rcases List.mem_cons.1 hz with rfl | hz
      · omega
      · exact h z hz
theorem filter_le {l : List Rule} {p q : Rule → Bool} (h : ∀ x ∈ l, p x = true → q x = true) : (l.filter p).length ≤ (l.filter q).length := by
  induction l with
  | nil => simp
  | cons x l ih =>
    have := ih (fun y hy => h y (by simp [hy]))
    cases hp : p x
    · rw [List.filter_cons_of_neg (by simp [hp])]
      by_cases hq : q x = true
      · rw [List.filter_cons_of_pos hq, List.length_cons]; omega
      · rw [List.filter_cons_of_neg hq]; exact this
    · rw [List.filter_cons_of_pos hp, List.filter_cons_of_pos (h x (by simp) hp), List.length_cons, List.length_cons]; omega
theorem turnL_filter (l : List Rule) (y : Int) : (turnL l y).length = (l.filter fun x => turnB x y).length := by
  unfold turnL
  induction l with
  | nil => rfl
  | cons x l ih =>
    cases hb : turnB x y
    · rw [List.filterMap_cons_none (by simp [hb]), List.filter_cons, hb]; exact ih
    · rw [List.filterMap_cons_some (b := turnOf x y) (by rw [hb]; rfl), List.filter_cons, hb, if_pos rfl, List.length_cons, List.length_cons, ih]
/-- Where no more than ten rules are in force as one begins, no more than ten turn in a year. -/
theorem turns_few {l : List Rule} (hC : crowdB l = false) (y : Int) : (turnL l y).length ≤ 10 := by
  rw [turnL_filter]
  by_cases he : l.filter (fun x => turnB x y) = []
  · rw [he]; simp
  · obtain ⟨x, hx, hmax⟩ := last_begin _ he
    obtain ⟨hxl, hxb⟩ := List.mem_filter.1 hx
    have inOf : ∀ z : Rule, turnB z y = true → z.a ≤ y ∧ y ≤ z.b := fun z hz => by
      unfold turnB inB at hz
      rw [Bool.and_eq_true, decide_eq_true_eq] at hz
      exact hz.2
    have hxy := inOf x hxb
    have h1 : cnt l x ≤ 10 := by
      have := List.any_eq_false.1 hC x hxl
      simp at this; exact this
    refine Nat.le_trans (filter_le fun z hz hzb => ?_) h1
    have h2 := inOf z hzb
    have h3 := hmax z (List.mem_filter.2 ⟨hz, hzb⟩)
    unfold countB inB
    rw [Bool.and_eq_true, decide_eq_true_eq, decide_eq_true_eq]
    omega
/-! ### near to one another -/
theorem far_symm (a b : Turn) : farB a b = farB b a := by
  unfold farB
  congr 1
  rw [Bool.eq_iff_iff, Bool.and_eq_true, Bool.and_eq_true]
  simp only [decide_eq_true_eq]
  omega
def Far (a b : Turn) : Prop := farB a b = true
theorem far_pair_get {L : List Turn} : L.Pairwise Far ↔ ∀ i (hi : i < L.length) k (hk : k < i), farB L[i] (L[k]'(by omega)) = true := by
  rw [List.pairwise_iff_getElem]
  constructor
  · intro h i hi k hk
    rw [far_symm]; exact h k i (by omega) hi hk
  · intro h k i hk hi hki
    show farB _ _ = true
    rw [far_symm]; exact h i hi k hki
theorem near_iff (now had : List Turn) : nearB now had = false ↔ now.Pairwise Far ∧ ∀ a ∈ now, ∀ b ∈ had, Far a b := by
  constructor
  · intro h
    have key : ∀ i (hi : i < now.length) k (hk : k < (now.take i ++ had).length), farB now[i] (now.take i ++ had)[k] = true := by
      intro i hi k hk
      cases hf : farB now[i] (now.take i ++ had)[k]
      · have := near_yes hi hk (by rw [List.getD_eq_getElem?_getD, List.getElem?_eq_getElem hi]; exact hf)
        rw [h] at this; cases this
      · rfl
    refine ⟨far_pair_get.2 fun i hi k hk => ?_, fun a ha b hb => ?_⟩
    · have := key i hi k (by simp; omega)
      rwa [List.getElem_append_left (by simp; omega), List.getElem_take] at this
    · obtain ⟨i, hi, rfl⟩ := List.getElem_of_mem ha
      obtain ⟨k, hk, rfl⟩ := List.getElem_of_mem hb
      have := key i hi ((now.take i).length + k) (by simp; omega)
      rw [List.getElem_append_right (by omega)] at this
      show farB _ _ = true
      simpa using this
  · rintro ⟨h1, h2⟩
    refine near_no fun i hi k hk => ?_
    rw [List.getD_eq_getElem?_getD, List.getElem?_eq_getElem hi]
    show farB now[i] _ = true
    by_cases hki : k < (now.take i).length
    · rw [List.getElem_append_left hki, List.getElem_take]
      exact far_pair_get.1 h1 i hi k (by simp at hki; omega)
    · rw [List.getElem_append_right (by omega)]
      exact h2 _ (List.getElem_mem hi) _ (List.getElem_mem _)
theorem pair_iff (had now : List Turn) : nearB (had ++ now) [] = false ↔ had.Pairwise Far ∧ now.Pairwise Far ∧ ∀ a ∈ now, ∀ b ∈ had, Far a b := by
  rw [near_iff]
  simp only [List.not_mem_nil, false_imp_iff, implies_true, and_true]
  rw [List.pairwise_append]
  refine and_congr_right fun _ => and_congr_right fun _ => ?_
  constructor
  · intro h a ha b hb; show farB _ _ = true; rw [far_symm]; exact h b hb a ha
  · intro h b hb a ha; show farB _ _ = true; rw [far_symm]; exact h a ha b hb
/-! ### 400 years on -/
def shift (t : Turn) : Turn := ⟨t.at' + 12622780800, t.r, t.s, t.l⟩
theorem far_shift (a b : Turn) : farB (shift a) (shift b) = farB a b := by
  unfold farB shift
  simp only []
  rw [show a.at' + 12622780800 - (b.at' + 12622780800) = a.at' - b.at' by omega]
theorem back_400 (n wd : Int) : Mom.backI (n + 146097) wd = Mom.backI n wd := by unfold Mom.backI; omega
theorem fall_400 (k wd d f len : Int) : Mom.fallI k wd d (f + 146097) len = Mom.fallI k wd d f len + 146097 := by
  unfold Mom.fallI
  rw [show f + 146097 + len - 1 = f + len - 1 + 146097 by omega, show f + 146097 + d + 5 = f + d + 5 + 146097 by omega, show f + 146097 + d - 1 = f + d - 1 + 146097 by omega, back_400, back_400, back_400]
  split
  · omega
  · split
    · omega
    · split <;> omega
theorem leap_400 (y : Int) : Civ.leapB (y + 400) = Civ.leapB y := by
  unfold Civ.leapB
  rw [Bool.eq_iff_iff, decide_eq_true_eq, decide_eq_true_eq]
  omega
theorem lp_400 (y : Int) : Civ.lp (y + 400) = Civ.lp y := by unfold Civ.lp; rw [leap_400]
theorem on_400 (m k wd d y : Int) : Mom.onI m k wd d (y + 400) = Mom.onI m k wd d y + 146097 := by
  unfold Mom.onI
  have e1 : Civ.num (y + 400) m 1 = Civ.num y m 1 + 146097 := by
    unfold Civ.num Civ.cum
    rw [lp_400]
    have : Civ.jan (y + 400) = Civ.jan y + 146097 := by unfold Civ.jan; omega
    omega
  have e2 : Civ.mlen (y + 400) m = Civ.mlen y m := by unfold Civ.mlen; rw [lp_400]
  rw [e1, e2, fall_400]
theorem turn_400 {x : Rule} (hx : rightB x = true) (hb : x.b = 1000000) {y : Int} (h1 : x.a ≤ y) (h2 : y ≤ 20000) : turnB x y = true ∧ turnB x (y + 400) = true ∧ turnOf x (y + 400) = shift (turnOf x y) := by
  have t1 := turn_yes hx h1 (by omega) (by omega)
  have t2 := turn_yes hx (y := y + 400) (by omega) (by omega) (by omega)
  refine ⟨t1, t2, ?_⟩
  have o1 : Mom.onB x.m x.k x.wd x.d x.t x.r y = true := by unfold turnB at t1; rw [Bool.and_eq_true] at t1; exact t1.1
  have o2 : Mom.onB x.m x.k x.wd x.d x.t x.r (y + 400) = true := by unfold turnB at t2; rw [Bool.and_eq_true] at t2; exact t2.1
  unfold turnOf shift locV
  rw [if_pos o1, if_pos o2, on_400]
  simp only []
  congr 1
  omega
theorem turn_out {x : Rule} {y : Int} (h : x.b < y) : turnB x y = false := by
  unfold turnB inB
  rw [show decide (x.a ≤ y ∧ y ≤ x.b) = false from decide_eq_false (by omega), Bool.and_false]
theorem turnL_400 {l : List Rule} (hA : allB l = true) {y : Int} (hy : ∀ x ∈ l, x.a ≤ y ∧ (x.b = 1000000 ∨ x.b < y)) (h2 : y ≤ 20000) : turnL l (y + 400) = (turnL l y).map shift := by
  unfold turnL
  induction l with
  | nil => rfl
  | cons x l ih =>
    have hA' : allB l = true := by unfold allB at *; rw [List.all_cons, Bool.and_eq_true] at hA; exact hA.2
    have hx : rightB x = true := all_mem hA (by simp)
    have ih' := ih hA' (fun z hz => hy z (by simp [hz]))
    obtain ⟨h1, h3⟩ := hy x (by simp)
    rcases h3 with h3 | h3
    · obtain ⟨t1, t2, e⟩ := turn_400 hx h3 h1 h2
      rw [List.filterMap_cons_some (b := turnOf x (y + 400)) (by rw [t2]; rfl), List.filterMap_cons_some (b := turnOf x y) (by rw [t1]; rfl), List.map_cons, ih', e]
    · rw [List.filterMap_cons_none (by rw [turn_out (by omega)]; rfl), List.filterMap_cons_none (by rw [turn_out h3]; rfl)]
      exact ih'
/-! ### the bounds -/
theorem first_same : ∀ (r : List Rule) (m : Int), r.foldl (fun m x => min m x.a) m = r.foldl (fun m x => if x.a < m then x.a else m) m
  | [], _ => rfl
  | x :: r, m => by
    rw [List.foldl_cons, List.foldl_cons, ← first_same r, show min m x.a = if x.a < m then x.a else m by split <;> omega]
theorem last_same' : ∀ (r : List Rule) (m : Int), r.foldl (fun m x => if x.b = 1000000 then max m x.a else max (max m x.a) x.b) m = r.foldl stepD m
  | [], _ => rfl
  | x :: r, m => by
    rw [List.foldl_cons, List.foldl_cons, ← last_same' r]
    congr 1
    unfold stepD
    split
    · split <;> omega
    · split <;> split <;> omega
theorem first_eq {l : List Rule} (hA : allB l = true) (h0 : l ≠ []) : firstD l = firstN l := by
  cases l with
  | nil => exact absurd rfl h0
  | cons x l =>
    have hx := rule_parts (all_mem hA (List.mem_cons_self ..))
    unfold firstD firstN
    rw [List.foldl_cons, List.foldl_cons, first_same, if_pos (by omega), show min 9999 x.a = x.a by omega]
theorem last_eq {l : List Rule} (hA : allB l = true) (h0 : l ≠ []) : lastD' l = lastN l := by
  cases l with
  | nil => exact absurd rfl h0
  | cons x l =>
    have hx := rule_parts (all_mem hA (List.mem_cons_self ..))
    unfold lastD' lastN
    rw [List.foldl_cons, List.foldl_cons, last_same']
    congr 1
    unfold stepD
    rw [if_pos (show (0 : Int) < x.a by omega)]
    split
    · omega
    · split <;> omega
theorem lastN_ge : ∀ (r : List Rule) (m : Int), m ≤ r.foldl (fun m x => if x.b = 1000000 then max m x.a else max (max m x.a) x.b) m ∧ ∀ x ∈ r, x.a ≤ r.foldl (fun m x => if x.b = 1000000 then max m x.a else max (max m x.a) x.b) m ∧ (x.b = 1000000 ∨ x.b ≤ r.foldl (fun m x => if x.b = 1000000 then max m x.a else max (max m x.a) x.b) m)
  | [], m => ⟨Int.le_refl _, by simp⟩
  | z :: r, m => by
    rw [List.foldl_cons]
    obtain ⟨h1, h2⟩ := lastN_ge r (if z.b = 1000000 then max m z.a else max (max m z.a) z.b)
    refine ⟨?_, fun x hx => ?_⟩
    · refine Int.le_trans ?_ h1
      split <;> omega
    · rcases List.mem_cons.1 hx with rfl | hx
      · refine ⟨Int.le_trans ?_ h1, ?_⟩
        · split <;> omega
        · by_cases hb : x.b = 1000000
          · exact .inl hb
          · refine .inr (Int.le_trans ?_ h1)
            rw [if_neg hb]; omega
      · exact h2 x hx
theorem lastN_le {l : List Rule} (hA : allB l = true) : ∀ (r : List Rule) (m : Int), (∀ x ∈ r, x ∈ l) → m ≤ 9999 → r.foldl (fun m x => if x.b = 1000000 then max m x.a else max (max m x.a) x.b) m ≤ 9999
  | [], m, _, h => h
  | z :: r, m, hm, h => by
    rw [List.foldl_cons]
    refine lastN_le hA r _ (fun x hx => hm x (by simp [hx])) ?_
    have hz := all_mem hA (hm z (by simp))
    unfold rightB yearB at hz
    simp only [Bool.and_eq_true, Bool.or_eq_true, decide_eq_true_eq, beq_iff_eq] at hz
    split <;> omega
theorem firstN_le : ∀ (r : List Rule) (m : Int), r.foldl (fun m x => min m x.a) m ≤ m ∧ ∀ x ∈ r, r.foldl (fun m x => min m x.a) m ≤ x.a
  | [], m => ⟨Int.le_refl _, by simp⟩
  | z :: r, m => by
    rw [List.foldl_cons]
    obtain ⟨h1, h2⟩ := firstN_le r (min m z.a)
    refine ⟨by omega, fun x hx => ?_⟩
    rcases List.mem_cons.1 hx with rfl | hx
    · omega
    · exact h2 x hx
theorem pair_sort (l : List Rule) (y : Int) : (turnsG l y).Pairwise Far ↔ (turnL l y).Pairwise Far :=
  (sortT_perm (turnL l y)).pairwise_iff (fun h => by unfold Far at *; rw [far_symm]; exact h)
theorem mem_sort (l : List Rule) (y : Int) (t : Turn) : t ∈ turnsG l y ↔ t ∈ turnL l y := (sortT_perm (turnL l y)).mem_iff
/-- The two searches meet. -/
theorem near_same {l : List Rule} (hA : allB l = true) (h0 : l ≠ []) : nearD l (firstD l) (lastD' l + 402) = nearG l (firstN l) (lastN l + 401) := by
  rw [first_eq hA h0, last_eq hA h0]
  obtain ⟨x0, hx0⟩ := List.exists_mem_of_ne_nil l h0
  have hge := (lastN_ge l 1).2
  have hle : lastN l ≤ 9999 := lastN_le hA l 1 (fun _ h => h) (by omega)
  have hfirst : firstN l ≤ x0.a := (firstN_le l 9999).2 x0 hx0
  have hlast : x0.a ≤ lastN l := (hge x0 hx0).1
  have hE : ∀ x ∈ l, x.a ≤ lastN l ∧ (x.b = 1000000 ∨ x.b ≤ lastN l) := hge
  generalize firstN l = F at *
  generalize lastN l = E at *
  cases hG : nearG l F (E + 401)
  · -- nothing near up to E + 401
    have hno : ∀ y, F ≤ y → y ≤ E + 401 → (turnsG l y).Pairwise Far ∧ (F < y → ∀ a ∈ turnsG l y, ∀ b ∈ turnsG l (y - 1), Far a b) := by
      intro y h1 h2
      have hf : nearB (turnsG l y) (hadG l F y) = false := by
        cases hn : nearB (turnsG l y) (hadG l F y)
        · rfl
        · rw [nearG_yes h1 h2 hn] at hG; cases hG
      obtain ⟨g1, g2⟩ := (near_iff _ _).1 hf
      refine ⟨g1, fun h3 => ?_⟩
      unfold hadG at g2
      rw [if_neg (by omega)] at g2
      exact g2
    -- the year E + 402 is as E + 2
    have e1 : turnL l (E + 2 + 400) = (turnL l (E + 2)).map shift := turnL_400 hA (fun x hx => by have := hE x hx; omega) (by omega)
    have e2 : turnL l (E + 1 + 400) = (turnL l (E + 1)).map shift := turnL_400 hA (fun x hx => by have := hE x hx; omega) (by omega)
    have hlastY : (turnsG l (E + 402)).Pairwise Far ∧ ∀ a ∈ turnsG l (E + 402), ∀ b ∈ turnsG l (E + 402 - 1), Far a b := by
      obtain ⟨g1, g2⟩ := hno (E + 2) (by omega) (by omega)
      have g2 := g2 (by omega)
      rw [show E + 402 = E + 2 + 400 by omega, show E + 2 + 400 - 1 = E + 1 + 400 by omega]
      refine ⟨?_, fun a ha b hb => ?_⟩
      · rw [pair_sort, e1, List.pairwise_map]
        rw [pair_sort] at g1
        exact g1.imp (fun h => by unfold Far at *; rw [far_shift]; exact h)
      · rw [mem_sort, e1, List.mem_map] at ha
        rw [mem_sort, e2, List.mem_map] at hb
        obtain ⟨a', ha', rfl⟩ := ha
        obtain ⟨b', hb', rfl⟩ := hb
        have := g2 a' ((mem_sort _ _ _).2 ha') b' (by rw [show E + 2 - 1 = E + 1 by omega]; exact (mem_sort _ _ _).2 hb')
        unfold Far at *; rw [far_shift]; exact this
    refine nearD_no fun y h1 h2 => ?_
    rw [pair_iff]
    have hy : (turnsG l y).Pairwise Far ∧ (F < y → ∀ a ∈ turnsG l y, ∀ b ∈ turnsG l (y - 1), Far a b) := by
      rcases Int.lt_or_le (E + 401) y with h3 | h3
      · obtain rfl : y = E + 402 := by omega
        exact ⟨hlastY.1, fun _ => hlastY.2⟩
      · exact hno y h1 h3
    unfold hadG
    by_cases h3 : y ≤ F
    · rw [if_pos h3]
      exact ⟨List.Pairwise.nil, hy.1, by simp⟩
    · rw [if_neg h3]
      exact ⟨(hno (y - 1) (by omega) (by omega)).1, hy.1, hy.2 (by omega)⟩
  · -- something near
    unfold nearG at hG
    have hex := @of_decide_eq_true _ (Classical.propDecidable _) hG
    obtain ⟨y, h1, h2, h3⟩ := hex
    refine nearD_yes h1 (by omega) ?_
    cases hn : nearB (hadG l F y ++ turnsG l y) []
    · obtain ⟨g1, g2, g3⟩ := (pair_iff _ _).1 hn
      rw [(near_iff _ _).2 ⟨g2, g3⟩] at h3; cases h3
    · rfl
end Rul
end Go.Proofs.Ytodcgalcpnckaaa
set_option linter.unusedVariables false
set_option linter.unusedSimpArgs false
namespace Go.Proofs.Ytodcgalcpnckaaa
open Go.RowKit Go.Sort Go.Shelf

theorem crowded_all (l : List Rule) (n : Nat) (hn : l.length = n) (v : Value) (w : World) (hr : Reads w v n (ruleRow l)) :
    Rets Try.prog 21 #[v] w (.bool (Rul.allB l && Rul.crowdB l)) := by
  cases hA : Rul.allB l
  · exact crowded_no l n hn hA v w hr
  · exact crowded_any l n hn hA v w hr
set_option maxRecDepth 100000 in
set_option maxHeartbeats 4000000 in
theorem near_false (l : List Rule) (n : Nat) (hn : l.length = n) (hc : Rul.allB l = false ∨ Rul.crowdB l = true ∨ n = 0) (v : Value) (w : World) (hr : Reads w v n (ruleRow l)) :
    Rets Try.prog 22 #[v] w (.bool false) := by
  have H1 := fun w hr => Lib.hid (sets_any l n hn v w hr)
  have H2 := fun w hr => Lib.hid (crowded_all l n hn v w hr)
  obtain ⟨a8, c8, hv⟩ := reads_shape hr
  subst hv
  have hcs : (Rul.allB l = false) ∨ (Rul.allB l = true ∧ Rul.crowdB l = true) ∨ (Rul.allB l = true ∧ Rul.crowdB l = false ∧ n = 0) := by
    cases hA : Rul.allB l
    · exact .inl rfl
    · cases hC : Rul.crowdB l
      · refine .inr (.inr ⟨rfl, rfl, ?_⟩)
        rcases hc with h | h | h
        · rw [hA] at h; cases h
        · rw [hC] at h; cases h
        · exact h
      · exact .inr (.inl ⟨rfl, rfl⟩)
  clear hc
  generalize Rul.allB l = A at *
  generalize Rul.crowdB l = C at *
  unfold Rets
  rcases hcs with rfl | ⟨rfl, rfl⟩ | ⟨rfl, rfl, rfl⟩
  · go_enter Try.func22, Try.ntmps22
    go_wp2_with (first | (go_at_call 12; refine Rets.use (H1 _ (hr.ext isext)).out ?_; intro _) | (go_at_call 21; refine Rets.use (H2 _ (hr.ext isext)).out ?_; intro _))
    go_ret
    exact ⟨rfl, done⟩
  · go_enter Try.func22, Try.ntmps22
    go_wp2_with (first | (go_at_call 12; refine Rets.use (H1 _ (hr.ext isext)).out ?_; intro _) | (go_at_call 21; refine Rets.use (H2 _ (hr.ext isext)).out ?_; intro _))
    go_ret
    exact ⟨rfl, done⟩
  · go_enter Try.func22, Try.ntmps22
    go_wp2_with (first | (go_at_call 12; refine Rets.use (H1 _ (hr.ext isext)).out ?_; intro _) | (go_at_call 21; refine Rets.use (H2 _ (hr.ext isext)).out ?_; intro _))
    go_ret
    exact ⟨rfl, done⟩
set_option maxRecDepth 100000 in
set_option maxHeartbeats 8000000 in
theorem nearlaw_any (l : List Rule) (n : Nat) (hn : l.length = n) (v : Value) (w : World) (hr : Reads w v n (ruleRow l)) :
    Rets Try.prog 8 #[v] w (.bool true) := by
  have HL := fun w => Lib.hid (ralive_any w)
  have HR := fun w hr => Lib.hid (rsets_any l n hn v w hr)
  have HC := fun w hr => Lib.hid (crowded_all l n hn v w hr)
  have HM := fun w hr => Lib.hid (most_any l n hn v w hr)
  have HF := fun hc w hr => Lib.hid (near_false l n hn hc v w hr)
  have hmax : (n : Int) ≤ 9223372036854775807 := by
    rcases hr with ⟨_, _, _, h, _⟩ | ⟨_, _, _, _, k1, k2, _⟩
    · omega
    · unfold maxLen at k2; omega
  have hr0 := hr
  obtain ⟨a8, c8, hv⟩ := reads_shape hr
  subst hv
  unfold Rets
  by_cases h60 : 60 < n
  · have h60' : (60 : Int) < n := by omega
    clear HF HR HC HM
    go_enter Try.func8, Try.ntmps8
    go_wp2_with (go_at_call 9; refine Rets.use (HL _).out ?_; intro _)
    go_ret
    exact ⟨rfl, done⟩
  have h60' : decide ((60 : Int) < n) = false := decide_eq_false (by omega)
  cases hA : Rul.allB l
  · have HF1 := HF (.inl hA)
    rw [hA] at HR HC
    clear HF HM hA
    go_enter Try.func8, Try.ntmps8
    go_wp2_with (first | (go_at_call 9; refine Rets.use (HL _).out ?_; intro _) | (go_at_call 11; refine Rets.use (HR _ (hr0.ext isext)).out ?_; intro _) | (go_at_call 21; refine Rets.use (HC _ (hr0.ext isext)).out ?_; intro _) | (go_at_call 22; refine Rets.use (HF1 _ (hr0.ext isext)).out ?_; intro _))
    go_ret
    exact ⟨rfl, done⟩
  have hmost := Rul.crowd_most l
  cases hC : Rul.crowdB l
  rotate_left
  · have HF1 := HF (.inr (.inl hC))
    rw [hC] at hmost HC
    rw [hA] at HR HC
    have h10 : (10 : Int) < (Rul.mostN l l : Nat) := by have := of_decide_eq_true hmost.symm; omega
    generalize Rul.mostN l l = M at *
    clear HF hA hC hmost
    go_enter Try.func8, Try.ntmps8
    go_wp2_with (first | (go_at_call 9; refine Rets.use (HL _).out ?_; intro _) | (go_at_call 11; refine Rets.use (HR _ (hr0.ext isext)).out ?_; intro _) | (go_at_call 20; refine Rets.use (HM _ (hr0.ext isext)).out ?_; intro _) | (go_at_call 21; refine Rets.use (HC _ (hr0.ext isext)).out ?_; intro _) | (go_at_call 22; refine Rets.use (HF1 _ (hr0.ext isext)).out ?_; intro _))
    go_ret
    exact ⟨rfl, done⟩
  rw [hC] at hmost HC
  rw [hA] at HR HC
  have h10 : decide ((10 : Int) < (Rul.mostN l l : Nat)) = false := decide_eq_false (by have := of_decide_eq_false hmost.symm; omega)
  generalize Rul.mostN l l = M at *
  by_cases h0 : n = 0
  · have HF1 := HF (.inr (.inr h0))
    subst h0
    clear HF hA hC hmost
    go_enter Try.func8, Try.ntmps8
    go_wp2_with (first | (go_at_call 9; refine Rets.use (HL _).out ?_; intro _) | (go_at_call 11; refine Rets.use (HR _ (hr0.ext isext)).out ?_; intro _) | (go_at_call 20; refine Rets.use (HM _ (hr0.ext isext)).out ?_; intro _) | (go_at_call 21; refine Rets.use (HC _ (hr0.ext isext)).out ?_; intro _) | (go_at_call 22; refine Rets.use (HF1 _ (hr0.ext isext)).out ?_; intro _))
    go_ret
    exact ⟨rfl, done⟩
  have hne : l ≠ [] := fun h => h0 (by rw [← hn, h]; rfl)
  have HN1 := fun w hr => Lib.hid (near_any l n hn (by omega) hA hC h0 (fun y => by have := Rul.turns_few hC y; omega) (.slice a8 n c8) w hr)
  have HN2 : ∀ w, Reads w (.slice a8 n c8) n (ruleRow l) → Hid (Rets Try.prog 23 #[.slice a8 n c8] w (.bool (Rul.nearG l (Rul.firstN l) (Rul.lastN l + 401)))) := fun w hr => by
    rw [← Rul.near_same hA hne]
    exact rnear_any l n hn (by omega) hA h0 _ w hr
  generalize Rul.nearG l (Rul.firstN l) (Rul.lastN l + 401) = NG at *
  rcases hr with ⟨_, _, _, h1, _⟩ | ⟨b, o, c, e1, k1, k2, m1, hc⟩
  · exact absurd h1 h0
  injection e1 with e1 e2 e3
  subst e1
  clear e2 e3
  haveI : InW b w := ⟨m1⟩
  have HCc := Lib.hid hc
  have Hn := Lib.hid hn
  have HAl := Lib.hid hA
  have hn1 : ((n : Int) == 0) = false := beq_eq_false_iff_ne.2 (by omega)
  clear hc hn hA hC hmost HF hne
  go_enter Try.func8, Try.ntmps8
  go_wp2_with (first | (go_at_call 9; refine Rets.use (HL _).out ?_; intro _) | (go_at_call 11; refine Rets.use (HR _ (hr0.ext isext)).out ?_; intro _) | (go_at_call 20; refine Rets.use (HM _ (hr0.ext isext)).out ?_; intro _) | (go_at_call 21; refine Rets.use (HC _ (hr0.ext isext)).out ?_; intro _))
  go_loopw [5, 6, 7] (fun fv ev iv wr => ∃ (j : Nat) (F E : Int), j ≤ n ∧ iv = .int .i64 j ∧ fv = .int .i64 F ∧ ev = .int .i64 E ∧ 1 ≤ F ∧ F ≤ 10000 ∧ 0 ≤ E ∧ E ≤ 9999 ∧ Ext w wr) (fun _ _ i _ => n - (intOf i).toNat)
  case atStart => exact ⟨0, 10000, 0, by omega, rfl, rfl, rfl, by omega, by omega, by omega, by omega, isext⟩
  case round =>
    obtain ⟨j, F, E, j2, rfl, rfl, rfl, F1, F2, E1, E2, hx⟩ := hrel
    obtain ⟨yr, rfl⟩ := fin hx
    clear hx
    by_cases hlt : j < n
    · have hj : j < l.length := by rw [Hn.out]; exact hlt
      obtain ⟨c0, c1, c2, c3, c4, c5, c6, c7, c8, c9, c10⟩ := rule_at HCc.out j hj
      have hrx := Rul.all_mem HAl.out (List.getElem_mem hj)
      have hpx : 1 ≤ l[j].a ∧ l[j].a ≤ 9999 ∧ ((1 ≤ l[j].b ∧ l[j].b ≤ 9999) ∨ l[j].b = 1000000) := by
        unfold Rul.rightB Rul.yearB at hrx
        simp only [Bool.and_eq_true, Bool.or_eq_true, decide_eq_true_eq, beq_iff_eq] at hrx
        omega
      clear hrx
      generalize l[j] = x at *
      obtain ⟨nm, a, b', m, k, wd, d, t, r, s, lt⟩ := x
      simp only at c0 c1 c2 c3 c4 c5 c6 c7 c8 c9 c10 hpx
      clear c0 c3 c4 c5 c6 c7 c8 c9 c10
      obtain ⟨a1, a2, hb⟩ := hpx
      have hcs : (b' < 10000 ∧ 1 ≤ b' ∧ b' ≤ 9999) ∨ decide (b' < 10000) = false := by
        rcases hb with hb | rfl
        · exact .inl (by omega)
        · exact .inr rfl
      clear hb
      rcases hcs with ⟨hb, q1, q2⟩ | hb
      all_goals
        go_wp2
        all_goals
          go_roundw
          case rel => exact ⟨j + 1, _, _, by omega, by go_num, rfl, rfl, by omega, by omega, by omega, by omega, isext⟩
          case measure => simp [intOf]; omega
    · by_cases h600 : 600 < E - F
      · go_wp2
        go_ret
        exact ⟨rfl, done⟩
      · have h600' : decide (600 < E - F) = false := decide_eq_false h600
        go_wp2_with (first | (go_at_call 22; refine Rets.use (HN1 _ (hr0.ext isext)).out ?_; intro _) | (go_at_call 23; refine Rets.use (HN2 _ (hr0.ext isext)).out ?_; intro _))
        go_ret
        exact ⟨ret_bool (by simp), done⟩
end Go.Proofs.Ytodcgalcpnckaaa
