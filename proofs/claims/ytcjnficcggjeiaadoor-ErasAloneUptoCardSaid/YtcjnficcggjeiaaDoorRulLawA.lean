/- Plain laws of rules: four years at most, from the year behind on back, hold the latest turn that is so. -/
import Derived.Test.YtcjnficcggjeiaaDoorRulWalkO
set_option linter.unusedVariables false
set_option linter.unusedSimpArgs false
namespace Go.Proofs.YtcjnficcggjeiaaDoor

/-- A turn lies near its year. -/
theorem turn_near {x : Rule} {y : Int} (hx : Rul.rightB x = true) (h : Rul.turnB x y = true) : (Civ.jan y - 13) * 86400 < (Rul.turnOf x y).at' ∧ (Rul.turnOf x y).at' < (Civ.jan y + 382) * 86400 := by
  unfold Rul.turnB at h
  rw [Bool.and_eq_true] at h
  have hb : Mom.onB x.m x.k x.wd x.d x.t x.r y = true := h.1
  obtain ⟨hr, y1, y2, hok, hi⟩ := Mom.onB_all hb
  have hat : (Rul.turnOf x y).at' = Mom.onI x.m x.k x.wd x.d y * 86400 + x.t := by
    show locV x.m x.k x.wd x.d x.t x.r y = _
    unfold locV; rw [if_pos hb]
  obtain ⟨m1, m2, t1, t2, -, -, hk⟩ := Mom.right_all hr
  have hl := Civ.lp_01 y
  obtain ⟨l1, l2⟩ := Civ.mlen_bd y x.m
  have l3 := Civ.mlen_lo y x.m m1 m2
  have l4 := Civ.cum_le y x.m m1 m2
  obtain ⟨c1, c2, c3⟩ := Civ.cum_bd y x.m m1 (by omega)
  have hlo : Civ.jan y - 6 ≤ Mom.onI x.m x.k x.wd x.d y ∧ Mom.onI x.m x.k x.wd x.d y ≤ Civ.jan y + 375 := by
    unfold Mom.onI
    have hn : Civ.num y x.m 1 = Civ.jan y + Civ.cum y x.m := by unfold Civ.num; omega
    rw [hn]
    have b1 := Mom.back_bd (Civ.jan y + Civ.cum y x.m + Civ.mlen y x.m - 1) x.wd
    have b2 := Mom.back_bd (Civ.jan y + Civ.cum y x.m + x.d + 5) x.wd
    have b3 := Mom.back_bd (Civ.jan y + Civ.cum y x.m + x.d - 1) x.wd
    rcases hk with ⟨h, _⟩ | ⟨h, _⟩ | ⟨h, _⟩ | ⟨h, _⟩
    · rw [Mom.fall_0 h]; omega
    · rw [Mom.fall_1 h]; omega
    · rw [Mom.fall_2 h]; omega
    · rw [Mom.fall_3 h]; omega
  rw [hat]
  omega
theorem rule_parts {x : Rule} (hx : Rul.rightB x = true) : 1 ≤ x.a ∧ x.a ≤ 9999 ∧ Rul.spotB x = true ∧ -43200 ≤ x.s ∧ x.s ≤ 43200 ∧ 0 ≤ x.r ∧ x.r ≤ 2 := by
  unfold Rul.rightB Rul.yearB at hx
  simp only [Bool.and_eq_true, decide_eq_true_eq] at hx
  obtain ⟨⟨⟨h1, h2⟩, h3⟩, h4⟩ := hx
  obtain ⟨-, -, -, -, r1, r2, -⟩ := Mom.right_all (show Mom.rightB x.m x.k x.wd x.d x.t x.r = true from h3)
  exact ⟨h1.1, h1.2, h3, h4.1, h4.2, r1, r2⟩
/-- A rule in force turns, unless the year is among the last. -/
theorem turn_yes {x : Rule} {y : Int} (hx : Rul.rightB x = true) (h1 : x.a ≤ y) (h2 : y ≤ x.b) (h3 : y ≤ 275758) : Rul.turnB x y = true := by
  obtain ⟨a1, a2, hs, -⟩ := rule_parts hx
  have hr : Mom.rightB x.m x.k x.wd x.d x.t x.r = true := hs
  unfold Rul.turnB Rul.inB Rul.onB
  rw [decide_eq_true ⟨h1, h2⟩, Bool.and_true]
  obtain ⟨m1, m2, t1, t2, -, -, hk⟩ := Mom.right_all hr
  have hl := Civ.lp_01 y
  obtain ⟨l1, l2⟩ := Civ.mlen_bd y x.m
  have l3 := Civ.mlen_lo y x.m m1 m2
  have l4 := Civ.cum_le y x.m m1 m2
  obtain ⟨c1, c2, c3⟩ := Civ.cum_bd y x.m m1 (by omega)
  have hn : Civ.num y x.m 1 = Civ.jan y + Civ.cum y x.m := by unfold Civ.num; omega
  have hj1 : -719528 ≤ Civ.jan y := by unfold Civ.jan; omega
  have hj2 : Civ.jan y ≤ 99999600 - 100 := by unfold Civ.jan; omega
  refine Mom.onB_yes hr (by omega) (by omega) (Civ.okD_mk _ _ _ ⟨m1, m2, by omega, by omega⟩ (by omega) (by omega)) ?_
  unfold Mom.onI
  rw [hn]
  have b1 := Mom.back_bd (Civ.jan y + Civ.cum y x.m + Civ.mlen y x.m - 1) x.wd
  have b2 := Mom.back_bd (Civ.jan y + Civ.cum y x.m + x.d + 5) x.wd
  have b3 := Mom.back_bd (Civ.jan y + Civ.cum y x.m + x.d - 1) x.wd
  rcases hk with ⟨h, _⟩ | ⟨h, _⟩ | ⟨h, _⟩ | ⟨h, _⟩
  · rw [Mom.fall_0 h]; omega
  · rw [Mom.fall_1 h]; omega
  · rw [Mom.fall_2 h]; omega
  · rw [Mom.fall_3 h]; omega
theorem dy_in {n : Int} (h1 : -100000001 ≤ n) (h2 : n ≤ 100000000) : Civ.jan (Civ.dy n) ≤ n ∧ n < Civ.jan (Civ.dy n + 1) := by
  obtain ⟨f, e⟩ := Civ.of_ok n
  have := Civ.num_year _ _ _ f
  rw [e] at this; exact this
namespace Rul
theorem down_skip {p : Int → Bool} {lo : Int} : ∀ (f : Nat) (m M : Int), M - m ≤ f → m ≤ M → (∀ y, m < y → y ≤ M → p y = false) → down p lo M = down p lo m := by
  intro f
  induction f with
  | zero => intro m M h1 h2 h; rw [show M = m by omega]
  | succ f ih =>
    intro m M h1 h2 h
    by_cases e : M = m
    · rw [e]
    · by_cases hl : lo ≤ M
      · rw [down_no hl (h M (by omega) (Int.le_refl _))]
        exact ih m (M - 1) (by omega) (by omega) (fun y a b => h y a (by omega))
      · rw [down_end (by omega), down_end (by omega)]
theorem down_none {p : Int → Bool} {lo M : Int} (h : ∀ y, lo ≤ y → y ≤ M → p y = false) : down p lo M = none := by
  by_cases hl : lo ≤ M
  · rw [down_skip (M - (lo - 1)).toNat (lo - 1) M (by omega) (by omega) (fun y a b => h y (by omega) b)]
    exact down_end (by omega)
  · exact down_end (by omega)
theorem find_back (x : Rule) (so : Turn → Bool) : ∀ (f : Nat) (y : Int), 1 ≤ f → (∀ y', x.a ≤ y' → y' ≤ y - f + 1 → (turnB x y' && so (turnOf x y')) = true) →
    (backN x f y).find? so = (down (fun y => turnB x y && so (turnOf x y)) x.a y).map (turnOf x) := by
  intro f
  induction f with
  | zero => intro y h; omega
  | succ f ih =>
    intro y _ h
    by_cases hy : y < x.a
    · rw [back_end (.inr hy), down_end hy]; rfl
    · cases hp : (turnB x y && so (turnOf x y))
      · have hf : 1 ≤ f := by
          rcases Nat.eq_zero_or_pos f with h0 | h0
          · exfalso
            have := h y (by omega) (by omega)
            rw [hp] at this; cases this
          · exact h0
        rw [down_no (by omega) hp, ← ih (y - 1) hf (fun y' a b => h y' a (by omega))]
        cases hb : turnB x y
        · rw [back_no (by omega) hb]
        · rw [hb, Bool.true_and] at hp
          rw [back_yes (by omega) hb, List.find?_cons, hp]
      · rw [down_yes (by omega) hp]
        rw [Bool.and_eq_true] at hp
        rw [back_yes (by omega) hp.1, List.find?_cons, hp.2]; rfl
theorem find_none_back (x : Rule) (so : Turn → Bool) (h : ∀ y', x.a ≤ y' → (turnB x y' && so (turnOf x y')) = false) : ∀ (f : Nat) (y : Int), (backN x f y).find? so = none := by
  intro f
  induction f with
  | zero => intro y; rfl
  | succ f ih =>
    intro y
    by_cases hy : y < x.a
    · rw [back_end (.inr hy)]; rfl
    · have hp := h y (by omega)
      cases hb : turnB x y
      · rw [back_no (by omega) hb]; exact ih _
      · rw [hb, Bool.true_and] at hp
        rw [back_yes (by omega) hb, List.find?_cons, hp]; exact ih _
/-- The two searches meet. -/
theorem find_same {x : Rule} (hx : rightB x = true) (so : Turn → Bool) (T : Int) (a1 : -9223372036854775808 ≤ T) (a2 : T ≤ 9223372036854775807)
    (hso : ∀ y, turnB x y = true → ((turnOf x y).at' + 10000000 ≤ T → so (turnOf x y) = true) ∧ (T + 10000000 ≤ (turnOf x y).at' → so (turnOf x y) = false)) :
    (backs x (yearP T)).find? so = (down (fun y => turnB x y && so (turnOf x y)) x.a (min x.b (yearD T + 2))).map (turnOf x) := by
  obtain ⟨x1, x2, -⟩ := rule_parts hx
  by_cases hlow : T / 86400 < -100000001
  · have hp : ∀ y', x.a ≤ y' → (turnB x y' && so (turnOf x y')) = false := by
      intro y' h'
      cases hb : turnB x y'
      · rfl
      · rw [Bool.true_and]
        have hn := turn_near hx hb
        have : -719528 ≤ Civ.jan y' := by unfold Civ.jan; omega
        exact (hso y' hb).2 (by omega)
    unfold backs
    rw [find_none_back x so hp, down_none (fun y a _ => hp y a)]; rfl
  · -- both years are the same
    have hY : ∃ Y : Int, yearP T = Y ∧ yearD T = Y ∧ Y ≤ 275760 ∧ Civ.jan Y * 86400 ≤ T ∧ (T < Civ.jan (Y + 1) * 86400 ∨ Y = 275760) := by
      by_cases hhi : 100000000 < T / 86400
      · have e : Civ.dy 100000000 = 275760 := by decide +kernel
        refine ⟨275760, ?_, ?_, by omega, ?_, .inr rfl⟩
        · unfold yearP; rw [if_neg hlow, if_pos hhi, e]
        · unfold yearD; rw [if_neg (by omega), if_pos (by omega)]
        · have : Civ.jan 275760 = 99999744 := by decide +kernel
          omega
      · obtain ⟨d1, d2⟩ := dy_in (n := T / 86400) (by omega) (by omega)
        have e1 : yearP T = Civ.dy (T / 86400) := by unfold yearP; rw [if_neg hlow, if_neg hhi]
        have e2 : yearD T = Civ.dy (T / 86400) := by
          unfold yearD
          rw [if_neg (by omega)]
          by_cases h8 : 8640000000000 < T
          · rw [if_pos h8, show T / 86400 = 100000000 by omega]; decide +kernel
          · rw [if_neg h8, if_neg hlow]
        have hb := dy_bd (n := T / 86400) (by omega) (by omega)
        exact ⟨_, e1, e2, hb.2, by omega, .inl (by omega)⟩
    obtain ⟨Y, e1, e2, hY1, j1, j2⟩ := hY
    rw [e1, e2]
    have hno : ∀ y, Y + 2 ≤ y → (turnB x y && so (turnOf x y)) = false := by
      intro y hy
      cases hb : turnB x y
      · rfl
      · rw [Bool.true_and]
        have hn := turn_near hx hb
        rcases j2 with j2 | rfl
        · have := Civ.jan_mono (Y + 1) y (by omega)
          exact (hso y hb).2 (by omega)
        · exfalso
          unfold turnB at hb
          rw [Bool.and_eq_true] at hb
          obtain ⟨-, -, -, hok, -⟩ := Mom.onB_all (show Mom.onB x.m x.k x.wd x.d x.t x.r y = true from hb.1)
          have := Civ.okD_year _ _ _ hok
          omega
    have hyes : ∀ y, x.a ≤ y → y ≤ x.b → y ≤ Y - 2 → (turnB x y && so (turnOf x y)) = true := by
      intro y h1 h2 h3
      have hb := turn_yes hx h1 h2 (by omega)
      rw [hb, Bool.true_and]
      have hn := turn_near hx hb
      have := Civ.jan_mono (y + 1) (Y - 1) (by omega)
      have := Civ.jan_mono (Y - 1) Y (by omega)
      have h4 := Civ.jan_succ y
      have h5 := Civ.lp_01 y
      exact (hso y hb).1 (by omega)
    unfold backs
    rw [find_back x so 4 (min x.b (Y + 1)) (by omega) (fun y' a b => hyes y' a (by omega) (by omega))]
    rw [down_skip (min x.b (Y + 2) - min x.b (Y + 1)).toNat (min x.b (Y + 1)) (min x.b (Y + 2)) (by omega) (by omega) (fun y a b => hno y (by omega))]
theorem latest_congr {f g : Rule → Option Turn} {l : List Rule} (h : ∀ x ∈ l, f x = g x) : latestG f l = latestG g l := by
  unfold latestG
  generalize (none : Option Turn) = q
  induction l generalizing q with
  | nil => rfl
  | cons x l ih =>
    simp only [List.foldl_cons]
    rw [h x (by simp)]
    exact ih (fun y hy => h y (by simp [hy])) _
theorem all_mem {l : List Rule} (h : allB l = true) {x : Rule} (hx : x ∈ l) : rightB x = true := List.all_eq_true.1 h x hx
theorem ahead_same {l : List Rule} (hA : allB l = true) (T : Int) (a1 : -9223372036854775808 ≤ T) (a2 : T ≤ 9223372036854775807) : aheadG l T = aheadD l T := by
  unfold aheadG aheadD
  refine latest_congr fun x hx => ?_
  rw [find_same (all_mem hA hx) _ T a1 a2 (fun y _ => ⟨fun h => decide_eq_true (by omega), fun h => decide_eq_false (by omega)⟩)]
  rfl
theorem uni_same {l : List Rule} (hA : allB l = true) (off : Int) {x : Rule} (hx : x ∈ l) {y : Int} (hb : turnB x y = true) : uniG l off (turnOf x y) = uniD l off (turnOf x y) := by
  obtain ⟨-, -, -, -, -, r1, r2⟩ := rule_parts (all_mem hA hx)
  obtain ⟨t1, t2, -⟩ := turn_bd (all_mem hA hx) hb
  have hr : (turnOf x y).r = x.r := rfl
  unfold uniG uniD
  rw [hr, ahead_same hA _ (by omega) (by omega)]
  by_cases h2 : x.r = 2
  · rw [if_pos h2, if_pos h2]
  · rw [if_neg h2, if_neg h2]
    by_cases h0 : x.r = 0
    · rw [if_pos h0, if_neg (by omega)]
    · rw [if_neg h0, if_pos (by omega)]
theorem uni_near {l : List Rule} (hA : allB l = true) (off : Int) (o1 : -86400 < off) (o2 : off < 86400) (t : Turn) : t.at' - 129600 ≤ uniD l off t ∧ uniD l off t ≤ t.at' + 129600 := by
  have := ahead_s hA t.at'
  unfold uniD
  split
  · omega
  · split <;> omega
theorem find_mem_congr {p q : Turn → Bool} : ∀ (l : List Turn), (∀ u ∈ l, p u = q u) → l.find? p = l.find? q
  | [], _ => rfl
  | u :: l, h => by
    rw [List.find?_cons, List.find?_cons, h u (by simp), find_mem_congr l (fun v hv => h v (by simp [hv]))]
theorem last_same {l : List Rule} (hA : allB l = true) (off : Int) (o1 : -86400 < off) (o2 : off < 86400) (T : Int) (a1 : -9223372036854775808 ≤ T) (a2 : T ≤ 9223372036854775807) : lastG l off T = lastD l off T := by
  unfold lastG lastD
  refine latest_congr fun x hx => ?_
  have e : (backs x (yearP T)).find? (fun u => decide (uniG l off u ≤ T)) = (backs x (yearP T)).find? (fun u => decide (uniD l off u ≤ T)) := by
    refine find_mem_congr _ fun u hu => ?_
    obtain ⟨y', h1, rfl⟩ := back_mem _ _ u hu
    rw [uni_same hA off hx h1]
  rw [e, find_same (all_mem hA hx) _ T a1 a2 (fun y _ => ?_)]
  · rfl
  · have := uni_near hA off o1 o2 (turnOf x y)
    exact ⟨fun h => decide_eq_true (by omega), fun h => decide_eq_false (by omega)⟩
theorem force_same {l : List Rule} (hA : allB l = true) (off : Int) (o1 : -86400 < off) (o2 : off < 86400) (T : Int) (a1 : -9223372036854775808 ≤ T) (a2 : T ≤ 9223372036854775807) : forceG l off T = forceD l off T := by
  unfold forceG forceD
  rw [last_same hA off o1 o2 T a1 a2]
  cases lastD l off T <;> rfl
end Rul
end Go.Proofs.YtcjnficcggjeiaaDoor
