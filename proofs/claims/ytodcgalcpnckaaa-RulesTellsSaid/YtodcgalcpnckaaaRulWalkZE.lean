/- Walks of rules: the law of what turns tell. -/
import Derived.Test.YtodcgalcpnckaaaRulWalkZD
set_option linter.unusedVariables false
set_option linter.unusedSimpArgs false
namespace Go.Proofs.Ytodcgalcpnckaaa
open Go.RowKit Go.Sort Go.Shelf

theorem two_filter {α : Type} {p : α → Bool} : ∀ (l : List α) (i j : Nat) (hi : i < l.length) (hj : j < l.length), i < j → p l[i] = true → p l[j] = true → 2 ≤ (l.filter p).length
  | [], i, j, hi, _, _, _, _ => by simp at hi
  | x :: l, 0, j + 1, _, hj, _, h1, h2 => by
    have h1' : p x = true := h1
    rw [List.filter_cons_of_pos h1', List.length_cons]
    have hm : l[j]'(by simpa using hj) ∈ l.filter p := List.mem_filter.2 ⟨List.getElem_mem _, h2⟩
    have := List.length_pos_of_mem hm
    omega
  | x :: l, i + 1, j + 1, hi, hj, hij, h1, h2 => by
    have := two_filter l i j (by simpa using hi) (by simpa using hj) (by omega) h1 h2
    rw [List.filter_cons]
    split
    · rw [List.length_cons]; omega
    · exact this
  | x :: l, i, 0, _, _, h, _, _ => by omega
theorem filter_turnL (l : List Rule) (y : Int) (p : Turn → Bool) : ((Rul.turnL l y).filter p).length = (l.filter fun x => Rul.turnB x y && p (Rul.turnOf x y)).length := by
  unfold Rul.turnL
  induction l with
  | nil => rfl
  | cons x l ih =>
    cases hb : Rul.turnB x y
    · rw [List.filterMap_cons_none (by simp [hb]), List.filter_cons, hb]; simpa using ih
    · rw [List.filterMap_cons_some (b := Rul.turnOf x y) (by rw [hb]; rfl), List.filter_cons, List.filter_cons, hb]
      cases hp : p (Rul.turnOf x y)
      · simpa using ih
      · simpa using ih
theorem erase_perm {α : Type} : ∀ (l : List α) (k : Nat) (hk : k < l.length), l.Perm (l[k] :: l.eraseIdx k)
  | x :: l, 0, _ => List.Perm.refl _
  | x :: l, k + 1, hk => by
    have := erase_perm l k (by simpa using hk)
    simp only [List.eraseIdx_cons_succ, List.getElem_cons_succ]
    exact (List.Perm.cons x this).trans (List.Perm.swap _ _ _)
theorem mem_erase {α : Type} : ∀ (l : List α) (k : Nat) (u : α), u ∈ l.eraseIdx k → ∃ (p : Nat) (hp : p < l.length), p ≠ k ∧ l[p] = u
  | [], k, u, h => by simp at h
  | x :: l, 0, u, h => by
    simp only [List.eraseIdx_zero, List.tail_cons] at h
    obtain ⟨p, hp, e⟩ := List.getElem_of_mem h
    exact ⟨p + 1, by simpa using hp, by omega, e⟩
  | x :: l, k + 1, u, h => by
    simp only [List.eraseIdx_cons_succ] at h
    rcases List.mem_cons.1 h with rfl | h
    · exact ⟨0, by simp, by omega, rfl⟩
    · obtain ⟨p, hp, h1, h2⟩ := mem_erase l k u h
      exact ⟨p + 1, by simpa using hp, by omega, h2⟩
def apart (a b : Turn) : Prop := 172800 ≤ a.at' - b.at' ∨ 172800 ≤ b.at' - a.at'
theorem tells_plain {l : List Rule} (hA : Rul.allB l = true) {off : Int} (o1 : -86400 < off) (o2 : off < 86400) {y : Int} {K : Nat} (hK : K < (Rul.turnsG l y).length)
    (hfar : ∀ z, y - 1 ≤ z → z ≤ y + 1 → ∀ (p : Nat) (hp : p < (Rul.turnsG l z).length), (z ≠ y ∨ p ≠ K) → apart (Rul.turnsG l z)[p] (Rul.turnsG l y)[K])
    {T : Int} (t1 : Rul.uniD l off (Rul.turnsG l y)[K] ≤ T) (t2 : T ≤ Rul.uniD l off (Rul.turnsG l y)[K] + 3599) : Rul.forceD l off T = (Rul.turnsG l y)[K] := by
  obtain ⟨i, hi, hb, he, -⟩ := turns_r hA (List.getElem_mem hK)
  have hper := erase_perm (Rul.turnsG l y) K hK
  have hmem := mem_erase (Rul.turnsG l y) K
  generalize hX : (Rul.turnsG l y)[K] = X at *
  subst he
  refine Rul.force_tells hA o1 o2 hi hb (fun j hj z hz z1 z2 hne => ?_) t1 t2
  by_cases hzy : z = y
  · subst hzy
    have hji : j ≠ i := by rcases hne with h | h; exact h; exact absurd rfl h
    -- of all turns of that year this one alone is near
    by_cases hfarj : apart (Rul.turnOf l[j] z) (Rul.turnOf l[i] z)
    · exact hfarj
    · exfalso
      obtain ⟨q, hq⟩ : ∃ q : Turn → Bool, ∀ u, ¬ apart u (Rul.turnOf l[i] z) ↔ q u = true :=
        ⟨fun u => decide (u.at' - (Rul.turnOf l[i] z).at' < 172800) && decide ((Rul.turnOf l[i] z).at' - u.at' < 172800), fun u => by unfold apart; rw [Bool.and_eq_true, decide_eq_true_eq, decide_eq_true_eq]; omega⟩
      have hself : ¬ apart (Rul.turnOf l[i] z) (Rul.turnOf l[i] z) := by unfold apart; omega
      have h2 : 2 ≤ ((Rul.turnL l z).filter q).length := by
        rw [filter_turnL]
        have hpi : (Rul.turnB l[i] z && q (Rul.turnOf l[i] z)) = true := by rw [hb, Bool.true_and]; exact (hq _).1 hself
        have hpj : (Rul.turnB l[j] z && q (Rul.turnOf l[j] z)) = true := by rw [hz, Bool.true_and]; exact (hq _).1 hfarj
        rcases Nat.lt_or_ge i j with h | h
        · exact two_filter l i j hi hj h hpi hpj
        · exact two_filter l j i hj hi (by omega) hpj hpi
      have h1 : ((Rul.turnsG l z).filter q).length ≤ 1 := by
        rw [(hper.filter q).length_eq, List.filter_cons_of_pos ((hq _).1 hself), List.length_cons, List.filter_eq_nil_iff.2 ?_]
        · simp
        · intro u hu
          obtain ⟨p, hp', hpk, rfl⟩ := hmem u hu
          have := hfar z (by omega) (by omega) p hp' (.inr hpk)
          intro h
          exact (hq _).2 h this
      have h3 := ((Rul.sortT_perm (Rul.turnL l z)).filter q).length_eq
      unfold Rul.turnsG at h1
      omega
  · obtain ⟨p, hp, e⟩ := List.getElem_of_mem (turn_mem hj hz)
    have := hfar z z1 z2 p hp (.inl hzy)
    rw [e] at this
    exact this
set_option maxRecDepth 100000 in
set_option maxHeartbeats 4000000 in
theorem tells_out (l : List Rule) (n : Nat) (hmax : (n : Int) ≤ 9223372036854775807) (a8 : Option Addr) (c8 : Nat) (off y wh : Int) (w : World)
    (hc : (12 < n) ∨ (¬ 12 < n ∧ off ≤ -86400) ∨ (¬ 12 < n ∧ ¬ off ≤ -86400 ∧ 86400 ≤ off) ∨ (¬ 12 < n ∧ ¬ off ≤ -86400 ∧ ¬ 86400 ≤ off ∧ y < 1) ∨ (¬ 12 < n ∧ ¬ off ≤ -86400 ∧ ¬ 86400 ≤ off ∧ ¬ y < 1 ∧ 12000 < y)) :
    Rets Try.prog 7 #[.slice a8 n c8, .int .i64 off, .int .i64 y, .int .i64 wh] w (.bool true) := by
  have HL := fun w => Lib.hid (ralive_any w)
  unfold Rets
  rcases hc with h1 | ⟨h1, h2⟩ | ⟨h1, h2, h3⟩ | ⟨h1, h2, h3, h4⟩ | ⟨h1, h2, h3, h4, h5⟩
  · have g1 : (12 : Int) < n := by omega
    go_enter Try.func7, Try.ntmps7
    go_wp2_with (go_at_call 9; refine Rets.use (HL _).out ?_; intro _)
    go_ret
    exact ⟨rfl, done⟩
  · have g1 : decide ((12 : Int) < n) = false := decide_eq_false (by omega)
    go_enter Try.func7, Try.ntmps7
    go_wp2_with (go_at_call 9; refine Rets.use (HL _).out ?_; intro _)
    go_ret
    exact ⟨rfl, done⟩
  · have g1 : decide ((12 : Int) < n) = false := decide_eq_false (by omega)
    have g2 : decide (off ≤ -86400) = false := decide_eq_false h2
    go_enter Try.func7, Try.ntmps7
    go_wp2_with (go_at_call 9; refine Rets.use (HL _).out ?_; intro _)
    go_ret
    exact ⟨rfl, done⟩
  · have g1 : decide ((12 : Int) < n) = false := decide_eq_false (by omega)
    have g2 : decide (off ≤ -86400) = false := decide_eq_false h2
    have g3 : decide (86400 ≤ off) = false := decide_eq_false h3
    go_enter Try.func7, Try.ntmps7
    go_wp2_with (go_at_call 9; refine Rets.use (HL _).out ?_; intro _)
    go_ret
    exact ⟨rfl, done⟩
  · have g1 : decide ((12 : Int) < n) = false := decide_eq_false (by omega)
    have g2 : decide (off ≤ -86400) = false := decide_eq_false h2
    have g3 : decide (86400 ≤ off) = false := decide_eq_false h3
    have g4 : decide (y < 1) = false := decide_eq_false h4
    go_enter Try.func7, Try.ntmps7
    go_wp2_with (go_at_call 9; refine Rets.use (HL _).out ?_; intro _)
    go_ret
    exact ⟨rfl, done⟩
set_option maxRecDepth 100000 in
set_option maxHeartbeats 4000000 in
theorem tells_none (l : List Rule) (n : Nat) (h12 : n ≤ 12) (a8 : Option Addr) (c8 : Nat) (off y wh : Int) (y1 : 1 ≤ y) (y2 : y ≤ 12000) (o1 : -86400 < off) (o2 : off < 86400) (w : World) (hr : Reads w (.slice a8 n c8) n (ruleRow l))
    (HT : ∀ w, Reads w (.slice a8 n c8) n (ruleRow l) → Hid (Calls Try.prog 10 #[.slice a8 n c8, .int .i64 y] w (TurnsEnd w []))) :
    Rets Try.prog 7 #[.slice a8 n c8, .int .i64 off, .int .i64 y, .int .i64 wh] w (.bool true) := by
  have HL := fun w => Lib.hid (ralive_any w)
  have g1 : decide ((12 : Int) < n) = false := decide_eq_false (by omega)
  have g2 : decide (off ≤ -86400) = false := decide_eq_false (by omega)
  have g3 : decide (86400 ≤ off) = false := decide_eq_false (by omega)
  have g4 : decide (y < 1) = false := decide_eq_false (by omega)
  have g5 : decide (12000 < y) = false := decide_eq_false (by omega)
  unfold Rets
  go_enter Try.func7, Try.ntmps7
  go_wp2_with fail
  go_at_call 10
  refine ((HT _ (hr.ext isext)).out).mono ?_
  rintro _ _ ⟨v1, z3, rfl, hv1, rfl⟩
  obtain ⟨a1, c1, rfl⟩ := reads_shape hv1
  simp only [List.length_nil]
  clear hv1
  go_wp2_with (go_at_call 9; refine Rets.use (HL _).out ?_; intro _)
  go_ret
  exact ⟨rfl, done⟩
end Go.Proofs.Ytodcgalcpnckaaa
