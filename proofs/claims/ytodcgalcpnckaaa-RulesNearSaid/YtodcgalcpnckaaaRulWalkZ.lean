/- Walks of rules: how many rules are in force at once, on both sides. -/
import Derived.Test.YtodcgalcpnckaaaRulWalkV
set_option linter.unusedVariables false
set_option linter.unusedSimpArgs false
namespace Go.Proofs.Ytodcgalcpnckaaa
open Go.RowKit Go.Shelf

namespace Rul
def countB (x y : Rule) : Bool := decide (x.a ≤ x.b) && inB y x.a
def cnt (l : List Rule) (x : Rule) : Nat := (l.filter (countB x)).length
theorem cnt_le (l : List Rule) (x : Rule) : cnt l x ≤ l.length := List.length_filter_le _ _
theorem cnt_step {l : List Rule} {k : Nat} (h : k < l.length) (x : Rule) : cnt (l.take (k + 1)) x = cnt (l.take k) x + if countB x l[k] = true then 1 else 0 := by
  unfold cnt
  rw [List.take_succ_eq_append_getElem h, List.filter_append, List.length_append]
  congr 1
  split
  · rename_i hc; simp [hc]
  · rename_i hc; simp [hc]
def crowdB (l : List Rule) : Bool := l.any fun x => decide (10 < cnt l x)
theorem crowd_no {l : List Rule} (h : ∀ i (hi : i < l.length), cnt l l[i] ≤ 10) : crowdB l = false := by
  unfold crowdB
  rw [List.any_eq_false]
  intro x hx
  obtain ⟨i, hi, rfl⟩ := List.getElem_of_mem hx
  have := h i hi
  simp; omega
theorem crowd_yes {l : List Rule} {i : Nat} (hi : i < l.length) (h : 10 < cnt l l[i]) : crowdB l = true := by
  unfold crowdB
  rw [List.any_eq_true]
  exact ⟨_, List.getElem_mem hi, decide_eq_true h⟩
def mostN (l r : List Rule) : Nat := r.foldl (fun m x => max m (cnt l x)) 0
theorem most_step {l r : List Rule} {k : Nat} (h : k < r.length) : mostN l (r.take (k + 1)) = max (mostN l (r.take k)) (cnt l r[k]) := by
  unfold mostN
  rw [List.take_succ_eq_append_getElem h, List.foldl_append]; rfl
theorem most_le (l : List Rule) : ∀ (r : List Rule) (m : Nat), m ≤ l.length → r.foldl (fun m x => max m (cnt l x)) m ≤ l.length
  | [], m, h => h
  | x :: r, m, h => by
    rw [List.foldl_cons]
    exact most_le l r _ (Nat.max_le.2 ⟨h, cnt_le l x⟩)
theorem most_gt (l : List Rule) : ∀ (r : List Rule) (m : Nat), 10 < r.foldl (fun m x => max m (cnt l x)) m ↔ 10 < m ∨ ∃ x ∈ r, 10 < cnt l x
  | [], m => by simp
  | x :: r, m => by
    rw [List.foldl_cons, most_gt l r]
    constructor
    · rintro (h | ⟨y, hy, h⟩)
      · rcases Nat.lt_or_ge m (cnt l x) with h1 | h1
        · exact .inr ⟨x, by simp, by omega⟩
        · exact .inl (by omega)
      · exact .inr ⟨y, by simp [hy], h⟩
    · rintro (h | ⟨y, hy, h⟩)
      · exact .inl (by omega)
      · rcases List.mem_cons.1 hy with rfl | hy
        · exact .inl (by omega)
        · exact .inr ⟨y, hy, h⟩
theorem crowd_most (l : List Rule) : crowdB l = decide (10 < mostN l l) := by
  rw [Bool.eq_iff_iff]
  unfold crowdB mostN
  rw [List.any_eq_true, decide_eq_true_eq, most_gt]
  simp
end Rul
theorem count_cases (x y : Rule) : (decide (x.a ≤ x.b) = false ∧ Rul.countB x y = false) ∨ (x.a ≤ x.b ∧ Rul.inB y x.a = Rul.countB x y) := by
  unfold Rul.countB
  by_cases h : x.a ≤ x.b
  · exact .inr ⟨h, by simp [h]⟩
  · exact .inl ⟨decide_eq_false h, by simp [h]⟩
theorem rcount_cases (x y : Rule) : (decide (y.a ≤ x.a) = false ∧ Rul.countB x y = false) ∨ (y.a ≤ x.a ∧ decide (x.a ≤ y.b) = false ∧ Rul.countB x y = false) ∨ (y.a ≤ x.a ∧ x.a ≤ y.b ∧ decide (x.a ≤ x.b) = false ∧ Rul.countB x y = false) ∨ (y.a ≤ x.a ∧ x.a ≤ y.b ∧ x.a ≤ x.b ∧ Rul.countB x y = true) := by
  unfold Rul.countB Rul.inB
  by_cases h1 : y.a ≤ x.a
  · by_cases h2 : x.a ≤ y.b
    · by_cases h3 : x.a ≤ x.b
      · exact .inr (.inr (.inr ⟨h1, h2, h3, by simp [h1, h2, h3]⟩))
      · exact .inr (.inr (.inl ⟨h1, h2, decide_eq_false h3, by simp [h3]⟩))
    · exact .inr (.inl ⟨h1, decide_eq_false h2, by simp [h2]⟩)
  · exact .inl ⟨decide_eq_false h1, by simp [h1]⟩
set_option maxRecDepth 100000 in
set_option maxHeartbeats 2000000 in
theorem crowded_no (l : List Rule) (n : Nat) (hn : l.length = n) (hA : Rul.allB l = false) (v : Value) (w : World) (hr : Reads w v n (ruleRow l)) :
    Rets Try.prog 21 #[v] w (.bool false) := by
  have H : ∀ w, Reads w v n (ruleRow l) → Hid (Rets Try.prog 12 #[v] w (.bool false)) := fun w hr => by
    have := sets_any l n hn v w hr
    rw [hA] at this; exact this
  unfold Rets
  go_enter Try.func21, Try.ntmps21
  go_wp2_with (go_at_call 12; refine Rets.use (H _ (hr.ext isext)).out ?_; intro _)
  go_ret
  exact ⟨rfl, done⟩
set_option maxRecDepth 100000 in
set_option maxHeartbeats 8000000 in
theorem crowded_any (l : List Rule) (n : Nat) (hn : l.length = n) (hA : Rul.allB l = true) (v : Value) (w : World) (hr : Reads w v n (ruleRow l)) :
    Rets Try.prog 21 #[v] w (.bool (Rul.crowdB l)) := by
  have H : ∀ w, Reads w v n (ruleRow l) → Hid (Rets Try.prog 12 #[v] w (.bool true)) := fun w hr => by
    have := sets_any l n hn v w hr
    rw [hA] at this; exact this
  by_cases h0 : n = 0
  · obtain ⟨a9, c9, rfl⟩ := nil_shape hr h0
    obtain rfl := List.eq_nil_of_length_eq_zero (hn.trans h0)
    have E : Hid (Rul.crowdB [] = false) := rfl
    generalize Rul.crowdB [] = CB at *
    clear hn
    unfold Rets
    go_enter Try.func21, Try.ntmps21
    go_wp2_with (go_at_call 12; refine Rets.use (H _ (hr.ext isext)).out ?_; intro _)
    refine wp_loop_rounds 1 ?_
    simp only [rounds_succ]
    go_wp2
    go_ret
    exact ⟨by rw [E.out]; first | done | rfl, done⟩
  · have hr0 := hr
    rcases hr with ⟨_, _, rfl, h1, _⟩ | ⟨b, o, c, rfl, k1, k2, m1, hc⟩
    · exact absurd h1 h0
    haveI : InW b w := ⟨m1⟩
    have hl : n ≤ 9223372036854775807 := by unfold maxLen at k2; omega
    have HC := Lib.hid hc
    have Hn := Lib.hid hn
    have EN := fun h => Lib.hid (Rul.crowd_no (l := l) h)
    have EY := fun (i : Nat) (hi : i < l.length) h => Lib.hid (Rul.crowd_yes (l := l) hi h)
    generalize Rul.crowdB l = CB at *
    clear hc hn
    unfold Rets
    go_enter Try.func21, Try.ntmps21
    go_wp2_with (go_at_call 12; refine Rets.use (H _ (hr0.ext isext)).out ?_; intro _)
    go_loopw [13] (fun iv wr => ∃ j : Nat, j ≤ n ∧ iv = .int .i64 j ∧ Hid (∀ i (hi : i < l.length), i < j → Rul.cnt l l[i] ≤ 10) ∧ Ext w wr) (fun i _ => n - (intOf i).toNat)
    case atStart => exact ⟨0, by omega, rfl, fun i hi h => absurd h (Nat.not_lt_zero _), isext⟩
    case round =>
      obtain ⟨j, j2, rfl, Hj, hx⟩ := hrel
      obtain ⟨yr, rfl⟩ := fin hx
      clear hx
      by_cases hlt : j < n
      · have hj : j < l.length := by rw [Hn.out]; exact hlt
        obtain ⟨c0, c1, c2, c3, c4, c5, c6, c7, c8, c9, c10⟩ := rule_at HC.out j hj
        have HJ := fun (h : Rul.cnt l l[j] ≤ 10) => Lib.hid (show ∀ i (hi : i < l.length), i < j + 1 → Rul.cnt l l[i] ≤ 10 from fun i hi h' => by
          rcases Nat.lt_or_ge i j with h1 | h1
          · exact Hj.out i hi h1
          · obtain rfl : i = j := by omega
            exact h)
        have EYj := EY j hj
        obtain ⟨x, hx0⟩ : ∃ x, l[j] = x := ⟨_, rfl⟩
        rw [hx0] at c0 c1 c2 c3 c4 c5 c6 c7 c8 c9 c10 HJ EYj
        clear hx0 EY
        obtain ⟨nm, a, b', m, k, wd, d, t, r, s, lt⟩ := x
        simp only at c0 c1 c2 c3 c4 c5 c6 c7 c8 c9 c10
        go_wp2
        go_loopw [5, 19] (fun nv iv wr2 => ∃ q p : Nat, q ≤ n ∧ p ≤ q ∧ iv = .int .i64 q ∧ nv = .int .i64 p ∧ Hid (Rul.cnt (l.take q) ⟨nm, a, b', m, k, wd, d, t, r, s, lt⟩ = p) ∧ Ext (yr.x.alloc (.cells #[.string nm, .int .i64 a, .int .i64 b', .int .i64 m, .int .i64 k, .int .i64 wd, .int .i64 d, .int .i64 t, .int .i64 r, .int .i64 s, .string lt] 43)) wr2) (fun _ i _ => n - (intOf i).toNat)
        case atStart => exact ⟨0, 0, by omega, by omega, rfl, rfl, rfl, isext⟩
        case round =>
          obtain ⟨q, p, q2, p2, rfl, rfl, Hp, hx2⟩ := hrel
          obtain ⟨yq, rfl⟩ := fin hx2
          clear hx2
          by_cases hlq : q < n
          · have hq : q < l.length := by rw [Hn.out]; exact hlq
            obtain ⟨e0, e1, e2, e3, e4, e5, e6, e7, e8, e9, e10⟩ := rule_at HC.out q hq
            have hst := Lib.hid (Rul.cnt_step hq ⟨nm, a, b', m, k, wd, d, t, r, s, lt⟩)
            have hcs := count_cases ⟨nm, a, b', m, k, wd, d, t, r, s, lt⟩ l[q]
            have HF := fun w => Lib.hid (force_any l[q] a w)
            generalize hcb : Rul.countB ⟨nm, a, b', m, k, wd, d, t, r, s, lt⟩ l[q] = cb at *
            have hcs : (decide (a ≤ b') = false ∧ cb = false) ∨ (a ≤ b' ∧ Rul.inB l[q] a = cb) := hcs
            clear hcb
            generalize Rul.inB l[q] a = fb at *
            generalize l[q] = z at *
            obtain ⟨nm2, a2, b2, m2, k2, wd2, d2, t2, r2, s2, lt2⟩ := z
            simp only at e0 e1 e2 e3 e4 e5 e6 e7 e8 e9 e10
            have fin1 : cb = true → Hid (Rul.cnt (l.take (q + 1)) ⟨nm, a, b', m, k, wd, d, t, r, s, lt⟩ = p + 1) := fun h => by show _ = _; rw [hst.out, Hp.out, if_pos h]
            have fin0 : cb = false → Hid (Rul.cnt (l.take (q + 1)) ⟨nm, a, b', m, k, wd, d, t, r, s, lt⟩ = p) := fun h => by show _ = _; rw [hst.out, Hp.out, if_neg (by rw [h]; simp)]; rfl
            clear hst
            rcases hcs with ⟨h1, rfl⟩ | ⟨h1, rfl⟩
            · have E := fin0 rfl
              clear fin1 fin0
              go_wp2_with (go_at_call 42; refine Rets.use (HF _).out ?_; intro _)
              go_roundw
              case rel => exact ⟨q + 1, p, by omega, by omega, by go_num, rfl, E, isext⟩
              case measure => simp [intOf]; omega
            · cases fb
              · have E := fin0 rfl
                clear fin1 fin0
                go_wp2_with (go_at_call 42; refine Rets.use (HF _).out ?_; intro _)
                go_roundw
                case rel => exact ⟨q + 1, p, by omega, by omega, by go_num, rfl, E, isext⟩
                case measure => simp [intOf]; omega
              · have E := fin1 rfl
                clear fin1 fin0
                go_wp2_with (go_at_call 42; refine Rets.use (HF _).out ?_; intro _)
                go_roundw
                case rel => exact ⟨q + 1, p + 1, by omega, by omega, by go_num, by go_num, E, isext⟩
                case measure => simp [intOf]; omega
          · have E : Hid (Rul.cnt l ⟨nm, a, b', m, k, wd, d, t, r, s, lt⟩ = p) := by have := Hp.out; rwa [List.take_of_length_le (by rw [Hn.out]; omega)] at this
            by_cases h10 : (10 : Int) < p
            · have hy : Hid (CB = true) := EYj (by rw [E.out]; omega)
              clear EYj HJ
              go_wp2
              go_ret
              exact ⟨by rw [hy.out]; first | done | rfl, done⟩
            · have h10' : decide ((10 : Int) < p) = false := decide_eq_false h10
              have HJ2 := HJ (by rw [E.out]; omega)
              clear EYj HJ
              go_wp2
              go_roundw
              case rel => exact ⟨j + 1, by omega, by go_num, HJ2, isext⟩
              case measure => simp [intOf]; omega
      · have hne : Hid (CB = false) := EN (fun i hi => Hj.out i hi (by rw [Hn.out] at hi; omega))
        go_wp2
        go_ret
        exact ⟨by rw [hne.out]; first | done | rfl, done⟩
set_option maxRecDepth 100000 in
set_option maxHeartbeats 8000000 in
theorem most_any (l : List Rule) (n : Nat) (hn : l.length = n) (v : Value) (w : World) (hr : Reads w v n (ruleRow l)) :
    Rets Try.prog 20 #[v] w (.int .i64 (Rul.mostN l l : Nat)) := by
  by_cases h0 : n = 0
  · obtain ⟨a9, c9, rfl⟩ := nil_shape hr h0
    obtain rfl := List.eq_nil_of_length_eq_zero (hn.trans h0)
    clear hn hr
    unfold Rets
    go_enter Try.func20, Try.ntmps20
    go_wp2
    refine wp_loop_rounds 1 ?_
    simp only [rounds_succ]
    go_wp2
    go_ret
    exact ⟨rfl, done⟩
  · rcases hr with ⟨_, _, rfl, h1, _⟩ | ⟨b, o, c, rfl, k1, k2, m1, hc⟩
    · exact absurd h1 h0
    haveI : InW b w := ⟨m1⟩
    have hl : n ≤ 9223372036854775807 := by unfold maxLen at k2; omega
    have HC := Lib.hid hc
    have Hn := Lib.hid hn
    have HM : Hid (∀ r, Rul.mostN l r ≤ n) := fun r => by rw [← hn]; exact Rul.most_le l r 0 (Nat.zero_le _)
    have HE : Hid (Rul.mostN l l = Rul.mostN l l) := rfl
    clear hc hn
    obtain ⟨R, hR⟩ : ∃ R, Rul.mostN l l = R := ⟨_, rfl⟩
    rw [hR]
    have HR := Lib.hid hR
    clear hR HE
    unfold Rets
    go_enter Try.func20, Try.ntmps20
    go_wp2
    go_loopw [3, 4] (fun mv iv wr => ∃ j p : Nat, j ≤ n ∧ p ≤ n ∧ iv = .int .i64 j ∧ mv = .int .i64 p ∧ Hid (Rul.mostN l (l.take j) = p) ∧ Ext w wr) (fun _ i _ => n - (intOf i).toNat)
    case atStart => exact ⟨0, 0, by omega, by omega, rfl, rfl, rfl, isext⟩
    case round =>
      obtain ⟨j, pm, j2, pm2, rfl, rfl, Hpm, hx⟩ := hrel
      obtain ⟨yr, rfl⟩ := fin hx
      clear hx
      by_cases hlt : j < n
      · have hj : j < l.length := by rw [Hn.out]; exact hlt
        obtain ⟨c0, c1, c2, c3, c4, c5, c6, c7, c8, c9, c10⟩ := rule_at HC.out j hj
        have hst := Lib.hid (Rul.most_step (l := l) hj)
        have hml := HM.out (l.take (j + 1))
        have hcl := Rul.cnt_le l l[j]
        rw [Hn.out] at hcl
        obtain ⟨x, hx0⟩ : ∃ x, l[j] = x := ⟨_, rfl⟩
        rw [hx0] at c0 c1 c2 c3 c4 c5 c6 c7 c8 c9 c10 hst hcl
        clear hx0 c0 c3 c4 c5 c6 c7 c8 c9 c10
        go_wp2
        go_loopw [5, 6] (fun nv iv wr2 => ∃ q p : Nat, q ≤ n ∧ p ≤ q ∧ iv = .int .i64 q ∧ nv = .int .i64 p ∧ Hid (Rul.cnt (l.take q) x = p) ∧ Ext yr.x wr2) (fun _ i _ => n - (intOf i).toNat)
        case atStart => exact ⟨0, 0, by omega, by omega, rfl, rfl, rfl, isext⟩
        case round =>
          obtain ⟨q, p, q2, p2, rfl, rfl, Hp, hx2⟩ := hrel
          obtain ⟨yq, rfl⟩ := fin hx2
          clear hx2
          by_cases hlq : q < n
          · have hq : q < l.length := by rw [Hn.out]; exact hlq
            obtain ⟨e0, e1, e2, e3, e4, e5, e6, e7, e8, e9, e10⟩ := rule_at HC.out q hq
            have hcst := Lib.hid (Rul.cnt_step hq x)
            have hcs := rcount_cases x l[q]
            generalize Rul.countB x l[q] = cb at *
            generalize l[q] = z at *
            clear e0 e3 e4 e5 e6 e7 e8 e9 e10
            obtain ⟨nm, a, b', m, k, wd, d, t, r, s, lt⟩ := x
            obtain ⟨nm2, a2, b2, m2, kk2, wd2, d2, t2, r2, s2, lt2⟩ := z
            simp only at e1 e2 c1 c2 hcs
            have fin1 : cb = true → Hid (Rul.cnt (l.take (q + 1)) ⟨nm, a, b', m, k, wd, d, t, r, s, lt⟩ = p + 1) := fun h => by show _ = _; rw [hcst.out, Hp.out, if_pos h]
            have fin0 : cb = false → Hid (Rul.cnt (l.take (q + 1)) ⟨nm, a, b', m, k, wd, d, t, r, s, lt⟩ = p) := fun h => by show _ = _; rw [hcst.out, Hp.out, if_neg (by rw [h]; simp)]; rfl
            clear hcst
            rcases hcs with ⟨h1, rfl⟩ | ⟨h1, h2, rfl⟩ | ⟨h1, h2, h3, rfl⟩ | ⟨h1, h2, h3, rfl⟩
            all_goals
              first | have E := fin0 rfl | have E := fin1 rfl
              clear fin1 fin0
              go_wp2_with fail
              refine wp_region_past1 (by kernel_rfl) (by kernel_rfl) ?_
              repeat (go_big_quiet_step (fail))
              refine wpQuiet_nil ?_
              intro z
              go_wp2
              go_roundw
              case rel => first | exact ⟨q + 1, p, by omega, by omega, by go_num, rfl, E, isext⟩ | exact ⟨q + 1, p + 1, by omega, by omega, by go_num, by go_num, E, isext⟩
              case measure => simp [intOf]; omega
          · have E : Hid (Rul.cnt l x = p) := by have := Hp.out; rwa [List.take_of_length_le (by rw [Hn.out]; omega)] at this
            have hp3 : p ≤ n := by rw [← E.out]; exact hcl
            clear hcl hml
            by_cases hgt : pm < p
            · have hgt' : (pm : Int) < p := by omega
              have E2 : Hid (Rul.mostN l (l.take (j + 1)) = p) := by show _ = _; rw [hst.out, Hpm.out, E.out]; omega
              clear hst
              go_wp2
              go_roundw
              case rel => exact ⟨j + 1, p, by omega, by omega, by go_num, rfl, E2, isext⟩
              case measure => simp [intOf]; omega
            · have hgt' : decide ((pm : Int) < p) = false := decide_eq_false (by omega)
              have E2 : Hid (Rul.mostN l (l.take (j + 1)) = pm) := by show _ = _; rw [hst.out, Hpm.out, E.out]; omega
              clear hst
              go_wp2
              go_roundw
              case rel => exact ⟨j + 1, pm, by omega, by omega, by go_num, rfl, E2, isext⟩
              case measure => simp [intOf]; omega
      · have E : Hid (R = pm) := by have := Hpm.out; rw [List.take_of_length_le (by rw [Hn.out]; omega)] at this; exact HR.out.symm.trans this
        go_wp2
        go_ret
        exact ⟨by rw [E.out]; first | done | rfl, done⟩
end Go.Proofs.Ytodcgalcpnckaaa
