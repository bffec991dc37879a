/- Walks of rules: the law of steps. -/
import Derived.Test.YtodcgalcpnckaaaRulLawC
import Derived.Test.YtodcgalcpnckaaaRulWalkW
import Derived.Test.YtodcgalcpnckaaaAppend
set_option linter.unusedVariables false
set_option linter.unusedSimpArgs false
namespace Go.Proofs.Ytodcgalcpnckaaa
open Go.RowKit Go.Sort Go.Shelf

theorem turns_r {l : List Rule} (hA : Rul.allB l = true) {y : Int} {t : Turn} (ht : t ∈ Rul.turnsG l y) : ∃ (i : Nat) (hi : i < l.length), Rul.turnB l[i] y = true ∧ t = Rul.turnOf l[i] y ∧ 0 ≤ t.r ∧ t.r ≤ 2 ∧ -9000000000000 ≤ t.at' ∧ t.at' ≤ 9000000000000 := by
  have h : t ∈ Rul.turnL l y := (Rul.sortT_perm _).mem_iff.1 ht
  unfold Rul.turnL at h
  obtain ⟨x, hx, he⟩ := List.mem_filterMap.1 h
  split at he
  · rename_i hb
    injection he with he
    subst he
    obtain ⟨i, hi, rfl⟩ := List.getElem_of_mem hx
    have h1 := turn_bd (Rul.all_mem hA hx) hb
    obtain ⟨-, -, -, -, -, r1, r2⟩ := rule_parts (Rul.all_mem hA hx)
    exact ⟨i, hi, hb, rfl, r1, r2, h1.1, h1.2.1⟩
  · cases he
theorem turn_mem {l : List Rule} {i : Nat} (hi : i < l.length) {y : Int} (hb : Rul.turnB l[i] y = true) : Rul.turnOf l[i] y ∈ Rul.turnsG l y := by
  refine (Rul.sortT_perm _).mem_iff.2 ?_
  unfold Rul.turnL
  exact List.mem_filterMap.2 ⟨l[i], List.getElem_mem hi, by rw [if_pos hb]⟩
theorem bytes_same {a b : ByteArray} (h : a.toList = b.toList) : a = b := by
  rw [Lib.toList_data, Lib.toList_data] at h
  obtain ⟨⟨a⟩⟩ := a
  obtain ⟨⟨b⟩⟩ := b
  simp at h
  subst h; rfl
/-- Two texts are the same or not, in both spellings of the walk. -/
theorem str_cases (a b : ByteArray) : ((a == b) = true ∧ (a.toList == b.toList) = true ∧ a = b) ∨ ((a == b) = false ∧ (a.toList == b.toList) = false ∧ a ≠ b) := by
  by_cases h : a.toList = b.toList
  · exact .inl ⟨by rw [beq_toListBytes]; exact beq_iff_eq.2 h, beq_iff_eq.2 h, bytes_same h⟩
  · exact .inr ⟨by rw [beq_toListBytes]; exact beq_eq_false_iff_ne.2 h, beq_eq_false_iff_ne.2 h, fun e => h (by rw [e])⟩
theorem hit_cases (e T s1 ts : Int) (l1 tl : ByteArray) : ((e == T) = false ∧ ¬ (e = T ∧ ts = s1 ∧ tl = l1)) ∨ ((e == T) = true ∧ (s1 == ts) = false ∧ ¬ (e = T ∧ ts = s1 ∧ tl = l1)) ∨ ((e == T) = true ∧ (s1 == ts) = true ∧ ((l1 == tl) = false ∧ (l1.toList == tl.toList) = false) ∧ ¬ (e = T ∧ ts = s1 ∧ tl = l1)) ∨ ((e == T) = true ∧ (s1 == ts) = true ∧ (l1 == tl) = true ∧ (l1.toList == tl.toList) = true) := by
  by_cases h1 : e = T
  · by_cases h2 : s1 = ts
    · rcases str_cases l1 tl with ⟨a, b, c⟩ | ⟨a, b, c⟩
      · exact .inr (.inr (.inr ⟨beq_iff_eq.2 h1, beq_iff_eq.2 h2, a, b⟩))
      · exact .inr (.inr (.inl ⟨beq_iff_eq.2 h1, beq_iff_eq.2 h2, ⟨a, b⟩, fun h => c h.2.2.symm⟩))
    · exact .inr (.inl ⟨beq_iff_eq.2 h1, beq_eq_false_iff_ne.2 h2, fun h => h2 h.2.1.symm⟩)
  · exact .inl ⟨beq_eq_false_iff_ne.2 h1, fun h => h1 h.1⟩
theorem same_cases (s1 s0 : Int) (l1 l0 : ByteArray) : ((s1 == s0) = false) ∨ ((s1 == s0) = true ∧ (l1 == l0) = false ∧ (l1.toList == l0.toList) = false) ∨ (s1 = s0 ∧ l1 = l0) := by
  by_cases h1 : s1 = s0
  · rcases str_cases l1 l0 with ⟨a, b, c⟩ | ⟨a, b, c⟩
    · exact .inr (.inr ⟨h1, c⟩)
    · exact .inr (.inl ⟨beq_iff_eq.2 h1, a, b⟩)
  · exact .inl (beq_eq_false_iff_ne.2 h1)
set_option maxRecDepth 100000 in
set_option maxHeartbeats 4000000 in
theorem steps_out (l : List Rule) (n : Nat) (hmax : (n : Int) ≤ 9223372036854775807) (a8 : Option Addr) (c8 : Nat) (off T : Int) (w : World)
    (hc : (12 < n) ∨ (¬ 12 < n ∧ T < -8640000000000) ∨ (¬ 12 < n ∧ ¬ T < -8640000000000 ∧ 8640000000000 < T) ∨ (¬ 12 < n ∧ ¬ T < -8640000000000 ∧ ¬ 8640000000000 < T ∧ off ≤ -86400) ∨ (¬ 12 < n ∧ ¬ T < -8640000000000 ∧ ¬ 8640000000000 < T ∧ ¬ off ≤ -86400 ∧ 86400 ≤ off)) :
    Rets Try.prog 6 #[.slice a8 n c8, .int .i64 off, .int .i64 T] w (.bool true) := by
  have HL := fun w => Lib.hid (ralive_any w)
  unfold Rets
  rcases hc with h1 | ⟨h1, h2⟩ | ⟨h1, h2, h3⟩ | ⟨h1, h2, h3, h4⟩ | ⟨h1, h2, h3, h4, h5⟩
  · have g1 : (12 : Int) < n := by omega
    go_enter Try.func6, Try.ntmps6
    go_wp2_with (go_at_call 9; refine Rets.use (HL _).out ?_; intro _)
    go_ret
    exact ⟨rfl, done⟩
  · have g1 : decide ((12 : Int) < n) = false := decide_eq_false (by omega)
    go_enter Try.func6, Try.ntmps6
    go_wp2_with (go_at_call 9; refine Rets.use (HL _).out ?_; intro _)
    go_ret
    exact ⟨rfl, done⟩
  · have g1 : decide ((12 : Int) < n) = false := decide_eq_false (by omega)
    have g2 : decide (T < -8640000000000) = false := decide_eq_false h2
    go_enter Try.func6, Try.ntmps6
    go_wp2_with (go_at_call 9; refine Rets.use (HL _).out ?_; intro _)
    go_ret
    exact ⟨rfl, done⟩
  · have g1 : decide ((12 : Int) < n) = false := decide_eq_false (by omega)
    have g2 : decide (T < -8640000000000) = false := decide_eq_false h2
    have g3 : decide (8640000000000 < T) = false := decide_eq_false h3
    go_enter Try.func6, Try.ntmps6
    go_wp2_with (go_at_call 9; refine Rets.use (HL _).out ?_; intro _)
    go_ret
    exact ⟨rfl, done⟩
  · have g1 : decide ((12 : Int) < n) = false := decide_eq_false (by omega)
    have g2 : decide (T < -8640000000000) = false := decide_eq_false h2
    have g3 : decide (8640000000000 < T) = false := decide_eq_false h3
    have g4 : decide (off ≤ -86400) = false := decide_eq_false h4
    go_enter Try.func6, Try.ntmps6
    go_wp2_with (go_at_call 9; refine Rets.use (HL _).out ?_; intro _)
    go_ret
    exact ⟨rfl, done⟩
set_option maxRecDepth 100000 in
set_option maxHeartbeats 4000000 in
theorem steps_same (l : List Rule) (n : Nat) (h12 : n ≤ 12) (a8 : Option Addr) (c8 : Nat) (off T s0 : Int) (l0 : ByteArray) (t1 : -8640000000000 ≤ T) (t2 : T ≤ 8640000000000) (o1 : -86400 < off) (o2 : off < 86400) (w : World) (hr : Reads w (.slice a8 n c8) n (ruleRow l))
    (HF1 : ∀ w, Reads w (.slice a8 n c8) n (ruleRow l) → Hid (Rets Try.prog 17 #[.slice a8 n c8, .int .i64 off, .int .i64 T] w (.tuple #[.int .i64 s0, .string l0])))
    (HF0 : ∀ w, Reads w (.slice a8 n c8) n (ruleRow l) → Hid (Rets Try.prog 17 #[.slice a8 n c8, .int .i64 off, .int .i64 (T - 1)] w (.tuple #[.int .i64 s0, .string l0]))) :
    Rets Try.prog 6 #[.slice a8 n c8, .int .i64 off, .int .i64 T] w (.bool true) := by
  have HL := fun w => Lib.hid (ralive_any w)
  have g1 : decide ((12 : Int) < n) = false := decide_eq_false (by omega)
  have g2 : decide (T < -8640000000000) = false := decide_eq_false (by omega)
  have g3 : decide (8640000000000 < T) = false := decide_eq_false (by omega)
  have g4 : decide (off ≤ -86400) = false := decide_eq_false (by omega)
  have g5 : decide (86400 ≤ off) = false := decide_eq_false (by omega)
  unfold Rets
  go_enter Try.func6, Try.ntmps6
  go_wp2_with fail
  go_at_call 17
  refine Rets.use (HF1 _ (hr.ext isext)).out ?_
  intro z1
  go_wp2_with fail
  go_at_call 17
  refine Rets.use (HF0 _ (hr.ext isext)).out ?_
  intro z2
  go_wp2_with (go_at_call 9; refine Rets.use (HL _).out ?_; intro _)
  go_ret
  exact ⟨rfl, done⟩
set_option maxRecDepth 100000 in
set_option maxHeartbeats 8000000 in
theorem steps_hit (l : List Rule) (n : Nat) (hn : l.length = n) (h12 : n ≤ 12) (hA : Rul.allB l = true) (a8 : Option Addr) (c8 : Nat) (off T s1 s0 : Int) (l1 l0 : ByteArray) (t1 : -8640000000000 ≤ T) (t2 : T ≤ 8640000000000) (o1 : -86400 < off) (o2 : off < 86400) (w : World) (hr : Reads w (.slice a8 n c8) n (ruleRow l))
    (HF1 : ∀ w, Reads w (.slice a8 n c8) n (ruleRow l) → Hid (Rets Try.prog 17 #[.slice a8 n c8, .int .i64 off, .int .i64 T] w (.tuple #[.int .i64 s1, .string l1])))
    (HF0 : ∀ w, Reads w (.slice a8 n c8) n (ruleRow l) → Hid (Rets Try.prog 17 #[.slice a8 n c8, .int .i64 off, .int .i64 (T - 1)] w (.tuple #[.int .i64 s0, .string l0])))
    (hne : ((s1 == s0) = false) ∨ ((s1 == s0) = true ∧ (l1 == l0) = false ∧ (l1.toList == l0.toList) = false))
    (hex : Hid (∃ y, Rul.yearD T - 2 ≤ y ∧ y ≤ Rul.yearD T + 2 ∧ ∃ t ∈ Rul.turnsG l y, Rul.uniD l off t = T ∧ t.s = s1 ∧ t.l = l1)) :
    Rets Try.prog 6 #[.slice a8 n c8, .int .i64 off, .int .i64 T] w (.bool true) := by
  have HL := fun w => Lib.hid (ralive_any w)
  have HY := fun w => Lib.hid (yeard_any T (by omega) (by omega) w)
  obtain ⟨y1, y2⟩ := yearD_bd T
  have HTu := fun y w hr => Lib.hid (turns_any l n hn (by omega) hA y (by have := Rul.turnL_le l y; omega) (.slice a8 n c8) w hr)
  have HAh := fun t h1 h2 w hr => Lib.hid (ahead_all l n hn t h1 h2 (.slice a8 n c8) w hr)
  have HAe : ∀ t, aheadAll l t = Rul.aheadD l t := fun t => by unfold aheadAll; rw [if_pos hA]
  have HAs := fun t => ahead_s hA t
  have HR := fun {y : Int} {t : Turn} (ht : t ∈ Rul.turnsG l y) => Lib.hid (turns_r hA ht)
  have g1 : decide ((12 : Int) < n) = false := decide_eq_false (by omega)
  have g2 : decide (T < -8640000000000) = false := decide_eq_false (by omega)
  have g3 : decide (8640000000000 < T) = false := decide_eq_false (by omega)
  have g4 : decide (off ≤ -86400) = false := decide_eq_false (by omega)
  have g5 : decide (86400 ≤ off) = false := decide_eq_false (by omega)
  generalize Rul.yearD T = Y at *
  clear hn hA
  have hmaxm : ∀ k, (Rul.turnsG l k).length ≤ 1000 ∨ True := fun k => .inr trivial
  clear hmaxm
  unfold Rets
  rcases hne with e1 | ⟨e1, e2, e3⟩
  all_goals
    go_enter Try.func6, Try.ntmps6
    go_wp2_with fail
    go_at_call 17
    refine Rets.use (HF1 _ (hr.ext isext)).out ?_
    intro z1
    go_wp2_with fail
    go_at_call 17
    refine Rets.use (HF0 _ (hr.ext isext)).out ?_
    intro z2
    go_wp2_with (go_at_call 19; refine Rets.use (HY _).out ?_; intro _)
    go_loopw [12] (fun kv wr => ∃ k : Int, kv = .int .i64 k ∧ Y - 2 ≤ k ∧ k ≤ Y + 3 ∧ Hid (∀ k', Y - 2 ≤ k' → k' < k → ∀ t ∈ Rul.turnsG l k', ¬ (Rul.uniD l off t = T ∧ t.s = s1 ∧ t.l = l1)) ∧ Ext w wr) (fun kv _ => (Y + 3 - intOf kv).toNat)
    case atStart => exact ⟨Y - 2, rfl, by omega, by omega, fun k' h1 h2 => absurd h2 (by omega), isext⟩
    case round =>
      obtain ⟨k, rfl, k1, k2, Hk, hx⟩ := hrel
      obtain ⟨yr, rfl⟩ := fin hx
      clear hx
      by_cases hlast : k ≤ Y + 2
      · have HTk := HTu k
        have HRk := fun {t : Turn} (ht : t ∈ Rul.turnsG l k) => HR ht
        have HK1 : (∀ t ∈ Rul.turnsG l k, ¬ (Rul.uniD l off t = T ∧ t.s = s1 ∧ t.l = l1)) → Hid (∀ k', Y - 2 ≤ k' → k' < k + 1 → ∀ t ∈ Rul.turnsG l k', ¬ (Rul.uniD l off t = T ∧ t.s = s1 ∧ t.l = l1)) := fun h k' h1 h2 => by
          rcases Int.lt_or_le k' k with h3 | h3
          · exact Hk.out k' h1 h3
          · obtain rfl : k' = k := by omega
            exact h
        generalize Rul.turnsG l k = G at *
        clear HTu HR
        go_wp2_with (go_at_call 10; refine ((HTk _ (hr.ext isext)).out).mono ?_; rintro _ _ ⟨v1, z3, rfl, hv1, rfl⟩; obtain ⟨a1, c1, rfl⟩ := reads_shape hv1)
        obtain ⟨m, hm⟩ : ∃ m, Hid (G.length = m) := ⟨_, rfl⟩
        rw [hm.out] at hv1
        rw [hm.out]
        have hmx : (m : Int) ≤ 9223372036854775807 := by
          rcases hv1 with ⟨_, _, _, h, _⟩ | ⟨_, _, _, _, q1, q2, _⟩
          · omega
          · unfold maxLen at q2; omega
        have HV1 := Lib.hid hv1
        clear hv1
        go_loopw [14] (fun iv wr2 => ∃ i : Nat, i ≤ m ∧ iv = .int .i64 i ∧ Hid (∀ i' (hi' : i' < G.length), i' < i → ¬ (Rul.uniD l off G[i'] = T ∧ G[i'].s = s1 ∧ G[i'].l = l1)) ∧ Ext z3.x wr2) (fun iv _ => m - (intOf iv).toNat)
        case atStart => exact ⟨0, by omega, rfl, fun i' hi' h => absurd h (Nat.not_lt_zero _), isext⟩
        case round =>
          obtain ⟨i, i2, rfl, Hi, hx2⟩ := hrel
          obtain ⟨yi, rfl⟩ := fin hx2
          clear hx2
          by_cases hli : i < m
          · have hil : i < G.length := by rw [hm.out]; exact hli
            rcases HV1.out with ⟨_, _, _, h, _⟩ | ⟨b1, o1', c2, e9, q1, q2, q3, hc1⟩
            · exact absurd h (by omega)
            injection e9 with e9 e8 e7
            subst e9
            clear e8 e7
            haveI : InW b1 z3.x := ⟨q3⟩
            obtain ⟨p0, p1, p2, p3⟩ := turn_at hc1 i hil
            clear hc1
            obtain ⟨-, -, -, -, r1, r2, q5, q6⟩ := (HRk (List.getElem_mem hil)).out
            have HI1 : ¬ (Rul.uniD l off G[i] = T ∧ G[i].s = s1 ∧ G[i].l = l1) → Hid (∀ i' (hi' : i' < G.length), i' < i + 1 → ¬ (Rul.uniD l off G[i'] = T ∧ G[i'].s = s1 ∧ G[i'].l = l1)) := fun h i' hi' h' => by
              rcases Nat.lt_or_ge i' i with h3 | h3
              · exact Hi.out i' hi' h3
              · obtain rfl : i' = i := by omega
                exact h
            generalize G[i] = t at *
            obtain ⟨ta, tr, ts, tl⟩ := t
            simp only at p0 p1 p2 p3 r1 r2 q5 q6 HI1
            clear HK1 HTk HRk
            have hAx := HAs ta
            have HAt := HAh ta (by omega) (by omega)
            rw [HAe ta] at HAt
            have hU0 : Rul.uniD l off ⟨ta, 0, ts, tl⟩ = ta - off - (Rul.orNo (Rul.aheadD l ta)).s := by unfold Rul.uniD; rfl
            have hU1 : Rul.uniD l off ⟨ta, 1, ts, tl⟩ = ta - off := by unfold Rul.uniD; rfl
            have hU2 : Rul.uniD l off ⟨ta, 2, ts, tl⟩ = ta := by unfold Rul.uniD; rfl
            generalize (Rul.aheadD l ta).isSome = fb at *
            generalize Rul.orNo (Rul.aheadD l ta) = bb at *
            obtain ⟨ba, br, bs, bl⟩ := bb
            simp only at hAx hU0
            clear HAh HAe HAs
            have hr3 : tr = 0 ∨ tr = 1 ∨ tr = 2 := by omega
            clear r1 r2
            rcases hr3 with rfl | rfl | rfl
            · rw [hU0] at HI1
              clear hU0 hU1 hU2
              have x1 : IntKind.i64.wrap (ta - off) = ta - off := by rw [IntKind.wrap_i64]; omega
              have x2 : IntKind.i64.wrap (ta - off - bs) = ta - off - bs := by rw [IntKind.wrap_i64]; omega
              rcases hit_cases (ta - off - bs) T s1 ts l1 tl with ⟨d1, d9⟩ | ⟨d1, d2, d9⟩ | ⟨d1, d2, ⟨d3, d4⟩, d9⟩ | ⟨d1, d2, d3, d4⟩
              all_goals
                go_wp2_with (first | (go_at_call 9; refine Rets.use (HL _).out ?_; intro _) | (go_at_call 15; refine Rets.use (HAt _ (hr.ext isext)).out ?_; intro _))
                clear x1 x2
                first
                | (go_ret; exact ⟨rfl, done⟩)
                | (go_roundw
                   case rel => exact ⟨i + 1, by omega, by go_num, HI1 d9, isext⟩
                   case measure => simp [intOf]; omega)
            · rw [hU1] at HI1
              clear hU0 hU1 hU2
              have x1 : IntKind.i64.wrap (ta - off) = ta - off := by rw [IntKind.wrap_i64]; omega
              rcases hit_cases (ta - off) T s1 ts l1 tl with ⟨d1, d9⟩ | ⟨d1, d2, d9⟩ | ⟨d1, d2, ⟨d3, d4⟩, d9⟩ | ⟨d1, d2, d3, d4⟩
              all_goals
                go_wp2_with (go_at_call 9; refine Rets.use (HL _).out ?_; intro _)
                clear x1
                first
                | (go_ret; exact ⟨rfl, done⟩)
                | (go_roundw
                   case rel => exact ⟨i + 1, by omega, by go_num, HI1 d9, isext⟩
                   case measure => simp [intOf]; omega)
            · rw [hU2] at HI1
              clear hU0 hU1 hU2
              rcases hit_cases ta T s1 ts l1 tl with ⟨d1, d9⟩ | ⟨d1, d2, d9⟩ | ⟨d1, d2, ⟨d3, d4⟩, d9⟩ | ⟨d1, d2, d3, d4⟩
              all_goals
                go_wp2_with (go_at_call 9; refine Rets.use (HL _).out ?_; intro _)
                first
                | (go_ret; exact ⟨rfl, done⟩)
                | (go_roundw
                   case rel => exact ⟨i + 1, by omega, by go_num, HI1 d9, isext⟩
                   case measure => simp [intOf]; omega)
          · have HK2 := HK1 (fun t ht => by
              obtain ⟨i', hi', rfl⟩ := List.getElem_of_mem ht
              exact Hi.out i' hi' (by have := hm.out; omega))
            clear HK1 HTk HRk
            go_wp2
            go_roundw
            case rel => exact ⟨k + 1, rfl, by omega, by omega, HK2, isext⟩
            case measure => simp [intOf]; omega
      · exfalso
        obtain ⟨y, z1, z2, t, ht, h1, h2, h3⟩ := hex.out
        exact Hk.out y z1 (by omega) t ht ⟨h1, h2, h3⟩
theorem stepslaw_any (l : List Rule) (n : Nat) (hn : l.length = n) (v : Value) (off T : Int) (w : World) (hr : Reads w v n (ruleRow l)) :
    Rets Try.prog 6 #[v, .int .i64 off, .int .i64 T] w (.bool true) := by
  have hmax : (n : Int) ≤ 9223372036854775807 := by
    rcases hr with ⟨_, _, _, h, _⟩ | ⟨_, _, _, _, k1, k2, _⟩
    · omega
    · unfold maxLen at k2; omega
  obtain ⟨a8, c8, rfl⟩ := reads_shape hr
  by_cases h1 : 12 < n
  · exact steps_out l n hmax a8 c8 off T w (.inl h1)
  by_cases h2 : T < -8640000000000
  · exact steps_out l n hmax a8 c8 off T w (.inr (.inl ⟨h1, h2⟩))
  by_cases h3 : 8640000000000 < T
  · exact steps_out l n hmax a8 c8 off T w (.inr (.inr (.inl ⟨h1, h2, h3⟩)))
  by_cases h4 : off ≤ -86400
  · exact steps_out l n hmax a8 c8 off T w (.inr (.inr (.inr (.inl ⟨h1, h2, h3, h4⟩))))
  by_cases h5 : 86400 ≤ off
  · exact steps_out l n hmax a8 c8 off T w (.inr (.inr (.inr (.inr ⟨h1, h2, h3, h4, h5⟩))))
  have HF1 := fun w hr => Lib.hid (force_all l n hn off T (by omega) (by omega) (.slice a8 n c8) w hr)
  have HF0 := fun w hr => Lib.hid (force_all l n hn off (T - 1) (by omega) (by omega) (.slice a8 n c8) w hr)
  rcases same_cases (forceAll l off T).s (forceAll l off (T - 1)).s (forceAll l off T).l (forceAll l off (T - 1)).l with hne | hne | ⟨e1, e2⟩
  rotate_left 2
  · rw [e1, e2] at HF1
    exact steps_same l n (by omega) a8 c8 off T _ _ (by omega) (by omega) (by omega) (by omega) w hr HF1 HF0
  all_goals
    have hA : Rul.allB l = true := by
      cases hA : Rul.allB l
      · exfalso
        have e : ∀ T, forceAll l off T = Rul.noTurn := fun T => by unfold forceAll; rw [if_neg (by rw [hA]; simp)]
        rw [e, e] at hne
        simp at hne
      · rfl
    have eF : ∀ T, forceAll l off T = Rul.forceD l off T := fun T => by unfold forceAll; rw [if_pos ⟨hA, by omega, by omega⟩]
    have hex : ∃ y, Rul.yearD T - 2 ≤ y ∧ y ≤ Rul.yearD T + 2 ∧ ∃ t ∈ Rul.turnsG l y, Rul.uniD l off t = T ∧ t.s = (forceAll l off T).s ∧ t.l = (forceAll l off T).l := by
      rcases Rul.force_steps hA (off := off) (by omega) (by omega) T with h | ⟨x, hx, y, b1, b2, b3, b4, b5⟩
      · exfalso
        rw [eF, eF, h] at hne
        simp at hne
      · obtain ⟨i, hi, rfl⟩ := List.getElem_of_mem hx
        exact ⟨y, b4, b5, _, turn_mem hi b1, b2, by rw [eF, b3], by rw [eF, b3]⟩
    exact steps_hit l n hn (by omega) hA a8 c8 off T _ _ _ _ (by omega) (by omega) (by omega) (by omega) w hr HF1 HF0 (by first | exact .inl hne | exact .inr hne) hex
end Go.Proofs.Ytodcgalcpnckaaa
