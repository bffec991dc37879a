/- Walks of rules: the law of what turns tell, the main way. -/
import Derived.Test.YtodcgalcpnckaaaRulWalkZE
set_option linter.unusedVariables false
set_option linter.unusedSimpArgs false
namespace Go.Proofs.Ytodcgalcpnckaaa
open Go.RowKit Go.Sort Go.Shelf

/-- How a turn stands to the one that is asked. -/
theorem apart_cases (u x : Turn) (i y : Int) (j K : Nat) : (decide (u.at' - x.at' < 172800) = false ∧ apart u x) ∨ (u.at' - x.at' < 172800 ∧ decide (-172800 < u.at' - x.at') = false ∧ apart u x) ∨
    (u.at' - x.at' < 172800 ∧ -172800 < u.at' - x.at' ∧ (i == y) = false ∧ (i != y) = true) ∨ (u.at' - x.at' < 172800 ∧ -172800 < u.at' - x.at' ∧ i = y ∧ ((j : Int) == (K : Int)) = false ∧ ((j : Int) != (K : Int)) = true) ∨
    (u.at' - x.at' < 172800 ∧ -172800 < u.at' - x.at' ∧ i = y ∧ j = K) := by
  unfold apart
  by_cases h1 : u.at' - x.at' < 172800
  · by_cases h2 : -172800 < u.at' - x.at'
    · by_cases h3 : i = y
      · by_cases h4 : j = K
        · exact .inr (.inr (.inr (.inr ⟨h1, h2, h3, h4⟩)))
        · have h5 : ((j : Int) == (K : Int)) = false := beq_eq_false_iff_ne.2 (by omega)
          exact .inr (.inr (.inr (.inl ⟨h1, h2, h3, h5, by unfold bne; rw [h5]; rfl⟩)))
      · have h5 : (i == y) = false := beq_eq_false_iff_ne.2 h3
        exact .inr (.inr (.inl ⟨h1, h2, h5, by unfold bne; rw [h5]; rfl⟩))
    · exact .inr (.inl ⟨h1, decide_eq_false h2, by omega⟩)
  · exact .inl ⟨decide_eq_false h1, by omega⟩
set_option maxRecDepth 100000 in
set_option maxHeartbeats 16000000 in
theorem tells_main (l : List Rule) (n : Nat) (hn : l.length = n) (h12 : n ≤ 12) (hA : Rul.allB l = true) (a8 : Option Addr) (c8 : Nat) (off y wh : Int) (y1 : 1 ≤ y) (y2 : y ≤ 12000) (o1 : -86400 < off) (o2 : off < 86400) (w : World) (hr : Reads w (.slice a8 n c8) n (ruleRow l))
    (m K : Nat) (hm : (Rul.turnsG l y).length = m) (hK : K < m) (hq : (wh.tmod (m : Int) = (K : Int)) ∨ ∃ q : Int, wh.tmod (m : Int) = q ∧ q < 0 ∧ q + (m : Int) = (K : Int)) :
    Rets Try.prog 7 #[.slice a8 n c8, .int .i64 off, .int .i64 y, .int .i64 wh] w (.bool true) := by
  have HL := fun w => Lib.hid (ralive_any w)
  have HTu := fun y w hr => Lib.hid (turns_any l n hn (by omega) hA y (by have := Rul.turnL_le l y; omega) (.slice a8 n c8) w hr)
  have HR := fun {y : Int} {t : Turn} (ht : t ∈ Rul.turnsG l y) => Lib.hid (turns_r hA ht)
  have hmK : K < (Rul.turnsG l y).length := by omega
  have HF := fun T h1 h2 w hr => Lib.hid (force_all l n hn off T h1 h2 (.slice a8 n c8) w hr)
  have HFe : ∀ T, forceAll l off T = Rul.forceD l off T := fun T => by unfold forceAll; rw [if_pos ⟨hA, o1, o2⟩]
  have HTe := fun (hfar : ∀ z, y - 1 ≤ z → z ≤ y + 1 → ∀ (p : Nat) (hp : p < (Rul.turnsG l z).length), (z ≠ y ∨ p ≠ K) → apart (Rul.turnsG l z)[p] (Rul.turnsG l y)[K]) (T : Int) t1 t2 => Lib.hid (tells_plain hA o1 o2 hmK hfar (T := T) t1 t2)
  obtain ⟨-, -, -, -, r1, r2, q5, q6⟩ := (HR (List.getElem_mem hmK)).out
  obtain ⟨X, hX⟩ : ∃ X, (Rul.turnsG l y)[K] = X := ⟨_, rfl⟩
  have hmx : (m : Int) ≤ 1000 := by have := Rul.turnL_le l y; have := Rul.turnsG_length l y; omega
  have HX := Lib.hid hX
  have Hm := Lib.hid hm
  rw [hX] at HTe r1 r2 q5 q6
  obtain ⟨xa, xr, xs, xl⟩ := X
  simp only at r1 r2 q5 q6
  have HAt := fun w hr => Lib.hid (ahead_all l n hn xa (by omega) (by omega) (.slice a8 n c8) w hr)
  have HAe : aheadAll l xa = Rul.aheadD l xa := by unfold aheadAll; rw [if_pos hA]
  rw [HAe] at HAt
  have hAx := ahead_s hA xa
  have hU0 : Rul.uniD l off ⟨xa, 0, xs, xl⟩ = xa - off - (Rul.orNo (Rul.aheadD l xa)).s := by unfold Rul.uniD; rfl
  have hU1 : Rul.uniD l off ⟨xa, 1, xs, xl⟩ = xa - off := by unfold Rul.uniD; rfl
  have hU2 : Rul.uniD l off ⟨xa, 2, xs, xl⟩ = xa := by unfold Rul.uniD; rfl
  generalize (Rul.aheadD l xa).isSome = fb at *
  generalize Rul.orNo (Rul.aheadD l xa) = bb at *
  obtain ⟨ba, br, bs, bl⟩ := bb
  simp only at hAx hU0
  have g1 : decide ((12 : Int) < n) = false := decide_eq_false (by omega)
  have g2 : decide (off ≤ -86400) = false := decide_eq_false (by omega)
  have g3 : decide (86400 ≤ off) = false := decide_eq_false (by omega)
  have g4 : decide (y < 1) = false := decide_eq_false (by omega)
  have g5 : decide (12000 < y) = false := decide_eq_false (by omega)
  have g6 : ((m : Int) == 0) = false := beq_eq_false_iff_ne.2 (by omega)
  have g7 : decide ((K : Int) < 0) = false := decide_eq_false (by omega)
  have hmK2 : (K : Int) < m := by omega
  clear hX hm hn hA HAe
  have HTy := HTu y
  have hgx : Hid (∀ w v, Reads w v m (turnRow (Rul.turnsG l y)) → ∃ b o c, v = .slice (some ⟨b, o, none⟩) m c ∧ b < w.heap.size ∧ w.cell? ⟨b, o + K * 4, none⟩ = some (.int .i64 xa) ∧ w.cell? ⟨b, o + K * 4 + 1, none⟩ = some (.int .i64 xr) ∧ w.cell? ⟨b, o + K * 4 + 2, none⟩ = some (.int .i64 xs) ∧ w.cell? ⟨b, o + K * 4 + 3, none⟩ = some (.string xl)) := by
    intro w v h
    rcases h with ⟨_, _, _, h, _⟩ | ⟨b, o, c, e1, k1, k2, m1, hc⟩
    · exact absurd h (by omega)
    · have := turn_at hc K hmK
      rw [HX.out] at this
      exact ⟨b, o, c, e1, m1, this⟩
  unfold Rets
  rcases hq with hq | ⟨q, hq, hq0, hqK⟩
  all_goals
    go_enter Try.func7, Try.ntmps7
    go_wp2_with fail
    go_at_call 10
    refine ((HTy _ (hr.ext isext)).out).mono ?_
    rintro _ _ ⟨v1, z3, rfl, hv1, rfl⟩
    rw [Hm.out] at hv1
    obtain ⟨b0, o0, c0, rfl, hb0, p0, p1, p2, p3⟩ := hgx.out _ _ hv1
    haveI : InW b0 z3.x := ⟨hb0⟩
    clear hv1
    go_wp2_with fail
    go_loopw [12] (fun iv wr => ∃ i : Int, iv = .int .i64 i ∧ y - 1 ≤ i ∧ i ≤ y + 2 ∧ Hid (∀ z, y - 1 ≤ z → z < i → ∀ (p : Nat) (hp : p < (Rul.turnsG l z).length), (z ≠ y ∨ p ≠ K) → apart (Rul.turnsG l z)[p] ⟨xa, xr, xs, xl⟩) ∧ Ext (z3.x.alloc (.cells #[.int .i64 xa, .int .i64 xr, .int .i64 xs, .string xl] 30)) wr) (fun iv _ => (y + 2 - intOf iv).toNat)
    case atStart => exact ⟨y - 1, rfl, by omega, by omega, fun z h1 h2 => absurd h2 (by omega), isext⟩
    case round =>
      obtain ⟨i, rfl, i1, i2, Hi, hx⟩ := hrel
      obtain ⟨yi, rfl⟩ := fin hx
      clear hx
      by_cases hlast : i ≤ y + 1
      · have HTi := HTu i
        have HRi := fun {t : Turn} (ht : t ∈ Rul.turnsG l i) => HR ht
        have HI1 : (∀ (p : Nat) (hp : p < (Rul.turnsG l i).length), (i ≠ y ∨ p ≠ K) → apart (Rul.turnsG l i)[p] ⟨xa, xr, xs, xl⟩) → Hid (∀ z, y - 1 ≤ z → z < i + 1 → ∀ (p : Nat) (hp : p < (Rul.turnsG l z).length), (z ≠ y ∨ p ≠ K) → apart (Rul.turnsG l z)[p] ⟨xa, xr, xs, xl⟩) := fun h z h1 h2 => by
          rcases Int.lt_or_le z i with h3 | h3
          · exact Hi.out z h1 h3
          · obtain rfl : z = i := by omega
            exact h
        clear HTu HR HTe HF HFe hU0 hU1 hU2 HTy hgx HX Hm
        generalize Rul.turnsG l i = G at *
        go_wp2_with (go_at_call 10; refine ((HTi _ (hr.ext isext)).out).mono ?_; rintro _ _ ⟨v2, z4, rfl, hv2, rfl⟩; obtain ⟨a2, c2, rfl⟩ := reads_shape hv2)
        obtain ⟨mm, hmm⟩ : ∃ mm, Hid (G.length = mm) := ⟨_, rfl⟩
        rw [hmm.out] at hv2
        rw [hmm.out]
        have hmx2 : (mm : Int) ≤ 9223372036854775807 := by
          rcases hv2 with ⟨_, _, _, h, _⟩ | ⟨_, _, _, _, k1, k2, _⟩
          · omega
          · unfold maxLen at k2; omega
        have HV2 := Lib.hid hv2
        clear hv2
        go_loopw [14] (fun jv wr2 => ∃ j : Nat, j ≤ mm ∧ jv = .int .i64 j ∧ Hid (∀ (p : Nat) (hp : p < G.length), p < j → (i ≠ y ∨ p ≠ K) → apart G[p] ⟨xa, xr, xs, xl⟩) ∧ Ext z4.x wr2) (fun jv _ => mm - (intOf jv).toNat)
        case atStart => exact ⟨0, by omega, rfl, fun p hp h => absurd h (Nat.not_lt_zero _), isext⟩
        case round =>
          obtain ⟨j, j2, rfl, Hj, hx2⟩ := hrel
          obtain ⟨yj, rfl⟩ := fin hx2
          clear hx2
          by_cases hlj : j < mm
          · have hjl : j < G.length := by rw [hmm.out]; exact hlj
            rcases HV2.out with ⟨_, _, _, h, _⟩ | ⟨b1, o1', c4, e9, k1, k2, k3, hc1⟩
            · exact absurd h (by omega)
            injection e9 with e9 e8 e7
            subst e9
            clear e8 e7
            haveI : InW b1 z4.x := ⟨k3⟩
            obtain ⟨s0, s1, s2, s3⟩ := turn_at hc1 j hjl
            clear hc1
            obtain ⟨-, -, -, -, -, -, k5, k6⟩ := (HRi (List.getElem_mem hjl)).out
            have hac := apart_cases G[j] ⟨xa, xr, xs, xl⟩ i y j K
            have HJ1 : ((i ≠ y ∨ j ≠ K) → apart G[j] ⟨xa, xr, xs, xl⟩) → Hid (∀ (p : Nat) (hp : p < G.length), p < j + 1 → (i ≠ y ∨ p ≠ K) → apart G[p] ⟨xa, xr, xs, xl⟩) := fun h p hp hpj hne => by
              rcases Nat.lt_or_ge p j with h3 | h3
              · exact Hj.out p hp h3 hne
              · obtain rfl : p = j := by omega
                exact h hne
            generalize G[j] = t at *
            obtain ⟨ta, tr, ts, tl⟩ := t
            simp only at s0 s1 s2 s3 k5 k6 hac
            clear HI1 HTi HRi s1 s2 s3
            have hsub : IntKind.i64.wrap (ta - xa) = ta - xa := by rw [IntKind.wrap_i64]; omega
            rcases hac with ⟨d1, d9⟩ | ⟨d1, d2, d9⟩ | ⟨d1, d2, d3, d4⟩ | ⟨d1, d2, d3, d4, d5⟩ | ⟨d1, d2, d3, d4⟩
            · have HJ2 := HJ1 (fun _ => d9)
              clear HJ1 d9
              go_wp2_with fail
              refine wp_region_past1 (by kernel_rfl) (by kernel_rfl) ?_
              repeat (go_big_quiet_step (fail))
              refine wpQuiet_nil ?_
              intro zq
              go_wp2_with (go_at_call 9; refine Rets.use (HL _).out ?_; intro _)
              clear hsub
              go_roundw
              case rel => exact ⟨j + 1, by omega, by go_num, HJ2, isext⟩
              case measure => simp [intOf]; omega
            · have HJ2 := HJ1 (fun _ => d9)
              clear HJ1 d9
              go_wp2_with fail
              refine wp_region_past1 (by kernel_rfl) (by kernel_rfl) ?_
              repeat (go_big_quiet_step (fail))
              refine wpQuiet_nil ?_
              intro zq
              go_wp2_with (go_at_call 9; refine Rets.use (HL _).out ?_; intro _)
              clear hsub
              go_roundw
              case rel => exact ⟨j + 1, by omega, by go_num, HJ2, isext⟩
              case measure => simp [intOf]; omega
            · clear HJ1
              go_wp2_with fail
              refine wp_region_past1 (by kernel_rfl) (by kernel_rfl) ?_
              repeat (go_big_quiet_step (fail))
              refine wpQuiet_nil ?_
              intro zq
              go_wp2_with (go_at_call 9; refine Rets.use (HL _).out ?_; intro _)
              go_ret
              exact ⟨rfl, done⟩
            · clear HJ1 Hj Hi
              subst d3
              go_wp2_with fail
              refine wp_region_past1 (by kernel_rfl) (by kernel_rfl) ?_
              repeat (go_big_quiet_step (fail))
              refine wpQuiet_nil ?_
              intro zq
              go_wp2_with (go_at_call 9; refine Rets.use (HL _).out ?_; intro _)
              go_ret
              exact ⟨rfl, done⟩
            · have HJ2 := HJ1 (fun h => by rcases h with h | h; exact absurd d3 h; exact absurd d4 h)
              clear HJ1
              have d6 : (i == y) = true := beq_iff_eq.2 d3
              have d7 : (i != y) = false := by unfold bne; rw [d6]; rfl
              subst d4
              clear d3
              go_wp2_with fail
              refine wp_region_past1 (by kernel_rfl) (by kernel_rfl) ?_
              repeat (go_big_quiet_step (fail))
              refine wpQuiet_nil ?_
              intro zq
              go_wp2_with (go_at_call 9; refine Rets.use (HL _).out ?_; intro _)
              clear hsub d6 d7
              go_roundw
              case rel => exact ⟨j + 1, by omega, by go_num, HJ2, isext⟩
              case measure => simp [intOf]; omega
          · have HI2 := HI1 (fun p hp h => Hj.out p hp (by have := hmm.out; omega) h)
            clear HI1 HTi HRi
            go_wp2
            go_roundw
            case rel => exact ⟨i + 1, rfl, by omega, by omega, HI2, isext⟩
            case measure => simp [intOf]; omega
      · have HTf := HTe (fun z h1 h2 p hp h => Hi.out z h1 (by omega) p hp h)
        have hlast' : decide (i ≤ y + 1) = false := decide_eq_false hlast
        have hr3 : xr = 0 ∨ xr = 1 ∨ xr = 2 := by omega
        clear HTe HTu HR HTy hgx HX Hm Hi
        rcases hr3 with rfl | rfl | rfl
        · rw [hU0] at HTf
          have HFa : ∀ w, Reads w (.slice a8 n c8) n (ruleRow l) → Hid (Rets Try.prog 17 #[.slice a8 n c8, .int .i64 off, .int .i64 (xa - off - bs)] w (.tuple #[.int .i64 xs, .string xl])) := fun w hr => by
            have := HF (xa - off - bs) (by omega) (by omega) w hr
            rw [HFe, (HTf (xa - off - bs) (by omega) (by omega)).out] at this; exact this
          have HFb : ∀ w, Reads w (.slice a8 n c8) n (ruleRow l) → Hid (Rets Try.prog 17 #[.slice a8 n c8, .int .i64 off, .int .i64 (xa - off - bs + 3599)] w (.tuple #[.int .i64 xs, .string xl])) := fun w hr => by
            have := HF (xa - off - bs + 3599) (by omega) (by omega) w hr
            rw [HFe, (HTf (xa - off - bs + 3599) (by omega) (by omega)).out] at this; exact this
          have x1 : IntKind.i64.wrap (xa - off) = xa - off := by rw [IntKind.wrap_i64]; omega
          have x2 : IntKind.i64.wrap (xa - off - bs) = xa - off - bs := by rw [IntKind.wrap_i64]; omega
          have x3 : IntKind.i64.wrap (xa - off - bs + 3599) = xa - off - bs + 3599 := by rw [IntKind.wrap_i64]; omega
          clear HTf HF HFe hU0 hU1 hU2
          go_wp2_with fail
          go_at_call 15
          refine Rets.use (HAt _ (hr.ext isext)).out ?_
          intro za
          go_wp2_with fail
          go_at_call 17
          refine Rets.use (HFa _ (hr.ext isext)).out ?_
          intro zb
          go_wp2_with fail
          go_at_call 17
          refine Rets.use (HFb _ (hr.ext isext)).out ?_
          intro zc
          go_wp2_with (go_at_call 9; refine Rets.use (HL _).out ?_; intro _)
          go_ret
          exact ⟨ret_bool (by simp), done⟩
        · rw [hU1] at HTf
          have HFa : ∀ w, Reads w (.slice a8 n c8) n (ruleRow l) → Hid (Rets Try.prog 17 #[.slice a8 n c8, .int .i64 off, .int .i64 (xa - off)] w (.tuple #[.int .i64 xs, .string xl])) := fun w hr => by
            have := HF (xa - off) (by omega) (by omega) w hr
            rw [HFe, (HTf (xa - off) (by omega) (by omega)).out] at this; exact this
          have HFb : ∀ w, Reads w (.slice a8 n c8) n (ruleRow l) → Hid (Rets Try.prog 17 #[.slice a8 n c8, .int .i64 off, .int .i64 (xa - off + 3599)] w (.tuple #[.int .i64 xs, .string xl])) := fun w hr => by
            have := HF (xa - off + 3599) (by omega) (by omega) w hr
            rw [HFe, (HTf (xa - off + 3599) (by omega) (by omega)).out] at this; exact this
          have x1 : IntKind.i64.wrap (xa - off) = xa - off := by rw [IntKind.wrap_i64]; omega
          have x3 : IntKind.i64.wrap (xa - off + 3599) = xa - off + 3599 := by rw [IntKind.wrap_i64]; omega
          clear HTf HF HFe hU0 hU1 hU2
          go_wp2_with fail
          go_at_call 15
          refine Rets.use (HAt _ (hr.ext isext)).out ?_
          intro za
          go_wp2_with fail
          go_at_call 17
          refine Rets.use (HFa _ (hr.ext isext)).out ?_
          intro zb
          go_wp2_with fail
          go_at_call 17
          refine Rets.use (HFb _ (hr.ext isext)).out ?_
          intro zc
          go_wp2_with (go_at_call 9; refine Rets.use (HL _).out ?_; intro _)
          go_ret
          exact ⟨ret_bool (by simp), done⟩
        · rw [hU2] at HTf
          have HFa : ∀ w, Reads w (.slice a8 n c8) n (ruleRow l) → Hid (Rets Try.prog 17 #[.slice a8 n c8, .int .i64 off, .int .i64 xa] w (.tuple #[.int .i64 xs, .string xl])) := fun w hr => by
            have := HF xa (by omega) (by omega) w hr
            rw [HFe, (HTf xa (by omega) (by omega)).out] at this; exact this
          have HFb : ∀ w, Reads w (.slice a8 n c8) n (ruleRow l) → Hid (Rets Try.prog 17 #[.slice a8 n c8, .int .i64 off, .int .i64 (xa + 3599)] w (.tuple #[.int .i64 xs, .string xl])) := fun w hr => by
            have := HF (xa + 3599) (by omega) (by omega) w hr
            rw [HFe, (HTf (xa + 3599) (by omega) (by omega)).out] at this; exact this
          have x3 : IntKind.i64.wrap (xa + 3599) = xa + 3599 := by rw [IntKind.wrap_i64]; omega
          clear HTf HF HFe hU0 hU1 hU2
          go_wp2_with fail
          go_at_call 15
          refine Rets.use (HAt _ (hr.ext isext)).out ?_
          intro za
          go_wp2_with fail
          go_at_call 17
          refine Rets.use (HFa _ (hr.ext isext)).out ?_
          intro zb
          go_wp2_with fail
          go_at_call 17
          refine Rets.use (HFb _ (hr.ext isext)).out ?_
          intro zc
          go_wp2_with (go_at_call 9; refine Rets.use (HL _).out ?_; intro _)
          go_ret
          exact ⟨ret_bool (by simp), done⟩
theorem tellslaw_any (l : List Rule) (n : Nat) (hn : l.length = n) (v : Value) (off y wh : Int) (w : World) (hr : Reads w v n (ruleRow l)) :
    Rets Try.prog 7 #[v, .int .i64 off, .int .i64 y, .int .i64 wh] w (.bool true) := by
  have hmax : (n : Int) ≤ 9223372036854775807 := by
    rcases hr with ⟨_, _, _, h, _⟩ | ⟨_, _, _, _, k1, k2, _⟩
    · omega
    · unfold maxLen at k2; omega
  obtain ⟨a8, c8, rfl⟩ := reads_shape hr
  by_cases h1 : 12 < n
  · exact tells_out l n hmax a8 c8 off y wh w (.inl h1)
  by_cases h2 : off ≤ -86400
  · exact tells_out l n hmax a8 c8 off y wh w (.inr (.inl ⟨h1, h2⟩))
  by_cases h3 : 86400 ≤ off
  · exact tells_out l n hmax a8 c8 off y wh w (.inr (.inr (.inl ⟨h1, h2, h3⟩)))
  by_cases h4 : y < 1
  · exact tells_out l n hmax a8 c8 off y wh w (.inr (.inr (.inr (.inl ⟨h1, h2, h3, h4⟩))))
  by_cases h5 : 12000 < y
  · exact tells_out l n hmax a8 c8 off y wh w (.inr (.inr (.inr (.inr ⟨h1, h2, h3, h4, h5⟩))))
  cases hA : Rul.allB l
  · exact tells_none l n (by omega) a8 c8 off y wh (by omega) (by omega) (by omega) (by omega) w hr (fun w hr => turns_no l n hn hA y _ w hr)
  · by_cases h0 : (Rul.turnsG l y).length = 0
    · refine tells_none l n (by omega) a8 c8 off y wh (by omega) (by omega) (by omega) (by omega) w hr (fun w hr => ?_)
      have := turns_any l n hn (by omega) hA y (by have := Rul.turnL_le l y; omega) (.slice a8 n c8) w hr
      rw [List.eq_nil_of_length_eq_zero h0] at this
      exact this
    · obtain ⟨m, hm⟩ : ∃ m, (Rul.turnsG l y).length = m := ⟨_, rfl⟩
      have hm0 : (0 : Int) < m := by omega
      have hlt := Int.tmod_lt_of_pos wh hm0
      have hgt : -(m : Int) < wh.tmod m := by
        have := Int.lt_tmod_of_pos wh hm0; omega
      by_cases hq : wh.tmod m < 0
      · exact tells_main l n hn (by omega) hA a8 c8 off y wh (by omega) (by omega) (by omega) (by omega) w hr m (wh.tmod m + m).toNat hm (by omega) (.inr ⟨_, rfl, hq, by omega⟩)
      · exact tells_main l n hn (by omega) hA a8 c8 off y wh (by omega) (by omega) (by omega) (by omega) w hr m (wh.tmod m).toNat hm (by omega) (.inl (by omega))
end Go.Proofs.Ytodcgalcpnckaaa
