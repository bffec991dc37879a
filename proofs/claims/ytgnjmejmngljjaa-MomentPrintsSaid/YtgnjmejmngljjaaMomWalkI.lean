/- Walks of moments: the document's times, clocks, signs. -/
import Derived.Test.YtgnjmejmngljjaaMomWalkH
set_option linter.unusedVariables false
set_option linter.unusedSimpArgs false
namespace Go.Proofs.Ytgnjmejmngljjaa
open Go.RowKit

def optV : Option Int → Value
  | none => .tuple #[.int .i64 0, .bool false]
  | some n => .tuple #[.int .i64 n, .bool true]
theorem sum_nil (u n : Int) : Mom.sumR [] u n = some n := rfl
theorem sum_no {p : List UInt8} {ps : List (List UInt8)} {u n k : Int} (hk : Mom.numR p 2 2 = k) (h : k < 0 ∨ 59 < k) : Mom.sumR (p :: ps) u n = none := by subst hk; exact if_pos h
theorem sum_yes {p : List UInt8} {ps : List (List UInt8)} {u n k : Int} (hk : Mom.numR p 2 2 = k) (h : ¬ (k < 0 ∨ 59 < k)) : Mom.sumR (p :: ps) u n = Mom.sumR ps 1 (n + k * u) := by subst hk; exact if_neg h
set_option maxRecDepth 100000 in
set_option maxHeartbeats 4000000 in
theorem rbare_any (l : List UInt8) (w : World) (hs : l.length ≤ 4000) : Rets Try.prog 50 #[.string ⟨l.toArray⟩] w (optV (Mom.bareR l)) := by
  have HP := fun w => Lib.hid (parts_any ⟨l.toArray⟩ w (by rw [lsz]; omega))
  have hne := Mom.splitC_ne l
  have hlen := Mom.split_len l
  have heach := Mom.split_each l
  obtain ⟨ws, hws⟩ : ∃ ws, Mom.splitC l = ws := ⟨_, rfl⟩
  obtain ⟨N, hN⟩ : ∃ N, ws.length = N := ⟨_, rfl⟩
  simp only [hws] at HP hne hlen heach
  have hN1 : 1 ≤ N := by
    rcases Nat.eq_zero_or_pos N with h | h
    · exact absurd (List.eq_nil_of_length_eq_zero (hN.trans h)) hne
    · exact h
  have hN2 : N ≤ 4001 := by omega
  have h0 : 0 < ws.length := by omega
  obtain ⟨h, hh⟩ : ∃ h, Mom.numR ws[0] 1 3 = h := ⟨_, rfl⟩
  have hb := numR_le ws[0] 1 3 (by omega)
  rw [hh] at hb
  have HN1 := fun w => Lib.hid (hh ▸ rnumber_list ws[0] 1 3 w (by omega) (by omega) (by have := heach _ (List.getElem_mem h0); unfold maxLen; omega))
  have HN2 := Lib.hid (fun p (hp : p ∈ ws) w => rnumber_list p 2 2 w (by omega) (by omega) (by have := heach p hp; unfold maxLen; omega))
  have EB : Hid (Mom.bareR l = if 3 < N ∨ h < 0 ∨ 167 < h then none else Mom.sumR (ws.drop 1) 60 (3600 * h)) := by
    show _ = _
    unfold Mom.bareR
    rw [hws]
    obtain ⟨p, ps, e⟩ : ∃ p ps, ws = p :: ps := by
      cases hw : ws with
      | nil => exact absurd hw hne
      | cons p ps => exact ⟨p, ps, rfl⟩
    subst e
    simp only [List.getElem_cons_zero] at hh
    simp only [hh, hN, List.drop_succ_cons, List.drop_zero]
  have HL := Lib.hid hN
  clear hws hne hlen heach hN hs
  generalize hw0 : ws[0] = p0 at *
  have HW0 := Lib.hid hw0
  clear hh hw0
  unfold Rets
  by_cases c : 3 < N ∨ h < 0 ∨ 167 < h
  · have E : Hid (optV (Mom.bareR l) = .tuple #[.int .i64 0, .bool false]) := by show _ = _; rw [EB.out, if_pos c]; rfl
    have c' : (3 : Int) < N ∨ decide ((3 : Int) < N) = false ∧ decide (3 < N) = false ∧ h < 0 ∨ decide ((3 : Int) < N) = false ∧ decide (3 < N) = false ∧ decide (h < 0) = false ∧ 167 < h := by
      by_cases d1 : 3 < N
      · exact .inl (by omega)
      · by_cases d2 : h < 0
        · exact .inr (.inl ⟨decide_eq_false (by omega), decide_eq_false d1, d2⟩)
        · exact .inr (.inr ⟨decide_eq_false (by omega), decide_eq_false d1, decide_eq_false d2, by omega⟩)
    clear c EB
    go_enter Try.func50, Try.ntmps50
    go_wp2_with fail
    refine (HP _).out.mono ?_
    rintro _ _ ⟨v, y, rfl, hr, rfl⟩
    simp only [HL.out] at hr
    rcases hr with ⟨a9, c9, rfl, hz, _⟩ | ⟨b, o, cp, rfl, k1, k2, hbk, hc⟩
    · omega
    haveI : InW b y.x := ⟨hbk⟩
    have f0 : y.x.cell? ⟨b, o, none⟩ = some (.string ⟨p0.toArray⟩) := by have := strs_at hc 0 h0; rw [HW0.out] at this; exact this
    clear hc
    rcases c' with d1 | ⟨d1, d2, d3⟩ | ⟨d1, d2, d3, d4⟩
    all_goals
      go_wp2_with (go_at_call 71; refine Rets.use (HN1 _).out ?_; intro _)
      go_ret2
      exact ⟨by rw [E.out]; first | done | rfl | simp, done⟩
  · have B : Hid (Mom.bareR l = Mom.sumR (ws.drop 1) 60 (3600 * h)) := by show _ = _; rw [EB.out, if_neg c]
    have d1 : decide ((3 : Int) < N) = false := decide_eq_false (by omega)
    have d2 : decide (3 < N) = false := decide_eq_false (by omega)
    have d3 : decide (h < 0) = false := decide_eq_false (by omega)
    have d4 : decide (167 < h) = false := decide_eq_false (by omega)
    have d5 : 0 ≤ h ∧ h ≤ 167 ∧ N ≤ 3 := by omega
    obtain ⟨d5, d6, d7⟩ := d5
    clear c EB
    go_enter Try.func50, Try.ntmps50
    go_wp2_with fail
    refine (HP _).out.mono ?_
    rintro _ _ ⟨v, y, rfl, hr, rfl⟩
    simp only [HL.out] at hr
    rcases hr with ⟨a9, c9, rfl, hz, _⟩ | ⟨b, o, cp, rfl, k1, k2, hbk, hc⟩
    · omega
    haveI : InW b y.x := ⟨hbk⟩
    have f0 : y.x.cell? ⟨b, o, none⟩ = some (.string ⟨p0.toArray⟩) := by have := strs_at hc 0 h0; rw [HW0.out] at this; exact this
    have HC := Lib.hid hc
    clear hc
    go_wp2_with fail
    refine Rets.use (HN1 _).out ?_
    intro y2
    go_wp2
    go_loopw [6, 7, 8] (fun nv uv iv wr => ∃ (j : Nat) (n U : Int), 1 ≤ j ∧ j ≤ N ∧ iv = .int .i64 j ∧ nv = .int .i64 n ∧ uv = .int .i64 U ∧ 1 ≤ U ∧ U ≤ 60 ∧ 0 ≤ n ∧ n ≤ 601200 + 3600 * (j : Int) ∧ Hid (Mom.bareR l = Mom.sumR (ws.drop j) U n) ∧ Ext y.x wr) (fun _ _ iv _ => N - (intOf iv).toNat)
    case atStart => exact ⟨1, _, 60, by omega, by omega, rfl, rfl, rfl, by omega, by omega, by omega, by omega, B, isext⟩
    case round =>
      obtain ⟨j, n, U, j1, j2, rfl, rfl, rfl, u1, u2, n1, n2, hB, hx⟩ := hrel
      obtain ⟨yr, rfl⟩ := fin hx
      clear hx
      by_cases hlt : j < N
      · have hj : j < ws.length := by rw [HL.out]; exact hlt
        have f1 := strs_at HC.out j hj
        obtain ⟨k, hk⟩ : ∃ k, Mom.numR ws[j] 2 2 = k := ⟨_, rfl⟩
        have kb := numR_le ws[j] 2 2 (by omega)
        rw [hk] at kb
        have HNj := fun w => Lib.hid (hk ▸ HN2.out ws[j] (List.getElem_mem hj) w)
        have W := Lib.hid (hB.out.trans (by rw [List.drop_eq_getElem_cons hj]))
        have NO := Lib.hid (fun h2 => W.out.trans (sum_no hk h2))
        have YES := Lib.hid (fun h2 => W.out.trans (sum_yes hk h2))
        generalize ws[j] = p at *
        clear hk hj W
        by_cases c : k < 0 ∨ 59 < k
        · have E : Hid (optV (Mom.bareR l) = .tuple #[.int .i64 0, .bool false]) := by show _ = _; rw [NO.out c]; rfl
          have c' : k < 0 ∨ decide (k < 0) = false ∧ 59 < k := by
            by_cases g : k < 0
            · exact .inl g
            · exact .inr ⟨decide_eq_false g, by omega⟩
          clear c
          rcases c' with g1 | ⟨g1, g2⟩
          all_goals
            go_wp2_with (go_at_call 71; refine Rets.use (HNj _).out ?_; intro _)
            go_ret2
            exact ⟨by rw [E.out]; first | done | rfl | simp, done⟩
        · have E := Lib.hid (YES.out c)
          have g1 : decide (k < 0) = false := decide_eq_false (by omega)
          have g2 : decide (59 < k) = false := decide_eq_false (by omega)
          have k0 : 0 ≤ k ∧ k ≤ 59 := by omega
          obtain ⟨k0, k5⟩ := k0
          have hmul : 0 ≤ k * U ∧ k * U ≤ 3540 := ⟨Int.mul_nonneg k0 (by omega), by
            have : k * U ≤ 59 * 60 := Int.mul_le_mul k5 u2 (by omega) (by omega)
            omega⟩
          obtain ⟨m1, m2⟩ := hmul
          clear c
          go_wp2_with (go_at_call 71; refine Rets.use (HNj _).out ?_; intro _)
          go_roundw
          case rel => exact ⟨j + 1, n + k * U, 1, by omega, by omega, by go_num, by first | rfl | go_num, rfl, by omega, by omega, by omega, by omega, E, isext⟩
          case measure => simp [intOf]; omega
      · have E : Hid (optV (Mom.bareR l) = .tuple #[.int .i64 n, .bool true]) := by
          show _ = _
          rw [hB.out, List.drop_eq_nil_of_le (by rw [HL.out]; omega)]; rfl
        go_wp2
        go_ret2
        exact ⟨by rw [E.out]; first | done | rfl | simp, done⟩
end Go.Proofs.Ytgnjmejmngljjaa
