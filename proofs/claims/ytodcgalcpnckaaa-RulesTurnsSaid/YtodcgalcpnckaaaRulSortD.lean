/- Walks of rules: the library's merge of two runs, at turns: one element behind. -/
import Derived.Test.YtodcgalcpnckaaaRulSortC
set_option linter.unusedVariables false
set_option linter.unusedSimpArgs false
namespace Go.Proofs.Ytodcgalcpnckaaa
open Go.RowKit Go.Sort Go.Shelf

set_option maxRecDepth 100000 in
set_option maxHeartbeats 8000000 in
theorem merge_last (P A S : List Turn) (y : Turn) (a m b N g cap : Nat) (w0 W : World) (hP : P.length = a) (hA2 : 2 ≤ A.length) (hm : a + A.length = m) (hb1 : b ≤ m + 1) (hb2 : m + 1 ≤ b) (hA : Rul.Up A) (hN : (P ++ A ++ [y] ++ S).length = N) (h : RW w0 W g (P ++ A ++ [y] ++ S)) (hsz : N < 1000) :
    Calls Try.prog 59 #[.slice (some ⟨g, 0, none⟩) N cap, .int .i64 a, .int .i64 m, .int .i64 b, .func (.func 27) #[] #[]] W fun e w' => e = .returned (.tuple #[]) ∧ RW w0 w' g (P ++ Rul.mrg A [y] ++ S) := by
  have hbN : b ≤ N := by simp at hN; omega
  have e0 : (((m : Int) - (a : Int)) == 1) = false := beq_eq_false_iff_ne.2 (by omega)
  have e1 : (b : Int) - (m : Int) = 1 := by omega
  have HC := fun u v w => Lib.hid (cmp_rets u v w)
  have hy0 : m < (P ++ A ++ [y] ++ S).length := by omega
  have ey : (P ++ A ++ [y] ++ S)[m] = y := by
    subst hP
    rw [List.getElem_append_left (by simp; omega), List.getElem_append_right (by simp; omega)]
    simp
  have eA : ∀ q (hq : q < A.length), (P ++ A ++ [y] ++ S)[a + q]'(by simp at hN ⊢; omega) = A[q] := fun q hq => by
    subst hP
    rw [List.getElem_append_left (by simp; omega), List.getElem_append_left (by simp; omega), List.getElem_append_right (by simp)]
    simp
  have Hd := Lib.hid hN
  have HX := Lib.hid ey
  have HB := Lib.hid eA
  clear ey eA
  go_enter Try.func59, Try.ntmps59
  go_wp2
  go_loopw [14, 15] (fun iv jv wr => ∃ i j : Nat, iv = .int .i64 i ∧ jv = .int .i64 j ∧ a ≤ i ∧ i ≤ j ∧ j ≤ m ∧ Hid (∀ q (hq : q < A.length), a + q < i → A[q].at' ≤ y.at') ∧ Hid (∀ q (hq : q < A.length), j ≤ a + q → y.at' < A[q].at') ∧ Hid (RW w0 wr g (P ++ A ++ [y] ++ S))) (fun iv jv _ => (intOf jv - intOf iv).toNat)
  case atStart => exact ⟨a, m, rfl, rfl, by omega, by omega, by omega, fun q hq h => absurd h (by omega), fun q hq h => absurd h (by omega), h⟩
  case round =>
    clear h
    obtain ⟨i, j, rfl, rfl, i1, i2, j2, Hlo, Hhi, HW⟩ := hrel
    by_cases hlt : i < j
    · have hltz : (i : Int) < (j : Int) := by omega
      obtain ⟨H, hH, hH1, hH2⟩ : ∃ H : Nat, ((i : Int) + (j : Int)) / 2 = (H : Int) ∧ i ≤ H ∧ H < j := ⟨(i + j) / 2, by omega, by omega, by omega⟩
      have hHn : H < (P ++ A ++ [y] ++ S).length := by rw [Hd.out]; omega
      obtain ⟨q, rfl⟩ : ∃ q, H = a + q := ⟨H - a, by omega⟩
      have hq : q < A.length := by omega
      have c0 := HW.out.at' (a + q) hHn
      have c1 := HW.out.at' m hy0
      rw [HB.out q hq] at c0
      rw [HX.out] at c1
      obtain ⟨p0, p1, p2, p3, -⟩ := c0
      obtain ⟨q0, q1, q2, q3, -⟩ := c1
      haveI : InW g wr := ⟨HW.out.lt⟩
      have HCx := fun w => HC y A[q] w
      have hlo2 : ¬ y.at' < A[q].at' → Hid (∀ q' (hq : q' < A.length), a + q' < a + q + 1 → A[q'].at' ≤ y.at') := fun h q' hq' h' => by
        rcases Nat.lt_or_ge q' q with h1 | h1
        · have := (List.pairwise_iff_getElem.1 hA) q' q hq' hq h1; omega
        · obtain rfl : q' = q := by omega
          omega
      have hhi2 : y.at' < A[q].at' → Hid (∀ q' (hq : q' < A.length), a + q ≤ a + q' → y.at' < A[q'].at') := fun h q' hq' h' => by
        rcases Nat.lt_or_ge q q' with h1 | h1
        · have := (List.pairwise_iff_getElem.1 hA) q q' hq hq' h1; omega
        · obtain rfl : q' = q := by omega
          exact h
      have hcmp : (cmpI y.at' A[q].at' = -1 ∧ y.at' < A[q].at') ∨ (decide (cmpI y.at' A[q].at' < 0) = false ∧ ¬ y.at' < A[q].at') := by
        by_cases h : y.at' < A[q].at'
        · exact .inl ⟨cmpI_lt h, h⟩
        · refine .inr ⟨decide_eq_false ?_, h⟩
          by_cases h2 : A[q].at' < y.at'
          · rw [cmpI_gt h2]; omega
          · rw [cmpI_eq h h2]; omega
      have hbig : (a : Int) + (q : Int) < 9000000 := by omega
      generalize cmpI y.at' A[q].at' = cc at *
      generalize A[q] = u at *
      obtain ⟨ua, ur, us, ul⟩ := u
      obtain ⟨xa, xr, xs, xl⟩ := y
      simp only at p0 p1 p2 p3 q0 q1 q2 q3 hcmp
      rcases hcmp with ⟨rfl, hc⟩ | ⟨hc0, hc⟩
      · have HH2 := hhi2 hc
        clear hlo2 hhi2 hc
        go_wp2_with fail
        refine wp_region_past (by kernel_rfl) (by kernel_rfl) ?_
        repeat (go_big_quiet_step ((go_at_call 27; exact Rets.quiet (HCx _).out)))
        refine wpQuiet_nil ?_
        intro z
        go_wp2
        go_roundw
        case rel => exact ⟨i, a + q, rfl, by go_num, i1, by omega, by omega, Hlo, HH2, HW.out.more isext⟩
        case measure => simp [intOf]; omega
      · have HL2 := hlo2 hc
        clear hlo2 hhi2 hc
        go_wp2_with fail
        refine wp_region_past (by kernel_rfl) (by kernel_rfl) ?_
        repeat (go_big_quiet_step ((go_at_call 27; exact Rets.quiet (HCx _).out)))
        refine wpQuiet_nil ?_
        intro z
        go_wp2
        go_roundw
        case rel => exact ⟨a + q + 1, j, by go_num, rfl, by omega, by omega, j2, HL2, Hhi, HW.out.more isext⟩
        case measure => simp [intOf]; omega
    · obtain rfl : i = j := by omega
      have hltz : decide ((i : Int) < (i : Int)) = false := decide_eq_false (by omega)
      have HEnd : Hid (A.take (i - a) ++ y :: A.drop (i - a) = Rul.mrg A [y]) := by
        show _ = _
        have := Rul.mrg_last (y := y) (A1 := A.take (i - a)) (A2 := A.drop (i - a)) (fun x hx => by
          obtain ⟨q, hq, rfl⟩ := List.getElem_of_mem hx
          rw [List.getElem_take]
          exact Hlo.out q (by simp at hq; omega) (by simp at hq; omega)) (fun x hx => by
          obtain ⟨q, hq, rfl⟩ := List.getElem_of_mem hx
          rw [List.getElem_drop]
          exact Hhi.out (i - a + q) (by simp at hq; omega) (by omega))
        rw [← this, List.take_append_drop]
      have HR0 : Hid (RW w0 wr g (P ++ (A.take (m - a) ++ y :: A.drop (m - a)) ++ S)) := by
        show RW _ _ _ _
        have := HW.out
        rw [List.take_of_length_le (by omega), List.drop_eq_nil_of_le (by omega)]
        simpa using this
      have HLn : Hid (∀ t, t ≤ A.length → (P ++ (A.take t ++ y :: A.drop t) ++ S).length = N) := fun t ht => by
        have := Hd.out; simp at this ⊢; omega
      have HPl := Lib.hid hP
      clear Hlo Hhi HW HX HB Hd hN hy0
      go_wp2
      go_loopw [17] (fun kv wr2 => ∃ K : Nat, kv = .int .i64 K ∧ i ≤ K ∧ K ≤ m ∧ Hid (RW w0 wr2 g (P ++ (A.take (K - a) ++ y :: A.drop (K - a)) ++ S))) (fun kv _ => (intOf kv).toNat)
      case atStart => exact ⟨m, rfl, by omega, by omega, HR0⟩
      case round =>
        clear HR0
        obtain ⟨K, rfl, k1, k2, HW⟩ := hrel
        by_cases hk : i < K
        · obtain ⟨K', rfl⟩ : ∃ K', K = K' + 1 := ⟨K - 1, by omega⟩
          obtain ⟨t, rfl⟩ : ∃ t, K' = a + t := ⟨K' - a, by omega⟩
          have hkz : (i : Int) < (a : Int) + (t : Int) + 1 := by omega
          have ht : t < A.length := by omega
          rw [show a + t + 1 - a = t + 1 by omega] at HW
          have hD : P ++ (A.take (t + 1) ++ y :: A.drop (t + 1)) ++ S = (P ++ A.take t) ++ A[t] :: y :: (A.drop (t + 1) ++ S) := by
            rw [List.take_succ_eq_append_getElem ht]; simp only [List.append_assoc, List.cons_append, List.nil_append]
          have hD' : P ++ (A.take t ++ y :: A.drop t) ++ S = (P ++ A.take t) ++ y :: A[t] :: (A.drop (t + 1) ++ S) := by
            rw [List.drop_eq_getElem_cons ht]; simp only [List.append_assoc, List.cons_append, List.nil_append]
          have hl1 := HLn.out t (by omega)
          have hl2 := HLn.out (t + 1) (by omega)
          have hpt : (P ++ A.take t).length = a + t := by have := HPl.out; simp; omega
          have hsw : swp (P ++ (A.take (t + 1) ++ y :: A.drop (t + 1)) ++ S).toArray (a + t + 1) (a + t) = (P ++ (A.take t ++ y :: A.drop t) ++ S).toArray := by
            have := swp_lists (P ++ A.take t) (A.drop (t + 1) ++ S) A[t] y
            rw [hpt] at this
            rw [hD, hD', this]
          have hi1 : a + t < (P ++ (A.take (t + 1) ++ y :: A.drop (t + 1)) ++ S).length := by omega
          have hi2 : a + t + 1 < (P ++ (A.take (t + 1) ++ y :: A.drop (t + 1)) ++ S).length := by omega
          have hX : (P ++ (A.take (t + 1) ++ y :: A.drop (t + 1)) ++ S)[a + t] = A[t] := by
            simp only [hD]
            rw [List.getElem_append_right (by omega)]
            simp [hpt]
          have hY : (P ++ (A.take (t + 1) ++ y :: A.drop (t + 1)) ++ S)[a + t + 1] = y := by
            simp only [hD]
            rw [List.getElem_append_right (by omega)]
            simp [hpt]
          have hsN := HW.out.swap (a + t + 1) (a + t) hi2 hi1 hsw (by omega)
          have cX := HW.out.at' (a + t) hi1
          have cY := HW.out.at' (a + t + 1) hi2
          rw [hX] at cX hsN
          rw [hY] at cY hsN
          have HS := Lib.hid hsN
          have hbd : (a : Int) + t + 1 < N := by omega
          have ea : ((a : Int) + (t : Int)).toNat = a + t := by omega
          have eb : ((a : Int) + (t : Int) + 1).toNat = a + t + 1 := by omega
          have ec : (a : Int) + (t : Int) + 1 - 1 = (a : Int) + (t : Int) := by omega
          have mixed : Try.prog.follows .mixedOrders = true := by kernel_rfl
          clear hsN hX hY hi1 hi2 hsw hpt hl1 hl2 hD hD' HW
          generalize A[t] = u at *
          obtain ⟨ua, ur, us, ul⟩ := u
          obtain ⟨xa, xr, xs, xl⟩ := y
          simp only at cX cY HS
          obtain ⟨x0, x1, x2, x3, f0, f1, f2, f3⟩ := cX
          obtain ⟨v0, v1, v2, v3, h0, h1, h2, h3⟩ := cY
          go_wp2_with fail
          go_big_region_o
          all_goals go_wp2
          go_roundw
          case rel =>
            refine ⟨a + t, by go_num, by omega, by omega, ?_⟩
            show RW _ _ _ _
            rw [show a + t - a = t by omega]
            simp only [drew_set]
            exact HS.out
          case measure => simp [intOf]; omega
        · have hkz : decide ((i : Int) < (K : Int)) = false := decide_eq_false (by omega)
          rw [show i - a = K - a by omega] at HEnd
          rw [HEnd.out] at HW
          clear HLn HEnd
          go_wp2
          exact bodyPost_ret (v := .tuple #[]) (by simp [results, Try.f59, go_sem]) rfl ⟨rfl, HW.out⟩
end Go.Proofs.Ytodcgalcpnckaaa
