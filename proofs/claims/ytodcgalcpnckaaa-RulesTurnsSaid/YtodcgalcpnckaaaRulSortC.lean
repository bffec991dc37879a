/- Walks of rules: the library's merge of two runs, at turns: one element ahead, one element behind. -/
import Derived.Test.YtodcgalcpnckaaaRulSortB
set_option linter.unusedVariables false
set_option linter.unusedSimpArgs false
namespace Go.Proofs.Ytodcgalcpnckaaa
open Go.RowKit Go.Sort Go.Shelf

/-- A row of turns lies in block g, made since w0. -/
structure RW (w0 W : World) (g : Nat) (d : List Turn) : Prop where
  hold : HoldsK turnCells 4 W g 0 d.toArray
  ext : Ext w0 W
  lt : g < W.heap.size
  ge : w0.heap.size ≤ g
theorem RW.more {w0 W W' : World} {g : Nat} {d : List Turn} (h : RW w0 W g d) (hx : Ext W W') : RW w0 W' g d :=
  ⟨fun j hj => ⟨(Below.cell (p := ⟨g, 0 + j, none⟩) hx h.lt).trans (h.hold j hj).1, (Below.frozen (p := ⟨g, 0 + j, none⟩) hx h.lt).trans (h.hold j hj).2⟩, h.ext.trans hx, Nat.lt_of_lt_of_le h.lt (Below.size hx), h.ge⟩
theorem RW.row {w0 W : World} {g : Nat} {d : List Turn} (h : RW w0 W g d) : RowK turnCells 4 W g 0 d.toArray :=
  ⟨fun _ => rfl, fun x v hv => by simp [turnCells] at hv; rcases hv with rfl | rfl | rfl | rfl <;> rfl, h.hold, h.lt⟩
theorem RW.swk {w0 W : World} {g : Nat} {d : List Turn} (h : RW w0 W g d) : SWK turnCells 4 W g 0 d.toArray W := by
  refine ⟨0, #[], ?_⟩
  unfold sortWorldK
  rw [grow_empty]
  exact (putRowK_self turnCells 4 W g 0 d.toArray h.hold).symm
theorem RW.of {w0 W W' : World} {g : Nat} {d d' : List Turn} (h : RW w0 W g d) (hl : d'.length = d.length) (hS : SWK turnCells 4 W g 0 d'.toArray W') : RW w0 W' g d' := by
  obtain ⟨n, os, rfl⟩ := hS
  exact ⟨holdsK_sortWorldK_c turnCells 4 W g 0 d.toArray _ _ _ h.hold h.lt (by simp [hl]), ext_sorted h.ext h.ge, Nat.lt_of_lt_of_le h.lt (size_sortWorldK_c _ _ _ _ _ _ _ _), h.ge⟩
/-- What a row holds at a place. -/
theorem RW.at' {w0 W : World} {g : Nat} {d : List Turn} (h : RW w0 W g d) (i : Nat) (hi : i < d.length) :
    W.cell? ⟨g, i * 4, none⟩ = some (.int .i64 d[i].at') ∧ W.cell? ⟨g, i * 4 + 1, none⟩ = some (.int .i64 d[i].r) ∧ W.cell? ⟨g, i * 4 + 2, none⟩ = some (.int .i64 d[i].s) ∧ W.cell? ⟨g, i * 4 + 3, none⟩ = some (.string d[i].l) ∧
    W.frozen? ⟨g, i * 4, none⟩ = false ∧ W.frozen? ⟨g, i * 4 + 1, none⟩ = false ∧ W.frozen? ⟨g, i * 4 + 2, none⟩ = false ∧ W.frozen? ⟨g, i * 4 + 3, none⟩ = false := by
  have k := fun c (hc : c < 4) => h.hold.cell (i := i) (c := c) (by simpa using hi) hc
  have e : d.toArray[i]! = d[i] := by rw [getElem!_pos _ _ (by simpa using hi)]; simp
  rw [e] at k
  simp only [Nat.zero_add] at k
  exact ⟨(k 0 (by omega)).1, (k 1 (by omega)).1, (k 2 (by omega)).1, (k 3 (by omega)).1, (k 0 (by omega)).2, (k 1 (by omega)).2, (k 2 (by omega)).2, (k 3 (by omega)).2⟩
theorem rotate_rw (P U V S : List Turn) (a m b N g cap : Nat) (w0 W : World) (hP : P.length = a) (hm : a + U.length = m) (hb : m + V.length = b) (hU : 0 < U.length) (hV : 0 < V.length) (hN : (P ++ U ++ V ++ S).length = N) (h : RW w0 W g (P ++ U ++ V ++ S)) (hsz : N < 4611686018427387904) :
    Calls Try.prog 70 #[.slice (some ⟨g, 0, none⟩) N cap, .int .i64 a, .int .i64 m, .int .i64 b, .func (.func 27) #[] #[]] W fun e w' => e = .returned (.tuple #[]) ∧ RW w0 w' g (P ++ V ++ U ++ S) :=
  (rotate_any P U V S a m b N g cap _ W W h.row hP hm hb hU hV (by simpa using hN) hN h.swk hsz).mono fun _ _ ⟨he, hS⟩ => ⟨he, h.of (by simp; omega) hS⟩
theorem cmp_rets (a b : Turn) (w : World) : Rets Try.prog 27 #[turnV a, turnV b] w (.int .i64 (cmpI a.at' b.at')) := by
  refine (cmpturn_any a b w).mono ?_
  rintro e w' ⟨rfl, q, os, rfl⟩
  exact ⟨rfl, ⟨_, below_grow (B := w.heap.size) (w0 := w) ((Ext.refl w).drewN q) os (Nat.le_refl _)⟩, rfl⟩
/-- A step of an exchange within a row: two turns that stand at i and j change places. -/
theorem RW.swap {w0 W : World} {g : Nat} {d d' : List Turn} (h : RW w0 W g d) (i j : Nat) (hi : i < d.length) (hj : j < d.length) (hd : swp d.toArray i j = d'.toArray) (hl : d'.length = d.length) :
    RW w0 ((((((((W.drew.setCell ⟨g, i * 4, none⟩ (.int .i64 d[j].at')).setCell ⟨g, i * 4 + 1, none⟩ (.int .i64 d[j].r)).setCell ⟨g, i * 4 + 2, none⟩ (.int .i64 d[j].s)).setCell ⟨g, i * 4 + 3, none⟩ (.string d[j].l)).setCell
      ⟨g, j * 4, none⟩ (.int .i64 d[i].at')).setCell ⟨g, j * 4 + 1, none⟩ (.int .i64 d[i].r)).setCell ⟨g, j * 4 + 2, none⟩ (.int .i64 d[i].s)).setCell ⟨g, j * 4 + 3, none⟩ (.string d[i].l)) g d' := by
  have hS := h.swk.swapped h.row i j (by simpa using hi) (by simpa using hj)
  have ei : d.toArray[i]! = d[i] := by rw [getElem!_pos _ _ (by simpa using hi)]; simp
  have ej : d.toArray[j]! = d[j] := by rw [getElem!_pos _ _ (by simpa using hj)]; simp
  rw [hd, ei, ej] at hS
  simp only [World.setCells, Nat.zero_add, Nat.add_assoc, Nat.reduceAdd] at hS
  exact h.of hl hS
theorem half (i j : Nat) (h : i < j) : i ≤ (i + j) / 2 ∧ (i + j) / 2 < j := by omega
set_option maxRecDepth 100000 in
set_option maxHeartbeats 8000000 in
theorem merge_one (P B S : List Turn) (x : Turn) (a m b N g cap : Nat) (w0 W : World) (hP : P.length = a) (hm1 : m ≤ a + 1) (hm2 : a + 1 ≤ m) (hb : m + B.length = b) (hB : Rul.Up B) (hN : (P ++ [x] ++ B ++ S).length = N) (h : RW w0 W g (P ++ [x] ++ B ++ S)) (hsz : N < 1000) :
    Calls Try.prog 59 #[.slice (some ⟨g, 0, none⟩) N cap, .int .i64 a, .int .i64 m, .int .i64 b, .func (.func 27) #[] #[]] W fun e w' => e = .returned (.tuple #[]) ∧ RW w0 w' g (P ++ Rul.mrg [x] B ++ S) := by
  have hbN : b ≤ N := by simp at hN; omega
  have e1 : (m : Int) - (a : Int) = 1 := by omega
  have HC := fun u v w => Lib.hid (cmp_rets u v w)
  have hx0 : a < (P ++ [x] ++ B ++ S).length := by omega
  have ex : (P ++ [x] ++ B ++ S)[a] = x := by
    subst hP
    simp [List.getElem_append_left, List.getElem_append_right]
  have eB : ∀ q (hq : q < B.length), (P ++ [x] ++ B ++ S)[m + q]'(by simp at hN ⊢; omega) = B[q] := fun q hq => by
    have hmm : m = P.length + 1 := by omega
    subst hmm
    rw [List.getElem_append_left (by simp; omega), List.getElem_append_right (by simp)]
    simp
  have Hd := Lib.hid hN
  have HX := Lib.hid ex
  have HB := Lib.hid eB
  have hb0 := hb
  clear ex eB
  go_enter Try.func59, Try.ntmps59
  go_wp2
  go_loopw [10, 11] (fun iv jv wr => ∃ i j : Nat, iv = .int .i64 i ∧ jv = .int .i64 j ∧ m ≤ i ∧ i ≤ j ∧ j ≤ b ∧ Hid (∀ q (hq : q < B.length), m + q < i → B[q].at' < x.at') ∧ Hid (∀ q (hq : q < B.length), j ≤ m + q → x.at' ≤ B[q].at') ∧ Hid (RW w0 wr g (P ++ [x] ++ B ++ S))) (fun iv jv _ => (intOf jv - intOf iv).toNat)
  case atStart => exact ⟨m, b, rfl, rfl, by omega, by omega, by omega, fun q hq h => absurd h (by omega), fun q hq h => absurd h (by omega), h⟩
  case round =>
    clear h
    obtain ⟨i, j, rfl, rfl, i1, i2, j2, Hlo, Hhi, HW⟩ := hrel
    by_cases hlt : i < j
    · have hltz : (i : Int) < (j : Int) := by omega
      obtain ⟨H, hH, hH1, hH2⟩ : ∃ H : Nat, ((i : Int) + (j : Int)) / 2 = (H : Int) ∧ i ≤ H ∧ H < j := ⟨(i + j) / 2, by omega, by omega, by omega⟩
      have hHn : H < (P ++ [x] ++ B ++ S).length := by rw [Hd.out]; omega
      obtain ⟨q, rfl⟩ : ∃ q, H = m + q := ⟨H - m, by omega⟩
      have hq : q < B.length := by omega
      have c0 := HW.out.at' (m + q) hHn
      have c1 := HW.out.at' a hx0
      rw [HB.out q hq] at c0
      rw [HX.out] at c1
      obtain ⟨p0, p1, p2, p3, -⟩ := c0
      obtain ⟨q0, q1, q2, q3, -⟩ := c1
      haveI : InW g wr := ⟨HW.out.lt⟩
      have HCx := fun w => HC B[q] x w
      have hlo2 : B[q].at' < x.at' → Hid (∀ q' (hq : q' < B.length), m + q' < m + q + 1 → B[q'].at' < x.at') := fun h q' hq' h' => by
        rcases Nat.lt_or_ge q' q with h1 | h1
        · have := (List.pairwise_iff_getElem.1 hB) q' q hq' hq h1; omega
        · obtain rfl : q' = q := by omega
          exact h
      have hhi2 : ¬ B[q].at' < x.at' → Hid (∀ q' (hq : q' < B.length), m + q ≤ m + q' → x.at' ≤ B[q'].at') := fun h q' hq' h' => by
        rcases Nat.lt_or_ge q q' with h1 | h1
        · have := (List.pairwise_iff_getElem.1 hB) q q' hq hq' h1; omega
        · obtain rfl : q' = q := by omega
          omega
      have hcmp : (cmpI B[q].at' x.at' = -1 ∧ B[q].at' < x.at') ∨ (decide (cmpI B[q].at' x.at' < 0) = false ∧ ¬ B[q].at' < x.at') := by
        by_cases h : B[q].at' < x.at'
        · exact .inl ⟨cmpI_lt h, h⟩
        · refine .inr ⟨decide_eq_false ?_, h⟩
          by_cases h2 : x.at' < B[q].at'
          · rw [cmpI_gt h2]; omega
          · rw [cmpI_eq h h2]; omega
      have hbig : (m : Int) + (q : Int) < 9000000 := by omega
      generalize cmpI B[q].at' x.at' = cc at *
      generalize B[q] = u at *
      obtain ⟨ua, ur, us, ul⟩ := u
      obtain ⟨xa, xr, xs, xl⟩ := x
      simp only at p0 p1 p2 p3 q0 q1 q2 q3 hcmp
      rcases hcmp with ⟨rfl, hc⟩ | ⟨hc0, hc⟩
      · have HL2 := hlo2 hc
        clear hlo2 hhi2 hc
        go_wp2_with fail
        refine wp_region_past (by kernel_rfl) (by kernel_rfl) ?_
        repeat (go_big_quiet_step ((go_at_call 27; exact Rets.quiet (HCx _).out)))
        refine wpQuiet_nil ?_
        intro z
        go_wp2
        go_roundw
        case rel => exact ⟨m + q + 1, j, by go_num, rfl, by omega, by omega, j2, HL2, Hhi, HW.out.more isext⟩
        case measure => simp [intOf]; omega
      · have HH2 := hhi2 hc
        clear hlo2 hhi2 hc
        go_wp2_with fail
        refine wp_region_past (by kernel_rfl) (by kernel_rfl) ?_
        repeat (go_big_quiet_step ((go_at_call 27; exact Rets.quiet (HCx _).out)))
        refine wpQuiet_nil ?_
        intro z
        go_wp2
        go_roundw
        case rel => exact ⟨i, m + q, rfl, by go_num, i1, by omega, by omega, Hlo, HH2, HW.out.more isext⟩
        case measure => simp [intOf]; omega
    · obtain rfl : i = j := by omega
      have hltz : decide ((i : Int) < (i : Int)) = false := decide_eq_false (by omega)
      have HEnd : Hid (B.take (i - m) ++ x :: B.drop (i - m) = Rul.mrg [x] B) := by
        show _ = _
        have hB' : Rul.Up (B.take (i - m) ++ B.drop (i - m)) := by rw [List.take_append_drop]; exact hB
        have := Rul.mrg_one (x := x) hB' (fun y hy => by
          obtain ⟨q, hq, rfl⟩ := List.getElem_of_mem hy
          rw [List.getElem_take]
          exact Hlo.out q (by simp at hq; omega) (by simp at hq; omega)) (fun y hy => by
          obtain ⟨q, hq, rfl⟩ := List.getElem_of_mem hy
          rw [List.getElem_drop]
          exact Hhi.out (i - m + q) (by simp at hq; omega) (by omega))
        rw [← this, List.take_append_drop]
      have HR0 : Hid (RW w0 wr g (P ++ (B.take (a - a) ++ x :: B.drop (a - a)) ++ S)) := by
        show RW _ _ _ _
        have := HW.out
        simpa using this
      have HLn : Hid (∀ t, t ≤ B.length → (P ++ (B.take t ++ x :: B.drop t) ++ S).length = N) := fun t ht => by
        have := Hd.out; simp at this ⊢; omega
      have HPl := Lib.hid hP
      clear Hlo Hhi HW HX HB Hd hN hx0
      go_wp2
      go_loopw [13] (fun kv wr2 => ∃ K : Nat, kv = .int .i64 K ∧ a ≤ K ∧ K + 1 ≤ i ∧ Hid (RW w0 wr2 g (P ++ (B.take (K - a) ++ x :: B.drop (K - a)) ++ S))) (fun kv _ => i - (intOf kv).toNat)
      case atStart => exact ⟨a, rfl, by omega, by omega, HR0⟩
      case round =>
        clear HR0
        obtain ⟨K, rfl, k1, k2, HW⟩ := hrel
        by_cases hk : K + 1 < i
        · have hkz : (K : Int) < (i : Int) - 1 := by omega
          obtain ⟨t, rfl⟩ : ∃ t, K = a + t := ⟨K - a, by omega⟩
          have ht : t < B.length := by omega
          rw [show a + t - a = t by omega] at HW
          have hD : P ++ (B.take t ++ x :: B.drop t) ++ S = (P ++ B.take t) ++ x :: ([] ++ B[t] :: (B.drop (t + 1) ++ S)) := by
            rw [List.drop_eq_getElem_cons ht]; simp only [List.append_assoc, List.cons_append, List.nil_append]
          have hD' : P ++ (B.take (t + 1) ++ x :: B.drop (t + 1)) ++ S = (P ++ B.take t) ++ B[t] :: ([] ++ x :: (B.drop (t + 1) ++ S)) := by
            rw [List.take_succ_eq_append_getElem ht]; simp only [List.append_assoc, List.cons_append, List.nil_append]
          have hl1 := HLn.out t (by omega)
          have hl2 := HLn.out (t + 1) (by omega)
          have hpt : (P ++ B.take t).length = a + t := by have := HPl.out; simp; omega
          have hsw : swp (P ++ (B.take t ++ x :: B.drop t) ++ S).toArray (a + t) (a + t + 1) = (P ++ (B.take (t + 1) ++ x :: B.drop (t + 1)) ++ S).toArray := by
            rw [hD, hD', swp_mid _ _ _ _ _ _ _ (by rw [hpt]) (by rw [hpt]; rfl)]
          have hi1 : a + t < (P ++ (B.take t ++ x :: B.drop t) ++ S).length := by omega
          have hi2 : a + t + 1 < (P ++ (B.take t ++ x :: B.drop t) ++ S).length := by omega
          have hX : (P ++ (B.take t ++ x :: B.drop t) ++ S)[a + t] = x := by
            simp only [hD]
            rw [List.getElem_append_right (by omega)]
            simp [hpt]
          have hY : (P ++ (B.take t ++ x :: B.drop t) ++ S)[a + t + 1] = B[t] := by
            simp only [hD]
            rw [List.getElem_append_right (by omega)]
            simp [hpt]
          have hsN := HW.out.swap (a + t) (a + t + 1) hi1 hi2 hsw (by omega)
          have cX := HW.out.at' (a + t) hi1
          have cY := HW.out.at' (a + t + 1) hi2
          rw [hX] at cX hsN
          rw [hY] at cY hsN
          have HS := Lib.hid hsN
          have hbd : (a : Int) + t + 1 < N := by omega
          have ea : ((a : Int) + (t : Int)).toNat = a + t := by omega
          have eb : ((a : Int) + (t : Int) + 1).toNat = a + t + 1 := by omega
          have mixed : Try.prog.follows .mixedOrders = true := by kernel_rfl
          clear hsN hX hY hi1 hi2 hsw hpt hl1 hl2 hD hD' HW
          generalize B[t] = u at *
          obtain ⟨ua, ur, us, ul⟩ := u
          obtain ⟨xa, xr, xs, xl⟩ := x
          simp only at cX cY HS
          obtain ⟨x0, x1, x2, x3, f0, f1, f2, f3⟩ := cX
          obtain ⟨v0, v1, v2, v3, h0, h1, h2, h3⟩ := cY
          go_wp2_with fail
          go_big_region_o
          all_goals go_wp2
          go_roundw
          case rel =>
            refine ⟨a + t + 1, by go_num, by omega, by omega, ?_⟩
            show RW _ _ _ _
            rw [show a + t + 1 - a = t + 1 by omega]
            simp only [drew_set]
            exact HS.out
          case measure => simp [intOf]; omega
        · have hkz : decide ((K : Int) < (i : Int) - 1) = false := decide_eq_false (by omega)
          rw [show i - m = K - a by omega] at HEnd
          rw [HEnd.out] at HW
          clear HLn HEnd
          go_wp2
          exact bodyPost_ret (v := .tuple #[]) (by simp [results, Try.f59, go_sem]) rfl ⟨rfl, HW.out⟩
end Go.Proofs.Ytodcgalcpnckaaa
