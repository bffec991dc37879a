/- Walks of rules: the library's merge of two runs, at turns: the cut in the midst. -/
import Derived.Test.YtodcgalcpnckaaaRulSortD
set_option linter.unusedVariables false
set_option linter.unusedSimpArgs false
namespace Go.Proofs.Ytodcgalcpnckaaa
open Go.RowKit Go.Sort Go.Shelf

/-- The library's merge, at turns. -/
def Merges (w0 W : World) (g cap N : Nat) (P A B S : List Turn) (a m b : Nat) : Prop :=
  Calls Try.prog 59 #[.slice (some ⟨g, 0, none⟩) N cap, .int .i64 a, .int .i64 m, .int .i64 b, .func (.func 27) #[] #[]] W fun e w' => e = .returned (.tuple #[]) ∧ RW w0 w' g (P ++ Rul.mrg A B ++ S)
theorem up_get {A : List Turn} (h : Rul.Up A) {i j : Nat} (hj : j < A.length) (hij : i ≤ j) : (A[i]'(by omega)).at' ≤ A[j].at' := by
  rcases Nat.lt_or_ge i j with h1 | h1
  · exact (List.pairwise_iff_getElem.1 h) i j (by omega) hj h1
  · obtain rfl : i = j := by omega
    exact Int.le_refl _
/-- What lies where the cut is sought. -/
theorem cut_rows (A B : List Turn) (hA : Rul.Up A) (hB : Rul.Up B) (a m b n lo r0 s : Nat) (hAl : a + A.length = m) (hBl : m + B.length = b) (h1 : a ≤ s) (h2 : s ≤ m) (h3 : m ≤ n - s) (h4 : n - s ≤ b) (hsn : s ≤ n)
    (hlo : lo ≤ s) (hr0 : s ≤ r0) (hloC : lo = a ∨ n - lo = b) (hrC : r0 = m ∨ n - r0 = m)
    (I1 : ∀ c (h1 : a ≤ c) (hc : c - a < A.length) (hd : n - 1 - c - m < B.length), lo ≤ c → c < s → A[c - a].at' ≤ B[n - 1 - c - m].at')
    (I2 : ∀ c (h1 : a ≤ c) (hc : c - a < A.length) (hd : n - 1 - c - m < B.length), s ≤ c → c < r0 → B[n - 1 - c - m].at' < A[c - a].at') :
    Rul.mrg A B = Rul.mrg (A.take (s - a)) (B.take (n - s - m)) ++ Rul.mrg (A.drop (s - a)) (B.drop (n - s - m)) := by
  have hA' : Rul.Up (A.take (s - a) ++ A.drop (s - a)) := by rw [List.take_append_drop]; exact hA
  have hB' : Rul.Up (B.take (n - s - m) ++ B.drop (n - s - m)) := by rw [List.take_append_drop]; exact hB
  have := Rul.mrg_cut hA' hB' (fun x hx y hy => ?_) (fun y hy x hx => ?_)
  · rw [List.take_append_drop, List.take_append_drop] at this; exact this
  · obtain ⟨i, hi, rfl⟩ := List.getElem_of_mem hx
    obtain ⟨j, hj, rfl⟩ := List.getElem_of_mem hy
    rw [List.getElem_take, List.getElem_drop]
    simp only [List.length_take, List.length_drop] at hi hj
    have hls : lo < s := by
      rcases Nat.lt_or_ge lo s with h | h
      · exact h
      · exfalso
        have : s = lo := by omega
        rcases hloC with h5 | h5 <;> omega
    have k := I1 (s - 1) (by omega) (by omega) (by omega) (by omega) (by omega)
    have u1 := up_get hA (i := i) (j := s - 1 - a) (by omega) (by omega)
    have u2 := up_get hB (i := n - 1 - (s - 1) - m) (j := n - s - m + j) (by omega) (by omega)
    omega
  · obtain ⟨i, hi, rfl⟩ := List.getElem_of_mem hx
    obtain ⟨j, hj, rfl⟩ := List.getElem_of_mem hy
    rw [List.getElem_take, List.getElem_drop]
    simp only [List.length_take, List.length_drop] at hi hj
    have hsr : s < r0 := by
      rcases Nat.lt_or_ge s r0 with h | h
      · exact h
      · exfalso
        have : s = r0 := by omega
        rcases hrC with h5 | h5 <;> omega
    have k := I2 s (by omega) (by omega) (by omega) (by omega) (by omega)
    have u1 := up_get hA (i := s - a) (j := s - a + i) (by omega) (by omega)
    have u2 := up_get hB (i := j) (j := n - 1 - s - m) (by omega) (by omega)
    omega
set_option maxRecDepth 100000 in
set_option maxHeartbeats 16000000 in
theorem merge_gen (P A B S : List Turn) (a m b mid n lo r0 p N g cap : Nat) (w0 W : World) (hP : P.length = a) (hAl : a + A.length = m) (hBl : m + B.length = b) (hA2 : 2 ≤ A.length) (hB2 : 2 ≤ B.length) (hA : Rul.Up A) (hB : Rul.Up B)
    (hN : (P ++ A ++ B ++ S).length = N) (h : RW w0 W g (P ++ A ++ B ++ S)) (hsz : N < 1000)
    (hmid : ((a : Int) + (b : Int)) / 2 = (mid : Int)) (hn : (mid : Int) + (m : Int) = (n : Int)) (hp : (n : Int) - 1 = (p : Int))
    (hcase : (mid < m ∧ (n : Int) - (b : Int) = (lo : Int) ∧ r0 ≤ mid ∧ mid ≤ r0) ∨ (m ≤ mid ∧ lo ≤ a ∧ a ≤ lo ∧ r0 ≤ m ∧ m ≤ r0))
    (IH : ∀ (P A B S : List Turn) (a' m' b' : Nat) (W : World), b' - a' < b - a → P.length = a' → a' + A.length = m' → m' + B.length = b' → 0 < A.length → 0 < B.length → Rul.Up A → Rul.Up B → (P ++ A ++ B ++ S).length = N → RW w0 W g (P ++ A ++ B ++ S) → Merges w0 W g cap N P A B S a' m' b') :
    Merges w0 W g cap N P A B S a m b := by
  unfold Merges
  have hbN : b ≤ N := by simp at hN; omega
  have e0 : (((m : Int) - (a : Int)) == 1) = false := beq_eq_false_iff_ne.2 (by omega)
  have e1 : (((b : Int) - (m : Int)) == 1) = false := beq_eq_false_iff_ne.2 (by omega)
  have HC := fun u v w => Lib.hid (cmp_rets u v w)
  have eA : ∀ c (h1 : a ≤ c) (hq : c - a < A.length) (h9 : c < (P ++ A ++ B ++ S).length), (P ++ A ++ B ++ S)[c] = A[c - a] := fun c h1 hq h9 => by
    subst hP
    rw [List.getElem_append_left (by simp; omega), List.getElem_append_left (by simp; omega), List.getElem_append_right (by omega)]
  have eB : ∀ c (h1 : m ≤ c) (hq : c - m < B.length) (h9 : c < (P ++ A ++ B ++ S).length), (P ++ A ++ B ++ S)[c] = B[c - m] := fun c h1 hq h9 => by
    subst hP
    rw [List.getElem_append_left (by simp; omega), List.getElem_append_right (by simp; omega)]
    congr 1; simp; omega
  have Hd := Lib.hid hN
  have HEA := Lib.hid eA
  have HEB := Lib.hid eB
  have HI := Lib.hid IH
  have hm2 : mid + m ≤ n ∧ n ≤ mid + m := by omega
  have hmd : 2 * mid ≤ a + b ∧ a + b ≤ 2 * mid + 1 := by omega
  have hpn : p + 1 ≤ n ∧ n ≤ p + 1 := by omega
  obtain ⟨hm2, hm3⟩ := hm2
  obtain ⟨hmd, hmd2⟩ := hmd
  obtain ⟨hp1, hp2⟩ := hpn
  have hbd : ∀ s, lo ≤ s → s ≤ r0 → a ≤ s ∧ s ≤ m ∧ m ≤ n - s ∧ n - s ≤ b ∧ s ≤ n := fun s g1 g2 => by rcases hcase with ⟨q1, q2, q3, q4⟩ | ⟨q1, q2, q3, q4, q5⟩ <;> omega
  have hlr : lo ≤ r0 := by rcases hcase with ⟨q1, q2, q3, q4⟩ | ⟨q1, q2, q3, q4, q5⟩ <;> omega
  have hloC : lo = a ∨ n - lo = b := by rcases hcase with ⟨q1, q2, q3, q4⟩ | ⟨q1, q2, q3, q4, q5⟩ <;> omega
  have hrC : r0 = m ∨ n - r0 = m := by rcases hcase with ⟨q1, q2, q3, q4⟩ | ⟨q1, q2, q3, q4, q5⟩ <;> omega
  have HBd := Lib.hid hbd
  have HlC := Lib.hid hloC
  have HrC := Lib.hid hrC
  have HPl := Lib.hid hP
  have HAl := Lib.hid hAl
  have HBl := Lib.hid hBl
  have hAn : A.length ≤ m - a ∧ m - a ≤ A.length := by omega
  have hBn : B.length ≤ b - m ∧ b - m ≤ B.length := by omega
  obtain ⟨an1, an2⟩ := hAn
  obtain ⟨bn1, bn2⟩ := hBn
  clear eA eB IH hbd hloC hrC hN hP hAl hBl
  have am : a + 2 ≤ m := by have := HAl.out; omega
  have mb : m + 2 ≤ b := by have := HBl.out; omega
  rcases hcase with ⟨q1, q2, q3, q4⟩ | ⟨q1, q2, q3, q4, q5⟩
  all_goals
    first
    | (have q1z : (mid : Int) < (m : Int) := by omega)
    | (have q1z : decide ((mid : Int) < (m : Int)) = false := decide_eq_false (by omega))
    go_enter Try.func59, Try.ntmps59
    go_wp2
    go_loopw [20, 21] (fun sv rv wr => ∃ s r : Nat, sv = .int .i64 s ∧ rv = .int .i64 r ∧ lo ≤ s ∧ s ≤ r ∧ r ≤ r0 ∧ Hid (∀ c (h1 : a ≤ c) (hc : c - a < A.length) (hd : n - 1 - c - m < B.length), lo ≤ c → c < s → A[c - a].at' ≤ B[n - 1 - c - m].at') ∧ Hid (∀ c (h1 : a ≤ c) (hc : c - a < A.length) (hd : n - 1 - c - m < B.length), r ≤ c → c < r0 → B[n - 1 - c - m].at' < A[c - a].at') ∧ Hid (RW w0 wr g (P ++ A ++ B ++ S))) (fun sv rv _ => (intOf rv - intOf sv).toNat)
    case atStart => exact ⟨lo, r0, ret_i64 (by omega), ret_i64 (by omega), by omega, hlr, by omega, fun c h1 hc hd g1 g2 => absurd g1 (by omega), fun c h1 hc hd g1 g2 => absurd g1 (by omega), h⟩
    case round =>
      clear h
      obtain ⟨s, r, rfl, rfl, s1, s2, s3, H1, H2, HW⟩ := hrel
      by_cases hlt : s < r
      · have hltz : (s : Int) < (r : Int) := by omega
        obtain ⟨c, hc, hc1, hc2⟩ : ∃ c : Nat, ((s : Int) + (r : Int)) / 2 = (c : Int) ∧ s ≤ c ∧ c < r := ⟨(s + r) / 2, by omega, by omega, by omega⟩
        obtain ⟨k1, k2, k3, k4, k5⟩ := HBd.out c (by omega) (by omega)
        obtain ⟨l1, l2, l3, l4, l5⟩ := HBd.out (c + 1) (by omega) (by omega)
        obtain ⟨pc, hpc, hpc1⟩ : ∃ pc : Nat, (p : Int) - (c : Int) = (pc : Int) ∧ pc = n - 1 - c := ⟨n - 1 - c, by omega, rfl⟩
        have hca : c - a < A.length := by omega
        have hpm : n - 1 - c - m < B.length := by omega
        have i1 : c < (P ++ A ++ B ++ S).length := by rw [Hd.out]; omega
        have i2 : pc < (P ++ A ++ B ++ S).length := by rw [Hd.out]; omega
        have c0 := HW.out.at' c i1
        have c1 := HW.out.at' pc i2
        rw [HEA.out c k1 hca i1] at c0
        have hpcm : pc - m < B.length := by omega
        rw [HEB.out pc (by omega) hpcm i2] at c1
        obtain ⟨p0, p1, p2, p3, -⟩ := c0
        obtain ⟨v0, v1, v2, v3, -⟩ := c1
        haveI : InW g wr := ⟨HW.out.lt⟩
        have hBB : (B[pc - m]'hpcm) = B[n - 1 - c - m] := by congr 1; omega
        rw [hBB] at v0 v1 v2 v3
        have HCx := fun w => HC B[n - 1 - c - m] A[c - a] w
        have hlo2 : ¬ B[n - 1 - c - m].at' < A[c - a].at' → Hid (∀ c' (h1 : a ≤ c') (hc : c' - a < A.length) (hd : n - 1 - c' - m < B.length), lo ≤ c' → c' < c + 1 → A[c' - a].at' ≤ B[n - 1 - c' - m].at') := fun h c' h1 hc' hd g1 g2 => by
          have u1 := up_get hA (i := c' - a) (j := c - a) hca (by omega)
          have u2 := up_get hB (i := n - 1 - c - m) (j := n - 1 - c' - m) hd (by omega)
          omega
        have hhi2 : B[n - 1 - c - m].at' < A[c - a].at' → Hid (∀ c' (h1 : a ≤ c') (hc : c' - a < A.length) (hd : n - 1 - c' - m < B.length), c ≤ c' → c' < r0 → B[n - 1 - c' - m].at' < A[c' - a].at') := fun h c' h1 hc' hd g1 g2 => by
          have u1 := up_get hA (i := c - a) (j := c' - a) hc' (by omega)
          have u2 := up_get hB (i := n - 1 - c' - m) (j := n - 1 - c - m) hpm (by omega)
          omega
        have hcmp : (cmpI B[n - 1 - c - m].at' A[c - a].at' = -1 ∧ B[n - 1 - c - m].at' < A[c - a].at') ∨ (decide (cmpI B[n - 1 - c - m].at' A[c - a].at' < 0) = false ∧ ¬ B[n - 1 - c - m].at' < A[c - a].at') := by
          by_cases h : B[n - 1 - c - m].at' < A[c - a].at'
          · exact .inl ⟨cmpI_lt h, h⟩
          · refine .inr ⟨decide_eq_false ?_, h⟩
            by_cases h2 : A[c - a].at' < B[n - 1 - c - m].at'
            · rw [cmpI_gt h2]; omega
            · rw [cmpI_eq h h2]; omega
        clear hBB hpcm i1 i2
        generalize cmpI B[n - 1 - c - m].at' A[c - a].at' = cc at *
        generalize B[n - 1 - c - m] = u at *
        generalize A[c - a] = t at *
        obtain ⟨ua, ur, us, ul⟩ := u
        obtain ⟨ta, tr, ts, tl⟩ := t
        simp only at p0 p1 p2 p3 v0 v1 v2 v3 hcmp
        clear hpc1
        rcases hcmp with ⟨rfl, hc9⟩ | ⟨hc0, hc9⟩
        · have HH2 := hhi2 hc9
          clear hlo2 hhi2 hc9
          go_wp2_with fail
          refine wp_region_past (by kernel_rfl) (by kernel_rfl) ?_
          repeat (go_big_quiet_step ((go_at_call 27; exact Rets.quiet (HCx _).out)))
          refine wpQuiet_nil ?_
          intro z
          go_wp2
          go_roundw
          case rel => exact ⟨s, c, rfl, rfl, s1, by omega, by omega, H1, HH2, HW.out.more isext⟩
          case measure => simp [intOf]; omega
        · have HL2 := hlo2 hc9
          clear hlo2 hhi2 hc9
          go_wp2_with fail
          refine wp_region_past (by kernel_rfl) (by kernel_rfl) ?_
          repeat (go_big_quiet_step ((go_at_call 27; exact Rets.quiet (HCx _).out)))
          refine wpQuiet_nil ?_
          intro z
          go_wp2
          go_roundw
          case rel => exact ⟨c + 1, r, by go_num, rfl, by omega, by omega, by omega, HL2, H2, HW.out.more isext⟩
          case measure => simp [intOf]; omega
      · obtain rfl : s = r := by omega
        have hltz : decide ((s : Int) < (s : Int)) = false := decide_eq_false (by omega)
        obtain ⟨k1, k2, k3, k4, k5⟩ := HBd.out s s1 s3
        have hcut := cut_rows A B hA hB a m b n lo r0 s HAl.out HBl.out k1 k2 k3 k4 k5 s1 s3 HlC.out HrC.out H1.out H2.out
        have hAe : A.take (s - a) ++ A.drop (s - a) = A := List.take_append_drop _ _
        have hBe : B.take (n - s - m) ++ B.drop (n - s - m) = B := List.take_append_drop _ _
        have lA1 : (A.take (s - a)).length = s - a := by rw [List.length_take]; omega
        have lA2 : (A.drop (s - a)).length = m - s := by rw [List.length_drop]; omega
        have lB1 : (B.take (n - s - m)).length = mid - s := by rw [List.length_take]; omega
        have lB2 : (B.drop (n - s - m)).length = b - (n - s) := by rw [List.length_drop]; omega
        obtain ⟨e, he, he2, he3⟩ : ∃ e : Nat, (n : Int) - (s : Int) = (e : Int) ∧ e ≤ n - s ∧ n - s ≤ e := ⟨n - s, by omega, by omega, by omega⟩
        generalize A.take (s - a) = A1 at *
        generalize A.drop (s - a) = A2 at *
        generalize B.take (n - s - m) = B1 at *
        generalize B.drop (n - s - m) = B2 at *
        have uA : Rul.Up (A1 ++ A2) := by rw [hAe]; exact hA
        have uB : Rul.Up (B1 ++ B2) := by rw [hBe]; exact hB
        have hL0 : P ++ A ++ B ++ S = (P ++ A1) ++ A2 ++ B1 ++ (B2 ++ S) := by rw [← hAe, ← hBe]; simp
        have hN0 := Hd.out
        rw [hL0] at hN0
        have hl0 : P.length = a := HPl.out
        have HRo : s < m → m < e → ∀ w', RW w0 w' g (P ++ A ++ B ++ S) → Hid (Calls Try.prog 70 #[.slice (some ⟨g, 0, none⟩) N cap, .int .i64 s, .int .i64 m, .int .i64 e, .func (.func 27) #[] #[]] w' fun e w'' => e = .returned (.tuple #[]) ∧ RW w0 w'' g (P ++ A1 ++ B1 ++ (A2 ++ B2 ++ S))) := fun g1 g2 w' hw => by
          rw [hL0] at hw
          have := rotate_rw (P ++ A1) A2 B1 (B2 ++ S) s m e N g cap w0 w' (by simp; omega) (by omega) (by omega) (by omega) (by omega) hN0 hw (by omega)
          refine this.mono ?_
          rintro _ w'' ⟨rfl, h9⟩
          exact ⟨rfl, by simpa using h9⟩
        have HS1 : a < s → s < mid → ∀ w', RW w0 w' g (P ++ A1 ++ B1 ++ (A2 ++ B2 ++ S)) → Hid (Calls Try.prog 59 #[.slice (some ⟨g, 0, none⟩) N cap, .int .i64 a, .int .i64 s, .int .i64 mid, .func (.func 27) #[] #[]] w' fun e w'' => e = .returned (.tuple #[]) ∧ RW w0 w'' g (P ++ Rul.mrg A1 B1 ++ A2 ++ B2 ++ S)) := fun g1 g2 w' hw => by
          have := HI.out P A1 B1 (A2 ++ B2 ++ S) a s mid w' (by omega) hl0 (by omega) (by omega) (by omega) (by omega) (Rul.up_left uA) (Rul.up_left uB) (by rw [← hN0]; simp; omega) hw
          refine this.mono ?_
          rintro _ w'' ⟨rfl, h9⟩
          exact ⟨rfl, by simpa using h9⟩
        have HS2 : mid < e → e < b → ∀ w', RW w0 w' g (P ++ Rul.mrg A1 B1 ++ A2 ++ B2 ++ S) → Hid (Calls Try.prog 59 #[.slice (some ⟨g, 0, none⟩) N cap, .int .i64 mid, .int .i64 e, .int .i64 b, .func (.func 27) #[] #[]] w' fun e w'' => e = .returned (.tuple #[]) ∧ RW w0 w'' g (P ++ Rul.mrg A B ++ S)) := fun g1 g2 w' hw => by
          have := HI.out (P ++ Rul.mrg A1 B1) A2 B2 S mid e b w' (by omega) (by rw [List.length_append, Rul.mrg_length]; omega) (by omega) (by omega) (by omega) (by omega) (Rul.up_right uA) (Rul.up_right uB) (by rw [← hN0]; simp [Rul.mrg_length]; omega) hw
          refine this.mono ?_
          rintro _ w'' ⟨rfl, h9⟩
          refine ⟨rfl, ?_⟩
          rw [hcut]
          simpa using h9
        have E01 : ¬ (s < m ∧ m < e) → Hid (P ++ A ++ B ++ S = P ++ A1 ++ B1 ++ (A2 ++ B2 ++ S)) := fun h => by
          show _ = _
          rw [hL0]
          by_cases h1 : s < m
          · obtain rfl := List.eq_nil_of_length_eq_zero (show B1.length = 0 by omega)
            simp
          · obtain rfl := List.eq_nil_of_length_eq_zero (show A2.length = 0 by omega)
            simp
        have E12 : ¬ (a < s ∧ s < mid) → Hid (P ++ A1 ++ B1 ++ (A2 ++ B2 ++ S) = P ++ Rul.mrg A1 B1 ++ A2 ++ B2 ++ S) := fun h => by
          show _ = _
          by_cases h1 : a < s
          · obtain rfl := List.eq_nil_of_length_eq_zero (show B1.length = 0 by omega)
            simp [Rul.mrg]
          · obtain rfl := List.eq_nil_of_length_eq_zero (show A1.length = 0 by omega)
            rw [Rul.mrg_nil_up (Rul.up_left uB)]; simp
        have E23 : ¬ (mid < e ∧ e < b) → Hid (P ++ Rul.mrg A1 B1 ++ A2 ++ B2 ++ S = P ++ Rul.mrg A B ++ S) := fun h => by
          show _ = _
          rw [hcut]
          by_cases h1 : mid < e
          · obtain rfl := List.eq_nil_of_length_eq_zero (show B2.length = 0 by omega)
            simp [Rul.mrg]
          · obtain rfl := List.eq_nil_of_length_eq_zero (show A2.length = 0 by omega)
            rw [Rul.mrg_nil_up (Rul.up_right uB)]; simp
        have hme : m < e ↔ s < mid := by omega
        have hsm : s < m ↔ mid < e := by omega
        clear hL0 hN0 hcut H1 H2 HI HEA HEB HBd HlC HrC uA uB hAe hBe lA1 lA2 lB1 lB2
        by_cases hx : s < m
        · by_cases hy : m < e
          · by_cases hz1 : a < s
            · by_cases hz2 : e < b
              · try (exfalso; omega)
                all_goals
                  have f1 : (s : Int) < (m : Int) := by omega
                  have f2 : (m : Int) < (e : Int) := by omega
                  have f3 : (a : Int) < (s : Int) := by omega
                  have f4 : (s : Int) < (mid : Int) := by omega
                  have f5 : (mid : Int) < (e : Int) := by omega
                  have f6 : (e : Int) < (b : Int) := by omega
                  go_wp2_with fail
                  all_goals
                    go_at_call 70
                    refine (HRo (by omega) (by omega) _ HW.out).out.mono ?_
                    rintro _ w1' ⟨rfl, h9⟩
                    have HW1 := Lib.hid h9
                    clear h9
                    go_wp2_with fail
                    all_goals
                      go_at_call 59
                      refine (HS1 (by omega) (by omega) _ HW1.out).out.mono ?_
                      rintro _ w2' ⟨rfl, h9⟩
                      have HW2 := Lib.hid h9
                      clear h9
                      go_wp2_with fail
                      all_goals
                        go_at_call 59
                        refine (HS2 (by omega) (by omega) _ HW2.out).out.mono ?_
                        rintro _ w3' ⟨rfl, h9⟩
                        have HW3 := Lib.hid h9
                        clear h9
                        go_wp2
                        all_goals
                          go_end0
                          exact ⟨rfl, HW3.out⟩
              · try (exfalso; omega)
                all_goals
                  have f1 : (s : Int) < (m : Int) := by omega
                  have f2 : (m : Int) < (e : Int) := by omega
                  have f3 : (a : Int) < (s : Int) := by omega
                  have f4 : (s : Int) < (mid : Int) := by omega
                  have f5 : (mid : Int) < (e : Int) := by omega
                  have f6 : decide ((e : Int) < (b : Int)) = false := decide_eq_false (by omega)
                  go_wp2_with fail
                  all_goals
                    go_at_call 70
                    refine (HRo (by omega) (by omega) _ HW.out).out.mono ?_
                    rintro _ w1' ⟨rfl, h9⟩
                    have HW1 := Lib.hid h9
                    clear h9
                    go_wp2_with fail
                    all_goals
                      go_at_call 59
                      refine (HS1 (by omega) (by omega) _ HW1.out).out.mono ?_
                      rintro _ w2' ⟨rfl, h9⟩
                      have HW2 := Lib.hid h9
                      clear h9
                      rw [(E23 (by omega)).out] at HW2
                      go_wp2
                      all_goals
                        go_end0
                        exact ⟨rfl, HW2.out⟩
            · by_cases hz2 : e < b
              · try (exfalso; omega)
                all_goals
                  have f1 : (s : Int) < (m : Int) := by omega
                  have f2 : (m : Int) < (e : Int) := by omega
                  have f3 : decide ((a : Int) < (s : Int)) = false := decide_eq_false (by omega)
                  have f4 : (s : Int) < (mid : Int) := by omega
                  have f5 : (mid : Int) < (e : Int) := by omega
                  have f6 : (e : Int) < (b : Int) := by omega
                  go_wp2_with fail
                  all_goals
                    go_at_call 70
                    refine (HRo (by omega) (by omega) _ HW.out).out.mono ?_
                    rintro _ w1' ⟨rfl, h9⟩
                    have HW1 := Lib.hid h9
                    clear h9
                    rw [(E12 (by omega)).out] at HW1
                    go_wp2_with fail
                    all_goals
                      go_at_call 59
                      refine (HS2 (by omega) (by omega) _ HW1.out).out.mono ?_
                      rintro _ w2' ⟨rfl, h9⟩
                      have HW2 := Lib.hid h9
                      clear h9
                      go_wp2
                      all_goals
                        go_end0
                        exact ⟨rfl, HW2.out⟩
              · try (exfalso; omega)
                all_goals
                  have f1 : (s : Int) < (m : Int) := by omega
                  have f2 : (m : Int) < (e : Int) := by omega
                  have f3 : decide ((a : Int) < (s : Int)) = false := decide_eq_false (by omega)
                  have f4 : (s : Int) < (mid : Int) := by omega
                  have f5 : (mid : Int) < (e : Int) := by omega
                  have f6 : decide ((e : Int) < (b : Int)) = false := decide_eq_false (by omega)
                  go_wp2_with fail
                  all_goals
                    go_at_call 70
                    refine (HRo (by omega) (by omega) _ HW.out).out.mono ?_
                    rintro _ w1' ⟨rfl, h9⟩
                    have HW1 := Lib.hid h9
                    clear h9
                    rw [(E12 (by omega)).out] at HW1
                    rw [(E23 (by omega)).out] at HW1
                    go_wp2
                    all_goals
                      go_end0
                      exact ⟨rfl, HW1.out⟩
          · by_cases hz1 : a < s
            · by_cases hz2 : e < b
              · try (exfalso; omega)
                all_goals
                  have f1 : (s : Int) < (m : Int) := by omega
                  have f2 : decide ((m : Int) < (e : Int)) = false := decide_eq_false (by omega)
                  have f3 : (a : Int) < (s : Int) := by omega
                  have f4 : decide ((s : Int) < (mid : Int)) = false := decide_eq_false (by omega)
                  have f5 : (mid : Int) < (e : Int) := by omega
                  have f6 : (e : Int) < (b : Int) := by omega
                  rw [(E01 (by omega)).out] at HW
                  rw [(E12 (by omega)).out] at HW
                  go_wp2_with fail
                  all_goals
                    go_at_call 59
                    refine (HS2 (by omega) (by omega) _ HW.out).out.mono ?_
                    rintro _ w1' ⟨rfl, h9⟩
                    have HW1 := Lib.hid h9
                    clear h9
                    go_wp2
                    all_goals
                      go_end0
                      exact ⟨rfl, HW1.out⟩
              · try (exfalso; omega)
                all_goals
                  have f1 : (s : Int) < (m : Int) := by omega
                  have f2 : decide ((m : Int) < (e : Int)) = false := decide_eq_false (by omega)
                  have f3 : (a : Int) < (s : Int) := by omega
                  have f4 : decide ((s : Int) < (mid : Int)) = false := decide_eq_false (by omega)
                  have f5 : (mid : Int) < (e : Int) := by omega
                  have f6 : decide ((e : Int) < (b : Int)) = false := decide_eq_false (by omega)
                  rw [(E01 (by omega)).out] at HW
                  rw [(E12 (by omega)).out] at HW
                  rw [(E23 (by omega)).out] at HW
                  go_wp2
                  all_goals
                    go_end0
                    exact ⟨rfl, HW.out⟩
            · by_cases hz2 : e < b
              · try (exfalso; omega)
                all_goals
                  have f1 : (s : Int) < (m : Int) := by omega
                  have f2 : decide ((m : Int) < (e : Int)) = false := decide_eq_false (by omega)
                  have f3 : decide ((a : Int) < (s : Int)) = false := decide_eq_false (by omega)
                  have f4 : decide ((s : Int) < (mid : Int)) = false := decide_eq_false (by omega)
                  have f5 : (mid : Int) < (e : Int) := by omega
                  have f6 : (e : Int) < (b : Int) := by omega
                  rw [(E01 (by omega)).out] at HW
                  rw [(E12 (by omega)).out] at HW
                  go_wp2_with fail
                  all_goals
                    go_at_call 59
                    refine (HS2 (by omega) (by omega) _ HW.out).out.mono ?_
                    rintro _ w1' ⟨rfl, h9⟩
                    have HW1 := Lib.hid h9
                    clear h9
                    go_wp2
                    all_goals
                      go_end0
                      exact ⟨rfl, HW1.out⟩
              · try (exfalso; omega)
                all_goals
                  have f1 : (s : Int) < (m : Int) := by omega
                  have f2 : decide ((m : Int) < (e : Int)) = false := decide_eq_false (by omega)
                  have f3 : decide ((a : Int) < (s : Int)) = false := decide_eq_false (by omega)
                  have f4 : decide ((s : Int) < (mid : Int)) = false := decide_eq_false (by omega)
                  have f5 : (mid : Int) < (e : Int) := by omega
                  have f6 : decide ((e : Int) < (b : Int)) = false := decide_eq_false (by omega)
                  rw [(E01 (by omega)).out] at HW
                  rw [(E12 (by omega)).out] at HW
                  rw [(E23 (by omega)).out] at HW
                  go_wp2
                  all_goals
                    go_end0
                    exact ⟨rfl, HW.out⟩
        · by_cases hy : m < e
          · by_cases hz1 : a < s
            · by_cases hz2 : e < b
              · try (exfalso; omega)
                all_goals
                  have f1 : decide ((s : Int) < (m : Int)) = false := decide_eq_false (by omega)
                  have f2 : (m : Int) < (e : Int) := by omega
                  have f3 : (a : Int) < (s : Int) := by omega
                  have f4 : (s : Int) < (mid : Int) := by omega
                  have f5 : decide ((mid : Int) < (e : Int)) = false := decide_eq_false (by omega)
                  have f6 : (e : Int) < (b : Int) := by omega
                  rw [(E01 (by omega)).out] at HW
                  go_wp2_with fail
                  all_goals
                    go_at_call 59
                    refine (HS1 (by omega) (by omega) _ HW.out).out.mono ?_
                    rintro _ w1' ⟨rfl, h9⟩
                    have HW1 := Lib.hid h9
                    clear h9
                    rw [(E23 (by omega)).out] at HW1
                    go_wp2
                    all_goals
                      go_end0
                      exact ⟨rfl, HW1.out⟩
              · try (exfalso; omega)
                all_goals
                  have f1 : decide ((s : Int) < (m : Int)) = false := decide_eq_false (by omega)
                  have f2 : (m : Int) < (e : Int) := by omega
                  have f3 : (a : Int) < (s : Int) := by omega
                  have f4 : (s : Int) < (mid : Int) := by omega
                  have f5 : decide ((mid : Int) < (e : Int)) = false := decide_eq_false (by omega)
                  have f6 : decide ((e : Int) < (b : Int)) = false := decide_eq_false (by omega)
                  rw [(E01 (by omega)).out] at HW
                  go_wp2_with fail
                  all_goals
                    go_at_call 59
                    refine (HS1 (by omega) (by omega) _ HW.out).out.mono ?_
                    rintro _ w1' ⟨rfl, h9⟩
                    have HW1 := Lib.hid h9
                    clear h9
                    rw [(E23 (by omega)).out] at HW1
                    go_wp2
                    all_goals
                      go_end0
                      exact ⟨rfl, HW1.out⟩
            · by_cases hz2 : e < b
              · try (exfalso; omega)
                all_goals
                  have f1 : decide ((s : Int) < (m : Int)) = false := decide_eq_false (by omega)
                  have f2 : (m : Int) < (e : Int) := by omega
                  have f3 : decide ((a : Int) < (s : Int)) = false := decide_eq_false (by omega)
                  have f4 : (s : Int) < (mid : Int) := by omega
                  have f5 : decide ((mid : Int) < (e : Int)) = false := decide_eq_false (by omega)
                  have f6 : (e : Int) < (b : Int) := by omega
                  rw [(E01 (by omega)).out] at HW
                  rw [(E12 (by omega)).out] at HW
                  rw [(E23 (by omega)).out] at HW
                  go_wp2
                  all_goals
                    go_end0
                    exact ⟨rfl, HW.out⟩
              · try (exfalso; omega)
                all_goals
                  have f1 : decide ((s : Int) < (m : Int)) = false := decide_eq_false (by omega)
                  have f2 : (m : Int) < (e : Int) := by omega
                  have f3 : decide ((a : Int) < (s : Int)) = false := decide_eq_false (by omega)
                  have f4 : (s : Int) < (mid : Int) := by omega
                  have f5 : decide ((mid : Int) < (e : Int)) = false := decide_eq_false (by omega)
                  have f6 : decide ((e : Int) < (b : Int)) = false := decide_eq_false (by omega)
                  rw [(E01 (by omega)).out] at HW
                  rw [(E12 (by omega)).out] at HW
                  rw [(E23 (by omega)).out] at HW
                  go_wp2
                  all_goals
                    go_end0
                    exact ⟨rfl, HW.out⟩
          · by_cases hz1 : a < s
            · by_cases hz2 : e < b
              · try (exfalso; omega)
                all_goals
                  have f1 : decide ((s : Int) < (m : Int)) = false := decide_eq_false (by omega)
                  have f2 : decide ((m : Int) < (e : Int)) = false := decide_eq_false (by omega)
                  have f3 : (a : Int) < (s : Int) := by omega
                  have f4 : decide ((s : Int) < (mid : Int)) = false := decide_eq_false (by omega)
                  have f5 : decide ((mid : Int) < (e : Int)) = false := decide_eq_false (by omega)
                  have f6 : (e : Int) < (b : Int) := by omega
                  rw [(E01 (by omega)).out] at HW
                  rw [(E12 (by omega)).out] at HW
                  rw [(E23 (by omega)).out] at HW
                  go_wp2
                  all_goals
                    go_end0
                    exact ⟨rfl, HW.out⟩
              · try (exfalso; omega)
                all_goals
                  have f1 : decide ((s : Int) < (m : Int)) = false := decide_eq_false (by omega)
                  have f2 : decide ((m : Int) < (e : Int)) = false := decide_eq_false (by omega)
                  have f3 : (a : Int) < (s : Int) := by omega
                  have f4 : decide ((s : Int) < (mid : Int)) = false := decide_eq_false (by omega)
                  have f5 : decide ((mid : Int) < (e : Int)) = false := decide_eq_false (by omega)
                  have f6 : decide ((e : Int) < (b : Int)) = false := decide_eq_false (by omega)
                  rw [(E01 (by omega)).out] at HW
                  rw [(E12 (by omega)).out] at HW
                  rw [(E23 (by omega)).out] at HW
                  go_wp2
                  all_goals
                    go_end0
                    exact ⟨rfl, HW.out⟩
            · by_cases hz2 : e < b
              · try (exfalso; omega)
                all_goals
                  have f1 : decide ((s : Int) < (m : Int)) = false := decide_eq_false (by omega)
                  have f2 : decide ((m : Int) < (e : Int)) = false := decide_eq_false (by omega)
                  have f3 : decide ((a : Int) < (s : Int)) = false := decide_eq_false (by omega)
                  have f4 : decide ((s : Int) < (mid : Int)) = false := decide_eq_false (by omega)
                  have f5 : decide ((mid : Int) < (e : Int)) = false := decide_eq_false (by omega)
                  have f6 : (e : Int) < (b : Int) := by omega
                  rw [(E01 (by omega)).out] at HW
                  rw [(E12 (by omega)).out] at HW
                  rw [(E23 (by omega)).out] at HW
                  go_wp2
                  all_goals
                    go_end0
                    exact ⟨rfl, HW.out⟩
              · try (exfalso; omega)
                all_goals
                  have f1 : decide ((s : Int) < (m : Int)) = false := decide_eq_false (by omega)
                  have f2 : decide ((m : Int) < (e : Int)) = false := decide_eq_false (by omega)
                  have f3 : decide ((a : Int) < (s : Int)) = false := decide_eq_false (by omega)
                  have f4 : decide ((s : Int) < (mid : Int)) = false := decide_eq_false (by omega)
                  have f5 : decide ((mid : Int) < (e : Int)) = false := decide_eq_false (by omega)
                  have f6 : decide ((e : Int) < (b : Int)) = false := decide_eq_false (by omega)
                  rw [(E01 (by omega)).out] at HW
                  rw [(E12 (by omega)).out] at HW
                  rw [(E23 (by omega)).out] at HW
                  go_wp2
                  all_goals
                    go_end0
                    exact ⟨rfl, HW.out⟩
end Go.Proofs.Ytodcgalcpnckaaa
