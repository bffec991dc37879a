/- Walks of eras: numbers in digits, offsets told. -/
import Derived.Test.YtcjnficcggjeiaaDoorProg
import Derived.Test.YtcjnficcggjeiaaDoorPast
import Derived.Test.YtcjnficcggjeiaaDoorErsPlainB
import Derived.Laws.IdiomStrings
import Derived.Deep.RegionWith
import Derived.WalkSpells
import Derived.WalkLawsBesides
import Derived.Lib.IndexLaws
import Derived.Test.YtcjnficcggjeiaaDoorSrcWalkC
set_option linter.unusedVariables false
set_option linter.unusedSimpArgs false
namespace Go.Proofs.YtcjnficcggjeiaaDoor
open Go.RowKit

theorem eback_at (W : World) (B : Nat) (c : UInt8) (x : Int) (hx : (c.toNat : Int) = x) (h : W.cell? ⟨B, 0, none⟩ = some (.int .u8 x)) : (convert 65 9 (.slice (some ⟨B, 0, none⟩) 1 1)).run Tryd.prog W = .ok (.string ⟨#[c]⟩) W := by
  have := run_convert_bytes_back (P := Tryd.prog) W 65 9 5 ⟨B, 0, none⟩ 1 [c] Tryd.underlying65 Tryd.underlying5 Tryd.underlying9 (fun j hj => by
    obtain rfl : j = 0 := by simp at hj; exact hj
    have hadd : (⟨B, 0, none⟩ : Addr).add 0 = ⟨B, 0, none⟩ := by simp [Addr.add]
    rw [hadd, h, ← hx]; simp)
  exact this
theorem edig_nat (n : Nat) : ((Mom.dig n).toNat : Int) = 48 + (n % 10 : Nat) := by
  unfold Mom.dig; rw [UInt8.toNat_ofNat']; omega
theorem eten_parts (n : Nat) : ((n : Int).tdiv 10 = ((n / 10 : Nat) : Int)) ∧ ((n : Int).tmod 10 = ((n % 10 : Nat) : Int)) := by
  constructor
  · rw [Int.tdiv_eq_ediv_of_nonneg (by omega)]; omega
  · rw [Int.tmod_eq_emod_of_nonneg (by omega)]; omega
theorem eapp_cons (c : UInt8) (l : List UInt8) : (⟨#[c]⟩ : ByteArray) ++ ⟨l.toArray⟩ = ⟨(c :: l).toArray⟩ := by
  apply ByteArray.ext; simp [ByteArray.data_append]
theorem eapp (a b : List UInt8) : (⟨a.toArray⟩ : ByteArray) ++ ⟨b.toArray⟩ = ⟨(a ++ b).toArray⟩ := by
  apply ByteArray.ext; simp [ByteArray.data_append]
theorem un2_le (m : Nat) (l : List UInt8) : l.length ≤ (Ers.un2 m l).length := by
  unfold Ers.un2; rw [List.length_append]; omega
set_option maxRecDepth 100000 in
set_option maxHeartbeats 4000000 in
theorem etwo_any (N : Nat) (hN : (N : Int) < 1000000000000000000) (w : World) : Rets Tryd.prog 34 #[.int .i64 N] w (.string ⟨(Ers.twoL N).toArray⟩) := by
  have HL : Hid ((Ers.twoL N).length ≤ 18) := Ers.twoL_len N (by omega)
  unfold Rets
  go_enter Tryd.func34, Tryd.ntmps34
  go_wp2_with fail
  go_loopw [0, 3, 4] (fun nv sv iv wr => ∃ (m : Nat) (l : List UInt8), nv = .int .i64 m ∧ sv = .string ⟨l.toArray⟩ ∧ iv = .int .i64 l.length ∧ m ≤ N ∧ Hid (Ers.twoL N = Ers.un2 m l) ∧ Ext w wr) (fun nv _ iv _ => 2 * (intOf nv).toNat + (2 - (intOf iv).toNat))
  case atStart => exact ⟨N, [], rfl, rfl, rfl, Nat.le_refl _, (Ers.un2_start N).symm, isext⟩
  case round =>
    obtain ⟨m, l, rfl, rfl, rfl, m1, hu, hx⟩ := hrel
    obtain ⟨yr, rfl⟩ := fin hx
    clear hx
    have hl : l.length ≤ 18 := by have := un2_le m l; rw [← hu.out] at this; exact Nat.le_trans this HL.out
    by_cases h : m = 0 ∧ 2 ≤ l.length
    · obtain ⟨h1, h2⟩ := h
      have E : Hid (Ers.twoL N = l) := by have := hu.out; rw [h1] at this; exact this.trans (Ers.un2_end h2)
      have e2 : decide ((0 : Int) < m) = false := decide_eq_false (by omega)
      have e3 : decide (0 < m) = false := decide_eq_false (by omega)
      have e4 : decide ((l.length : Int) < 2) = false := decide_eq_false (by omega)
      have e5 : decide (l.length < 2) = false := decide_eq_false (by omega)
      clear hu h1
      go_wp2
      go_ret
      exact ⟨by rw [E.out]; first | done | rfl, done⟩
    · have E : Hid (Ers.twoL N = Ers.un2 (m / 10) (Mom.dig m :: l)) := hu.out.trans (Ers.un2_step h)
      have hd := edig_nat m
      obtain ⟨t1, t2⟩ := eten_parts m
      have hb := fun W B => eback_at W B (Mom.dig m) _ hd
      have r1 : m % 10 < 10 := by omega
      have q1 : m / 10 ≤ m := by omega
      have q2 : 0 < m → m / 10 < m := by omega
      have cs : (0 < m ∧ (0 : Int) < m) ∨ (m = 0 ∧ (l.length : Int) < 2 ∧ l.length < 2 ∧ decide (0 < m) = false ∧ decide ((0 : Int) < m) = false) := by
        by_cases h0 : m = 0
        · have : l.length < 2 := by
            by_cases h2 : 2 ≤ l.length
            · exact absurd ⟨h0, h2⟩ h
            · omega
          exact .inr ⟨h0, by omega, this, decide_eq_false (by omega), decide_eq_false (by omega)⟩
        · exact .inl ⟨by omega, by omega⟩
      clear h hu
      rcases cs with ⟨s1, s2⟩ | ⟨h0, s0, s3, s1, s2⟩
      · generalize Mom.dig m = c at *
        generalize m / 10 = q at *
        generalize m % 10 = r at *
        go_wp2
        go_roundw
        case rel => exact ⟨q, c :: l, rfl, by rw [eapp_cons], by simp, by omega, E, isext⟩
        case measure => simp [intOf]; omega
      · subst h0
        have E2 : Hid (Ers.twoL N = Ers.un2 0 (48 :: l)) := E.out
        have hb0 := fun W B => eback_at W B 48 48 rfl
        clear E hb hd t1 t2 q1 q2 r1
        go_wp2
        go_roundw
        case rel => exact ⟨0, 48 :: l, rfl, by rw [eapp_cons], by simp, by omega, E2, isext⟩
        case measure => simp [intOf]; omega
end Go.Proofs.YtcjnficcggjeiaaDoor
set_option linter.unusedVariables false
set_option linter.unusedSimpArgs false
namespace Go.Proofs.YtcjnficcggjeiaaDoor
open Go.RowKit

theorem ret_str {a b : ByteArray} (h : a.data.toList = b.data.toList) : Ending.returned (.string a) = Ending.returned (.string b) := by
  obtain ⟨⟨a⟩⟩ := a
  obtain ⟨⟨b⟩⟩ := b
  simp at h
  subst h; rfl
theorem off_parts (n : Int) (N : Nat) (hN : n.natAbs = N) : (0 ≤ n ∧ decide (n < 0) = false ∧ n / 3600 = (N / 3600 : Nat) ∧ n / 60 % 60 = (N / 60 % 60 : Nat) ∧ n % 60 = (N % 60 : Nat)) ∨
    (n < 0 ∧ n.tdiv 3600 = -((N / 3600 : Nat) : Int) ∧ (n.tdiv 60).tmod 60 = -((N / 60 % 60 : Nat) : Int) ∧ n.tmod 60 = -((N % 60 : Nat) : Int)) := by
  by_cases h : 0 ≤ n
  · left
    obtain rfl : n = (N : Int) := by omega
    exact ⟨h, decide_eq_false (by omega), by omega, by omega, by omega⟩
  · right
    obtain rfl : n = -(N : Int) := by omega
    refine ⟨by omega, ?_, ?_, ?_⟩
    · rw [Int.neg_tdiv, Int.tdiv_eq_ediv_of_nonneg (by omega)]; omega
    · rw [Int.neg_tdiv, Int.tdiv_eq_ediv_of_nonneg (by omega), Int.neg_tmod, Int.tmod_eq_emod_of_nonneg (by omega)]; omega
    · rw [Int.neg_tmod, Int.tmod_eq_emod_of_nonneg (by omega)]; omega
theorem told_cases (n : Int) (N : Nat) (hN : n.natAbs = N) : (N / 60 % 60 = 0 ∧ N % 60 = 0 ∧ Ers.toldL n = (if n < 0 then 45 else 43) :: Ers.twoL (N / 3600)) ∨ (N / 60 % 60 ≠ 0 ∧ N % 60 = 0 ∧ Ers.toldL n = (if n < 0 then 45 else 43) :: (Ers.twoL (N / 3600) ++ Ers.twoL (N / 60 % 60))) ∨
    (N % 60 ≠ 0 ∧ Ers.toldL n = (if n < 0 then 45 else 43) :: (Ers.twoL (N / 3600) ++ Ers.twoL (N / 60 % 60) ++ Ers.twoL (N % 60))) := by
  unfold Ers.toldL
  rw [hN]
  by_cases h1 : N % 60 = 0
  · by_cases h2 : N / 60 % 60 = 0
    · left
      have h3 : N % 3600 = 0 := by omega
      exact ⟨h2, h1, by rw [if_pos h3, if_pos h1]; simp⟩
    · right; left
      have h3 : ¬ N % 3600 = 0 := by omega
      exact ⟨h2, h1, by rw [if_neg h3, if_pos h1]; simp⟩
  · right; right
    have h3 : ¬ N % 3600 = 0 := by omega
    exact ⟨h1, by rw [if_neg h3, if_neg h1]⟩
set_option maxRecDepth 100000 in
set_option maxHeartbeats 4000000 in
theorem etold_any (n : Int) (n1 : -9223372036854775808 ≤ n) (n2 : n ≤ 9223372036854775807) (w : World) : Rets Tryd.prog 18 #[.int .i64 n] w (.string ⟨(Ers.toldL n).toArray⟩) := by
  obtain ⟨N, hN⟩ : ∃ N, n.natAbs = N := ⟨_, rfl⟩
  have hp := off_parts n N hN
  have hc := told_cases n N hN
  have HA := fun w => Lib.hid (etwo_any (N / 3600) (by omega) w)
  have HB := fun w => Lib.hid (etwo_any (N / 60 % 60) (by omega) w)
  have HC := fun w => Lib.hid (etwo_any (N % 60) (by omega) w)
  have la := Ers.twoL_len (N / 3600) (by omega)
  have lb := Ers.twoL_len (N / 60 % 60) (by omega)
  have lc := Ers.twoL_len (N % 60) (by omega)
  have hA : N / 3600 ≤ 9000000000000000 := by omega
  have hB : N / 60 % 60 < 60 := by omega
  have hC : N % 60 < 60 := by omega
  clear hN
  generalize N / 3600 = A at *
  generalize N / 60 % 60 = B at *
  generalize N % 60 = C at *
  obtain ⟨T, hT⟩ : ∃ T, Hid (Ers.toldL n = T) := ⟨_, rfl⟩
  rw [hT.out]
  rw [hT.out] at hc
  have hc : (B = 0 ∧ C = 0 ∧ Hid (T = (if n < 0 then 45 else 43) :: Ers.twoL A)) ∨ (B ≠ 0 ∧ C = 0 ∧ Hid (T = (if n < 0 then 45 else 43) :: (Ers.twoL A ++ Ers.twoL B))) ∨ (C ≠ 0 ∧ Hid (T = (if n < 0 then 45 else 43) :: (Ers.twoL A ++ Ers.twoL B ++ Ers.twoL C))) := hc
  clear hT
  generalize Ers.twoL A = a at *
  generalize Ers.twoL B = b at *
  generalize Ers.twoL C = c at *
  have hs : (B ≠ 0 → ((B : Int) != 0) = true ∧ ((-(B : Int)) != 0) = true ∧ ((B : Int) == 0) = false) := fun h => by
    have h1 : ((B : Int) == 0) = false := beq_eq_false_iff_ne.2 (by omega)
    have h2 : ((-(B : Int)) == 0) = false := beq_eq_false_iff_ne.2 (by omega)
    exact ⟨by unfold bne; rw [h1]; rfl, by unfold bne; rw [h2]; rfl, h1⟩
  have hs2 : (C ≠ 0 → ((C : Int) != 0) = true ∧ ((-(C : Int)) != 0) = true ∧ ((C : Int) == 0) = false) := fun h => by
    have h1 : ((C : Int) == 0) = false := beq_eq_false_iff_ne.2 (by omega)
    have h2 : ((-(C : Int)) == 0) = false := beq_eq_false_iff_ne.2 (by omega)
    exact ⟨by unfold bne; rw [h1]; rfl, by unfold bne; rw [h2]; rfl, h1⟩
  rcases hp with ⟨p1, p2, p3, p4, p5⟩ | ⟨p2, p3, p4, p5⟩
  · rcases hc with ⟨rfl, rfl, E⟩ | ⟨hb, rfl, E⟩ | ⟨hcc, E⟩
    · have E2 : Hid (T = 43 :: a) := by have := E.out; rwa [if_neg (by omega)] at this
      clear E hs hs2
      unfold Rets
      go_enter Tryd.func18, Tryd.ntmps18
      go_wp2_with fail
      go_at_call 34
      refine Rets.use (HA _).out ?_
      intro _
      go_wp2_with fail
      go_ret
      exact ⟨ret_str (by rw [E2.out]; simp [ByteArray.data_append]), done⟩
    · have E2 : Hid (T = 43 :: (a ++ b)) := by have := E.out; rwa [if_neg (by omega)] at this
      obtain ⟨x1, x2, x3⟩ := hs hb
      clear E hs hs2
      unfold Rets
      go_enter Tryd.func18, Tryd.ntmps18
      go_wp2_with fail
      go_at_call 34
      refine Rets.use (HA _).out ?_
      intro _
      go_wp2_with fail
      go_at_call 34
      refine Rets.use (HB _).out ?_
      intro _
      go_wp2_with fail
      go_ret
      exact ⟨ret_str (by rw [E2.out]; simp [ByteArray.data_append]), done⟩
    · have E2 : Hid (T = 43 :: (a ++ b ++ c)) := by have := E.out; rwa [if_neg (by omega)] at this
      obtain ⟨x1, x2, x3⟩ := hs2 hcc
      clear E hs hs2
      by_cases hb : B = 0
      · subst hb
        unfold Rets
        go_enter Tryd.func18, Tryd.ntmps18
        go_wp2_with fail
        go_at_call 34
        refine Rets.use (HA _).out ?_
        intro _
        go_wp2_with fail
        go_at_call 34
        refine Rets.use (HB _).out ?_
        intro _
        go_wp2_with fail
        go_at_call 34
        refine Rets.use (HC _).out ?_
        intro _
        go_wp2_with fail
        go_ret
        exact ⟨ret_str (by rw [E2.out]; simp [ByteArray.data_append]), done⟩
      · have x4 : ((B : Int) == 0) = false := beq_eq_false_iff_ne.2 (by omega)
        have x5 : ((-(B : Int)) == 0) = false := beq_eq_false_iff_ne.2 (by omega)
        have x6 : ((B : Int) != 0) = true := by unfold bne; rw [x4]; rfl
        have x7 : ((-(B : Int)) != 0) = true := by unfold bne; rw [x5]; rfl
        unfold Rets
        go_enter Tryd.func18, Tryd.ntmps18
        go_wp2_with fail
        go_at_call 34
        refine Rets.use (HA _).out ?_
        intro _
        go_wp2_with fail
        go_at_call 34
        refine Rets.use (HB _).out ?_
        intro _
        go_wp2_with fail
        go_at_call 34
        refine Rets.use (HC _).out ?_
        intro _
        go_wp2_with fail
        go_ret
        exact ⟨ret_str (by rw [E2.out]; simp [ByteArray.data_append]), done⟩
  · rcases hc with ⟨rfl, rfl, E⟩ | ⟨hb, rfl, E⟩ | ⟨hcc, E⟩
    · have E2 : Hid (T = 45 :: a) := by have := E.out; rwa [if_pos (by omega)] at this
      clear E hs hs2
      unfold Rets
      go_enter Tryd.func18, Tryd.ntmps18
      go_wp2_with fail
      go_at_call 34
      refine Rets.use (HA _).out ?_
      intro _
      go_wp2_with fail
      go_ret
      exact ⟨ret_str (by rw [E2.out]; simp [ByteArray.data_append]), done⟩
    · have E2 : Hid (T = 45 :: (a ++ b)) := by have := E.out; rwa [if_pos (by omega)] at this
      obtain ⟨x1, x2, x3⟩ := hs hb
      clear E hs hs2
      unfold Rets
      go_enter Tryd.func18, Tryd.ntmps18
      go_wp2_with fail
      go_at_call 34
      refine Rets.use (HA _).out ?_
      intro _
      go_wp2_with fail
      go_at_call 34
      refine Rets.use (HB _).out ?_
      intro _
      go_wp2_with fail
      go_ret
      exact ⟨ret_str (by rw [E2.out]; simp [ByteArray.data_append]), done⟩
    · have E2 : Hid (T = 45 :: (a ++ b ++ c)) := by have := E.out; rwa [if_pos (by omega)] at this
      obtain ⟨x1, x2, x3⟩ := hs2 hcc
      clear E hs hs2
      by_cases hb : B = 0
      · subst hb
        unfold Rets
        go_enter Tryd.func18, Tryd.ntmps18
        go_wp2_with fail
        go_at_call 34
        refine Rets.use (HA _).out ?_
        intro _
        go_wp2_with fail
        go_at_call 34
        refine Rets.use (HB _).out ?_
        intro _
        go_wp2_with fail
        go_at_call 34
        refine Rets.use (HC _).out ?_
        intro _
        go_wp2_with fail
        go_ret
        exact ⟨ret_str (by rw [E2.out]; simp [ByteArray.data_append]), done⟩
      · have x4 : ((B : Int) == 0) = false := beq_eq_false_iff_ne.2 (by omega)
        have x5 : ((-(B : Int)) == 0) = false := beq_eq_false_iff_ne.2 (by omega)
        have x6 : ((B : Int) != 0) = true := by unfold bne; rw [x4]; rfl
        have x7 : ((-(B : Int)) != 0) = true := by unfold bne; rw [x5]; rfl
        unfold Rets
        go_enter Tryd.func18, Tryd.ntmps18
        go_wp2_with fail
        go_at_call 34
        refine Rets.use (HA _).out ?_
        intro _
        go_wp2_with fail
        go_at_call 34
        refine Rets.use (HB _).out ?_
        intro _
        go_wp2_with fail
        go_at_call 34
        refine Rets.use (HC _).out ?_
        intro _
        go_wp2_with fail
        go_ret
        exact ⟨ret_str (by rw [E2.out]; simp [ByteArray.data_append]), done⟩
end Go.Proofs.YtcjnficcggjeiaaDoor
set_option linter.unusedVariables false
set_option linter.unusedSimpArgs false
namespace Go.Proofs.YtcjnficcggjeiaaDoor
open Go.RowKit

theorem etmod_neg (m : Nat) : (-(m : Int)).tmod 10 = -((m % 10 : Nat) : Int) ∧ (-(m : Int)).tdiv 10 = -((m / 10 : Nat) : Int) := by
  constructor
  · rw [Int.neg_tmod, Int.tmod_eq_emod_of_nonneg (by omega)]; omega
  · rw [Int.neg_tdiv, Int.tdiv_eq_ediv_of_nonneg (by omega)]; omega
theorem eu8 (r : Nat) (h : r < 10) : IntKind.u8.wrap (48 + (r : Int)) = 48 + r := by
  have : 0 ≤ (r : Int) := by omega
  simp [IntKind.wrap, IntKind.signed, IntKind.bits]; omega
set_option maxRecDepth 100000 in
set_option maxHeartbeats 4000000 in
theorem twice_small (N : Nat) (hN : N < 10) (n : Int) (hn : n = N ∨ n = -(N : Int)) (w : World) : Rets Tryd.prog 36 #[.int .i64 n] w (.string ⟨(Ers.twoL N).toArray⟩) := by
  have E : Hid (Ers.twoL N = [48, Mom.dig N]) := if_pos hN
  have hd := edig_nat N
  rw [show N % 10 = N by omega] at hd
  have hb := fun W B => eback_at W B (Mom.dig N) _ hd
  generalize Mom.dig N = c at *
  have g1 : -10 < n := by omega
  have g2 : n < 10 := by omega
  by_cases h : n < 0
  · obtain rfl : n = -(N : Int) := by omega
    clear hn
    unfold Rets
    go_enter Tryd.func36, Tryd.ntmps36
    go_wp2
    go_ret
    exact ⟨ret_str (by rw [E.out]; simp [ByteArray.data_append]), done⟩
  · obtain rfl : n = (N : Int) := by omega
    have h' : decide ((N : Int) < 0) = false := decide_eq_false h
    clear hn h
    unfold Rets
    go_enter Tryd.func36, Tryd.ntmps36
    go_wp2
    go_ret
    exact ⟨ret_str (by rw [E.out]; simp [ByteArray.data_append]), done⟩
theorem decN_len (N : Nat) (h : N ≤ 9000000000000000) : (Ers.decN N).length ≤ 18 := by
  unfold Ers.decN
  split
  · simp
  · exact Mom.dec_len 18 N (by omega) (by omega)
set_option maxRecDepth 100000 in
set_option maxHeartbeats 4000000 in
theorem twice_big (N : Nat) (hN : 10 ≤ N) (hx : N ≤ 9000000000000000) (w : World) : Rets Tryd.prog 36 #[.int .i64 N] w (.string ⟨(Ers.twoL N).toArray⟩) := by
  have HL : Hid ((Ers.decN N).length ≤ 18) := decN_len N hx
  have E0 : Hid (Ers.twoL N = Ers.decN N) := Ers.twoL_big (by omega)
  have hN1 : (10 : Int) ≤ N := by omega
  have HX := Lib.hid hx
  clear hx
  clear hN
  have g2 : decide ((N : Int) < 10) = false := decide_eq_false (by omega)
  unfold Rets
  go_enter Tryd.func36, Tryd.ntmps36
  go_wp2_with fail
  go_loopw [0, 3] (fun nv sv wr => ∃ (m : Nat) (l : List UInt8), nv = .int .i64 m ∧ sv = .string ⟨l.toArray⟩ ∧ m ≤ N ∧ Hid (Ers.decN N = Ers.decN m ++ l) ∧ Ext w wr) (fun nv _ _ => (intOf nv).toNat)
  case atStart => exact ⟨N, [], rfl, rfl, Nat.le_refl _, (List.append_nil _).symm, isext⟩
  case round =>
    obtain ⟨m, l, rfl, rfl, m1, hu, hx⟩ := hrel
    obtain ⟨yr, rfl⟩ := fin hx
    clear hx
    have hl : l.length ≤ 18 := by
      have h1 := congrArg List.length hu.out
      rw [List.length_append] at h1
      have h2 := HL.out
      omega
    by_cases h0 : m = 0
    · have E : Hid (Ers.twoL N = l) := by have := hu.out; rw [h0] at this; exact E0.out.trans this
      subst h0
      clear hu E0
      go_wp2
      go_ret
      exact ⟨by rw [E.out]; first | done | rfl, done⟩
    · have E : Hid (Ers.decN N = Ers.decN (m / 10) ++ (Mom.dig m :: l)) := by show _ = _; rw [hu.out, Ers.decN_step h0]; simp
      have hd := edig_nat m
      obtain ⟨t1, t2⟩ := eten_parts m
      have hb := fun W B => eback_at W B (Mom.dig m) _ hd
      have r1 : m % 10 < 10 := by omega
      have q1 : m / 10 < m := by omega
      have q2 : m / 10 ≤ 900000000000000 := by have := HX.out; omega
      have g0 : ((m : Int) != 0) = true := by
        have : ((m : Int) == 0) = false := beq_eq_false_iff_ne.2 (by omega)
        unfold bne; rw [this]; rfl
      generalize Mom.dig m = c at *
      generalize m / 10 = q at *
      generalize m % 10 = r at *
      clear hu h0
      have g5 : decide ((r : Int) < 0) = false := decide_eq_false (by omega)
      go_wp2
      go_roundw
      case rel => exact ⟨q, c :: l, rfl, by rw [eapp_cons], by omega, E, isext⟩
      case measure => simp [intOf]; omega
set_option maxRecDepth 100000 in
set_option maxHeartbeats 4000000 in
theorem twice_neg (N : Nat) (hN : 10 ≤ N) (hx : N ≤ 9000000000000000) (w : World) : Rets Tryd.prog 36 #[.int .i64 (-(N : Int))] w (.string ⟨(Ers.twoL N).toArray⟩) := by
  have HL : Hid ((Ers.decN N).length ≤ 18) := decN_len N hx
  have E0 : Hid (Ers.twoL N = Ers.decN N) := Ers.twoL_big (by omega)
  have hN1 : (10 : Int) ≤ N := by omega
  have HX := Lib.hid hx
  clear hx
  clear hN
  have g2 : decide (-10 < -(N : Int)) = false := decide_eq_false (by omega)
  unfold Rets
  go_enter Tryd.func36, Tryd.ntmps36
  go_wp2_with fail
  go_loopw [0, 3] (fun nv sv wr => ∃ (m : Nat) (l : List UInt8), nv = .int .i64 (-(m : Int)) ∧ sv = .string ⟨l.toArray⟩ ∧ m ≤ N ∧ Hid (Ers.decN N = Ers.decN m ++ l) ∧ Ext w wr) (fun nv _ _ => (intOf nv).natAbs)
  case atStart => exact ⟨N, [], rfl, rfl, Nat.le_refl _, (List.append_nil _).symm, isext⟩
  case round =>
    obtain ⟨m, l, rfl, rfl, m1, hu, hx⟩ := hrel
    obtain ⟨yr, rfl⟩ := fin hx
    clear hx
    have hl : l.length ≤ 18 := by
      have h1 := congrArg List.length hu.out
      rw [List.length_append] at h1
      have h2 := HL.out
      omega
    by_cases h0 : m = 0
    · have E : Hid (Ers.twoL N = l) := by have := hu.out; rw [h0] at this; exact E0.out.trans this
      subst h0
      clear hu E0
      go_wp2
      go_ret
      exact ⟨by rw [E.out]; first | done | rfl, done⟩
    · have E : Hid (Ers.decN N = Ers.decN (m / 10) ++ (Mom.dig m :: l)) := by show _ = _; rw [hu.out, Ers.decN_step h0]; simp
      have hd := edig_nat m
      obtain ⟨t2, t1⟩ := etmod_neg m
      have r1 : m % 10 < 10 := by omega
      have q1 : m / 10 < m := by omega
      have q2 : m / 10 ≤ 900000000000000 := by have := HX.out; omega
      have g0 : ((-(m : Int)) != 0) = true := by
        have : ((-(m : Int)) == 0) = false := beq_eq_false_iff_ne.2 (by omega)
        unfold bne; rw [this]; rfl
      by_cases hr : m % 10 = 0
      · rw [hr] at hd t2
        have hb := fun W B => eback_at W B (Mom.dig m) _ hd
        have t2 : (-(m : Int)).tmod 10 = 0 := t2
        have hb : ∀ W B, W.cell? ⟨B, 0, none⟩ = some (.int .u8 48) → (convert 65 9 (.slice (some ⟨B, 0, none⟩) 1 1)).run Tryd.prog W = .ok (.string ⟨#[Mom.dig m]⟩) W := hb
        generalize Mom.dig m = c at *
        generalize m / 10 = q at *
        clear hu h0 hr r1 hd
        go_wp2
        go_roundw
        case rel => exact ⟨q, c :: l, rfl, by rw [eapp_cons], by omega, E, isext⟩
        case measure => simp [intOf]; omega
      · have hb := fun W B => eback_at W B (Mom.dig m) _ hd
        generalize Mom.dig m = c at *
        generalize m / 10 = q at *
        generalize m % 10 = r at *
        clear hu h0
        have g5 : (-(r : Int)) < 0 := by omega
        go_wp2
        go_roundw
        case rel => exact ⟨q, c :: l, rfl, by rw [eapp_cons], by omega, E, isext⟩
        case measure => simp [intOf]; omega
theorem twice_any (N : Nat) (n : Int) (hn : n = N ∨ n = -(N : Int)) (hx : N ≤ 9000000000000000) (w : World) : Rets Tryd.prog 36 #[.int .i64 n] w (.string ⟨(Ers.twoL N).toArray⟩) := by
  by_cases h : N < 10
  · exact twice_small N h n hn w
  · rcases hn with rfl | rfl
    · exact twice_big N (by omega) hx w
    · exact twice_neg N (by omega) hx w
end Go.Proofs.YtcjnficcggjeiaaDoor
set_option linter.unusedVariables false
set_option linter.unusedSimpArgs false
namespace Go.Proofs.YtcjnficcggjeiaaDoor
open Go.RowKit

theorem offD_parts (n : Int) (N : Nat) (hN : n.natAbs = N) : (0 ≤ n ∧ decide (n < 0) = false ∧ n / 3600 = (N / 3600 : Nat) ∧ n % 3600 = (N % 3600 : Nat) ∧ ((N % 3600 : Nat) : Int) / 60 = (N / 60 % 60 : Nat) ∧ n % 60 = (N % 60 : Nat)) ∨
    (n < 0 ∧ n.tdiv 3600 = -((N / 3600 : Nat) : Int) ∧ n.tmod 3600 = -((N % 3600 : Nat) : Int) ∧ (-((N % 3600 : Nat) : Int)).tdiv 60 = -((N / 60 % 60 : Nat) : Int) ∧ n.tmod 60 = -((N % 60 : Nat) : Int)) := by
  by_cases h : 0 ≤ n
  · left
    obtain rfl : n = (N : Int) := by omega
    exact ⟨h, decide_eq_false (by omega), by omega, by omega, by omega, by omega⟩
  · right
    obtain rfl : n = -(N : Int) := by omega
    refine ⟨by omega, ?_, ?_, ?_, ?_⟩
    · rw [Int.neg_tdiv, Int.tdiv_eq_ediv_of_nonneg (by omega)]; omega
    · rw [Int.neg_tmod, Int.tmod_eq_emod_of_nonneg (by omega)]; omega
    · rw [Int.neg_tdiv, Int.tdiv_eq_ediv_of_nonneg (by omega)]; omega
    · rw [Int.neg_tmod, Int.tmod_eq_emod_of_nonneg (by omega)]; omega
theorem ne_facts {B : Nat} (h : B ≠ 0) : ((B : Int) != 0) = true ∧ ((-(B : Int)) != 0) = true ∧ ((B : Int) == 0) = false ∧ ((-(B : Int)) == 0) = false := by
  have h1 : ((B : Int) == 0) = false := beq_eq_false_iff_ne.2 (by omega)
  have h2 : ((-(B : Int)) == 0) = false := beq_eq_false_iff_ne.2 (by omega)
  exact ⟨by unfold bne; rw [h1]; rfl, by unfold bne; rw [h2]; rfl, h1, h2⟩
set_option maxRecDepth 100000 in
set_option maxHeartbeats 4000000 in
theorem dtold_any (n : Int) (n1 : -9223372036854775808 ≤ n) (n2 : n ≤ 9223372036854775807) (w : World) : Rets Tryd.prog 21 #[.int .i64 n] w (.string ⟨(Ers.toldL n).toArray⟩) := by
  obtain ⟨N, hN⟩ : ∃ N, n.natAbs = N := ⟨_, rfl⟩
  have hp := offD_parts n N hN
  have hc := told_cases n N hN
  have HA := fun (x : Int) h w => Lib.hid (twice_any (N / 3600) x h (by omega) w)
  have HB := fun (x : Int) h w => Lib.hid (twice_any (N / 60 % 60) x h (by omega) w)
  have HC := fun (x : Int) h w => Lib.hid (twice_any (N % 60) x h (by omega) w)
  have la := Ers.twoL_len (N / 3600) (by omega)
  have lb := Ers.twoL_len (N / 60 % 60) (by omega)
  have lc := Ers.twoL_len (N % 60) (by omega)
  have hA : N / 3600 ≤ 9000000000000000 := by omega
  have hB : N / 60 % 60 < 60 := by omega
  have hC : N % 60 < 60 := by omega
  have hD : N % 3600 = 60 * (N / 60 % 60) + N % 60 := by omega
  clear hN
  generalize N / 3600 = A at *
  generalize N / 60 % 60 = B at *
  generalize N % 60 = C at *
  generalize N % 3600 = D at *
  obtain ⟨T, hT⟩ : ∃ T, Hid (Ers.toldL n = T) := ⟨_, rfl⟩
  rw [hT.out]
  rw [hT.out] at hc
  have hc : (B = 0 ∧ C = 0 ∧ Hid (T = (if n < 0 then 45 else 43) :: Ers.twoL A)) ∨ (B ≠ 0 ∧ C = 0 ∧ Hid (T = (if n < 0 then 45 else 43) :: (Ers.twoL A ++ Ers.twoL B))) ∨ (C ≠ 0 ∧ Hid (T = (if n < 0 then 45 else 43) :: (Ers.twoL A ++ Ers.twoL B ++ Ers.twoL C))) := hc
  clear hT
  generalize Ers.twoL A = a at *
  generalize Ers.twoL B = b at *
  generalize Ers.twoL C = c at *
  rcases hp with ⟨p1, p2, p3, p4, p5, p6⟩ | ⟨p2, p3, p4, p5, p6⟩
  · have HA := HA ((A : Int)) (.inl rfl)
    have HB := HB ((B : Int)) (.inl rfl)
    have HC := HC ((C : Int)) (.inl rfl)
    rcases hc with ⟨rfl, rfl, E⟩ | ⟨hb, rfl, E⟩ | ⟨hcc, E⟩
    · have E2 : Hid (T = 43 :: a) := by have := E.out; rwa [if_neg (by omega)] at this
      clear E
      obtain rfl : D = 0 := by omega
      clear hD
      unfold Rets
      go_enter Tryd.func21, Tryd.ntmps21
      go_wp2_with fail
      go_at_call 36
      refine Rets.use (HA _).out ?_
      intro _
      go_wp2_with fail
      go_ret
      exact ⟨ret_str (by rw [E2.out]; simp [ByteArray.data_append]), done⟩
    · have E2 : Hid (T = 43 :: (a ++ b)) := by have := E.out; rwa [if_neg (by omega)] at this
      clear E
      obtain ⟨x1, x2, x3, x4⟩ := ne_facts (B := D) (by omega)
      have hD9 : D < 3600 := by omega
      clear hD
      unfold Rets
      go_enter Tryd.func21, Tryd.ntmps21
      go_wp2_with fail
      go_at_call 36
      refine Rets.use (HA _).out ?_
      intro _
      go_wp2_with fail
      go_at_call 36
      refine Rets.use (HB _).out ?_
      intro _
      go_wp2_with fail
      go_ret
      exact ⟨ret_str (by rw [E2.out]; simp [ByteArray.data_append]), done⟩
    · have E2 : Hid (T = 43 :: (a ++ b ++ c)) := by have := E.out; rwa [if_neg (by omega)] at this
      clear E
      obtain ⟨x1, x2, x3, x4⟩ := ne_facts (B := D) (by omega)
      obtain ⟨x5, x6, x7, x8⟩ := ne_facts hcc
      have hD9 : D < 3600 := by omega
      clear hD
      unfold Rets
      go_enter Tryd.func21, Tryd.ntmps21
      go_wp2_with fail
      go_at_call 36
      refine Rets.use (HA _).out ?_
      intro _
      go_wp2_with fail
      go_at_call 36
      refine Rets.use (HB _).out ?_
      intro _
      go_wp2_with fail
      go_at_call 36
      refine Rets.use (HC _).out ?_
      intro _
      go_wp2_with fail
      go_ret
      exact ⟨ret_str (by rw [E2.out]; simp [ByteArray.data_append]), done⟩
  · have HA := HA (-(A : Int)) (.inr rfl)
    have HB := HB (-(B : Int)) (.inr rfl)
    have HC := HC (-(C : Int)) (.inr rfl)
    rcases hc with ⟨rfl, rfl, E⟩ | ⟨hb, rfl, E⟩ | ⟨hcc, E⟩
    · have E2 : Hid (T = 45 :: a) := by have := E.out; rwa [if_pos (by omega)] at this
      clear E
      obtain rfl : D = 0 := by omega
      clear hD
      unfold Rets
      go_enter Tryd.func21, Tryd.ntmps21
      go_wp2_with fail
      go_at_call 36
      refine Rets.use (HA _).out ?_
      intro _
      go_wp2_with fail
      go_ret
      exact ⟨ret_str (by rw [E2.out]; simp [ByteArray.data_append]), done⟩
    · have E2 : Hid (T = 45 :: (a ++ b)) := by have := E.out; rwa [if_pos (by omega)] at this
      clear E
      obtain ⟨x1, x2, x3, x4⟩ := ne_facts (B := D) (by omega)
      have hD9 : D < 3600 := by omega
      clear hD
      unfold Rets
      go_enter Tryd.func21, Tryd.ntmps21
      go_wp2_with fail
      go_at_call 36
      refine Rets.use (HA _).out ?_
      intro _
      go_wp2_with fail
      go_at_call 36
      refine Rets.use (HB _).out ?_
      intro _
      go_wp2_with fail
      go_ret
      exact ⟨ret_str (by rw [E2.out]; simp [ByteArray.data_append]), done⟩
    · have E2 : Hid (T = 45 :: (a ++ b ++ c)) := by have := E.out; rwa [if_pos (by omega)] at this
      clear E
      obtain ⟨x1, x2, x3, x4⟩ := ne_facts (B := D) (by omega)
      obtain ⟨x5, x6, x7, x8⟩ := ne_facts hcc
      have hD9 : D < 3600 := by omega
      clear hD
      unfold Rets
      go_enter Tryd.func21, Tryd.ntmps21
      go_wp2_with fail
      go_at_call 36
      refine Rets.use (HA _).out ?_
      intro _
      go_wp2_with fail
      go_at_call 36
      refine Rets.use (HB _).out ?_
      intro _
      go_wp2_with fail
      go_at_call 36
      refine Rets.use (HC _).out ?_
      intro _
      go_wp2_with fail
      go_ret
      exact ⟨ret_str (by rw [E2.out]; simp [ByteArray.data_append]), done⟩
theorem etext_cases (a b : ByteArray) : ((a == b) = true ∧ (a.toList == b.toList) = true ∧ a.data.toList = b.data.toList) ∨ ((a == b) = false ∧ (a.toList == b.toList) = false ∧ a.data.toList ≠ b.data.toList) := by
  by_cases h : a.toList = b.toList
  · refine .inl ⟨by rw [beq_toListBytes]; exact beq_iff_eq.2 h, beq_iff_eq.2 h, ?_⟩
    rw [Lib.toList_data, Lib.toList_data] at h; exact h
  · exact .inr ⟨by rw [beq_toListBytes]; exact beq_eq_false_iff_ne.2 h, beq_eq_false_iff_ne.2 h, fun e => h (by rw [Lib.toList_data, Lib.toList_data]; exact e)⟩
theorem esize (s : ByteArray) : s.data.toList.length = s.size := Array.length_toList
/-- An instance begins at a place: the piece there is the text. -/
theorem occ_iff (s t : ByteArray) (j : Nat) (h : j + t.size ≤ s.size) : Lib.occAt s.data.toList t.data.toList j = true ↔ (s.extract j (j + t.size)).data.toList = t.data.toList := by
  unfold Lib.occAt
  rw [List.isPrefixOf_iff_prefix, List.prefix_iff_eq_take, Lib.extract_data, esize, show j + t.size - j = t.size by omega]
  exact ⟨fun e => e.symm, fun e => e.symm⟩
set_option maxRecDepth 100000 in
set_option maxHeartbeats 4000000 in
theorem sign_any (s t : ByteArray) (hs : s.size ≤ 1048576) (h1 : 1 ≤ t.size) (h2 : t.size ≤ 1000) (w : World) : Rets Tryd.prog 20 #[.string s, .string t] w (.int .i64 (Lib.index s.data.toList t.data.toList)) := by
  have hyes : ∀ j : Nat, Lib.NoOcc s.data.toList t.data.toList j → j ≤ s.size → Lib.occAt s.data.toList t.data.toList j = true → Hid (Lib.index s.data.toList t.data.toList = j) := fun j h hj ho => Lib.index_hit h (by rw [esize]; exact hj) ho
  have hne : t.data.toList ≠ [] := fun e => by
    have : t.size = 0 := by rw [← esize, e]; rfl
    omega
  have hno : ∀ j : Nat, Lib.NoOcc s.data.toList t.data.toList j → s.size < j + t.size → Hid (Lib.index s.data.toList t.data.toList = -1) := fun j h hp => Lib.index_past hne h (by rw [esize, esize]; exact hp)
  clear hne
  generalize Lib.index s.data.toList t.data.toList = R at *
  have hnext : ∀ j, Lib.NoOcc s.data.toList t.data.toList j → Lib.occAt s.data.toList t.data.toList j = false → Lib.NoOcc s.data.toList t.data.toList (j + 1) := fun j h ho i hi => by
    by_cases e : i = j
    · subst e; exact ho
    · exact h i (by omega)
  have HN := Lib.hid hnext
  clear hnext
  unfold Rets
  go_enter Tryd.func20, Tryd.ntmps20
  go_wp2_with fail
  go_loopw [5] (fun iv wr => ∃ j : Nat, j + t.size ≤ s.size + 1 + t.size ∧ iv = .int .i64 j ∧ Hid (Lib.NoOcc s.data.toList t.data.toList j) ∧ Ext w wr) (fun iv _ => s.size + 1 - (intOf iv).toNat)
  case atStart => exact ⟨0, by omega, rfl, fun i hi => absurd hi (Nat.not_lt_zero _), isext⟩
  case round =>
    obtain ⟨j, j1, rfl, Ha, hx⟩ := hrel
    obtain ⟨yr, rfl⟩ := fin hx
    clear hx
    by_cases hlt : j + t.size ≤ s.size
    · have g0 : (j : Int) + t.size ≤ s.size := by omega
      have hoc := occ_iff s t j hlt
      rcases etext_cases (s.extract j (j + t.size)) t with ⟨c1, c2, c3⟩ | ⟨c1, c2, c3⟩
      · have E : Hid (R = j) := (hyes j Ha.out (by omega) (hoc.2 c3)).out
        clear hyes hno hoc c3
        go_wp2
        go_ret
        exact ⟨by rw [E.out]; first | done | rfl, done⟩
      · have E : Hid (Lib.NoOcc s.data.toList t.data.toList (j + 1)) := HN.out j Ha.out (by
          cases h : Lib.occAt s.data.toList t.data.toList j
          · rfl
          · exact absurd (hoc.1 h) c3)
        clear hoc c3
        go_wp2
        go_roundw
        case rel => exact ⟨j + 1, by omega, by go_num, E, isext⟩
        case measure => simp [intOf]; omega
    · have E : Hid (R = -1) := (hno j Ha.out (by omega)).out
      have g0 : decide ((j : Int) + t.size ≤ s.size) = false := decide_eq_false (by omega)
      clear hyes hno
      go_wp2
      go_ret
      exact ⟨by rw [E.out]; first | done | rfl, done⟩
end Go.Proofs.YtcjnficcggjeiaaDoor
set_option linter.unusedVariables false
set_option linter.unusedSimpArgs false
namespace Go.Proofs.YtcjnficcggjeiaaDoor
open Go.RowKit

theorem econtains_any (s : ByteArray) (c : UInt8) (w : World) (hs : s.size ≤ 1048576) (hM : MaxL w) : Calls Tryd.prog 16 #[.string s, .string ⟨#[37, c]⟩] w fun e w' => e = .returned (.bool (decide (0 ≤ Ers.at2 s.data.toList c))) ∧ w = w' := by
  obtain ⟨m, hm⟩ := hM
  exact (Tryd.strings_Contains s ⟨#[37, c]⟩ m w (by omega) hm).mono fun e w' ⟨h, hw⟩ => ⟨h, hw.symm⟩
theorem ereplace_any (s lt : ByteArray) (c : UInt8) (i : Nat) (hi : Ers.at2 s.data.toList c = i) (w : World) (hs : s.size ≤ 1000) (hl : lt.size ≤ 1000) (hM : MaxL w) : Rets Tryd.prog 17 #[.string s, .string ⟨#[37, c]⟩, .string lt, .int .i64 1] w (.string ⟨(Ers.put s.data.toList lt.data.toList i).toArray⟩) := by
  obtain ⟨m, hm⟩ := hM
  have hroom : i + 2 ≤ s.data.toList.length := by
    rcases Ers.at2_cases s.data.toList c with ⟨h, _⟩ | ⟨j, h1, h2⟩
    · omega
    · omega
  have hc : Lib.countB s ⟨#[37, c]⟩ ≤ s.size := Lib.countB_le ⟨#[37, c]⟩ (by simp [ByteArray.size]) s.size s (Nat.le_refl _)
  have hmul : Lib.countB s ⟨#[37, c]⟩ * lt.size ≤ 1000 * 1000 := Nat.mul_le_mul (by omega) hl
  refine (Tryd.strings_Replace s ⟨#[37, c]⟩ lt 1 m w (by omega) hm (by simp [ByteArray.size]) (by omega)).mono ?_
  rintro e w' ⟨rfl, hb⟩
  refine ⟨?_, ⟨w', hb⟩, rfl⟩
  show Ending.returned (.string ⟨(Lib.replace s.data.toList [37, c] lt.data.toList 1).toArray⟩) = _
  rw [Ers.replace_one hi hroom]
theorem ecut_any (s : ByteArray) (w : World) (hs : s.size ≤ 1048576) (hM : MaxL w) : Rets Tryd.prog 19 #[.string s, .string ⟨#[47]⟩] w (.tuple #[.string ⟨(Lib.cut s.data.toList [47]).1.toArray⟩, .string ⟨(Lib.cut s.data.toList [47]).2.1.toArray⟩, .bool (Lib.cut s.data.toList [47]).2.2]) := by
  obtain ⟨m, hm⟩ := hM
  refine (Tryd.strings_Cut s ⟨#[47]⟩ m w (by omega) hm).mono ?_
  rintro e w' ⟨rfl, n, rfl⟩
  exact ⟨rfl, ⟨_, (Ext.refl w).drewN n⟩, rfl⟩
theorem cut_no {l : List UInt8} (h : Lib.index l [47] < 0) : Lib.cut l [47] = (l, [], false) := by unfold Lib.cut; rw [if_neg (by omega)]
theorem cut_yes {l : List UInt8} {i : Nat} (h : Lib.index l [47] = i) : Lib.cut l [47] = (l.take i, l.drop (i + 1), true) := by unfold Lib.cut; rw [if_pos (by omega), h]; rfl
theorem told_len (n : Int) (n1 : -9223372036854775808 ≤ n) (n2 : n ≤ 9223372036854775807) : (Ers.toldL n).length ≤ 60 := by
  unfold Ers.toldL
  have la := Ers.twoL_len (n.natAbs / 3600) (by omega)
  have lb := Ers.twoL_len (n.natAbs / 60 % 60) (by omega)
  have lc := Ers.twoL_len (n.natAbs % 60) (by omega)
  rw [List.length_cons, List.length_append, List.length_append]
  split <;> split <;> simp <;> omega
theorem emk (s : ByteArray) : (⟨s.data.toList.toArray⟩ : ByteArray) = s := by cases s; simp
set_option maxRecDepth 100000 in
set_option maxHeartbeats 4000000 in
theorem abbr_any (fm lt : ByteArray) (off save : Int) (hf : fm.size ≤ 1000) (hl : lt.size ≤ 1000) (n1 : -9223372036854775808 ≤ off) (n2 : off ≤ 9223372036854775807) (w : World) (hM : MaxL w) :
    Rets Tryd.prog 7 #[.string fm, .string lt, .int .i64 off, .int .i64 save] w (.string (Ers.abbrB fm lt off save)) := by
  have HS := fun w h => Lib.hid (econtains_any fm 115 w (by omega) h)
  have HZ := fun w h => Lib.hid (econtains_any fm 122 w (by omega) h)
  obtain ⟨R, hR⟩ : ∃ R, Hid (Ers.abbrL fm.data.toList lt.data.toList off save = R) := ⟨_, rfl⟩
  have hR' : Hid (Ers.abbrB fm lt off save = ⟨R.toArray⟩) := by show _ = _; unfold Ers.abbrB; rw [hR.out]
  rw [hR'.out]
  unfold Rets
  rcases Ers.at2_cases fm.data.toList 115 with ⟨a1, a2⟩ | ⟨i, a1, a2⟩
  · rw [decide_eq_false (show ¬ 0 ≤ Ers.at2 fm.data.toList 115 by omega)] at HS
    rcases Ers.at2_cases fm.data.toList 122 with ⟨b1, b2⟩ | ⟨i, b1, b2⟩
    · rw [decide_eq_false (show ¬ 0 ≤ Ers.at2 fm.data.toList 122 by omega)] at HZ
      have HC := fun w h => Lib.hid (ecut_any fm w (by omega) h)
      rcases Ers.slash_cases fm.data.toList with ⟨c1, c2⟩ | ⟨i, c1, c2⟩
      · have E : Hid (R = fm.data.toList) := by show _ = _; rw [← hR.out, Ers.abbr_n a1 b1 c1]
        rw [cut_no c1] at HC
        clear a1 a2 b1 b2 c1 c2 hR hR'
        go_enter Tryd.func7, Tryd.ntmps7
        go_wp2_with fail
        go_at_call 16
        refine (HS _ (hM.ext isext)).out.mono ?_
        rintro e w' ⟨rfl, rfl⟩
        go_wp2_with fail
        go_at_call 16
        refine (HZ _ (hM.ext isext)).out.mono ?_
        rintro e w' ⟨rfl, rfl⟩
        go_wp2_with (go_at_call 19; refine Rets.use (HC _ (hM.ext isext)).out ?_; intro _)
        go_ret
        exact ⟨ret_str (by rw [E.out]; first | done | rfl), done⟩
      · rw [cut_yes c1] at HC
        by_cases s0 : save = 0
        · have E : Hid (R = fm.data.toList.take i) := by show _ = _; rw [← hR.out, Ers.abbr_0 a1 b1 c1 s0]
          clear a1 a2 b1 b2 c1 c2 hR hR'
          subst s0
          go_enter Tryd.func7, Tryd.ntmps7
          go_wp2_with fail
          go_at_call 16
          refine (HS _ (hM.ext isext)).out.mono ?_
          rintro e w' ⟨rfl, rfl⟩
          go_wp2_with fail
          go_at_call 16
          refine (HZ _ (hM.ext isext)).out.mono ?_
          rintro e w' ⟨rfl, rfl⟩
          go_wp2_with (go_at_call 19; refine Rets.use (HC _ (hM.ext isext)).out ?_; intro _)
          go_ret
          exact ⟨ret_str (by rw [E.out]; first | done | rfl), done⟩
        · have E : Hid (R = fm.data.toList.drop (i + 1)) := by show _ = _; rw [← hR.out, Ers.abbr_1 a1 b1 c1 s0]
          have g0 : (save == 0) = false := beq_eq_false_iff_ne.2 s0
          have g1 : (save != 0) = true := by unfold bne; rw [g0]; rfl
          clear a1 a2 b1 b2 c1 c2 hR hR' s0
          go_enter Tryd.func7, Tryd.ntmps7
          go_wp2_with fail
          go_at_call 16
          refine (HS _ (hM.ext isext)).out.mono ?_
          rintro e w' ⟨rfl, rfl⟩
          go_wp2_with fail
          go_at_call 16
          refine (HZ _ (hM.ext isext)).out.mono ?_
          rintro e w' ⟨rfl, rfl⟩
          go_wp2_with (go_at_call 19; refine Rets.use (HC _ (hM.ext isext)).out ?_; intro _)
          go_ret
          exact ⟨ret_str (by rw [E.out]; first | done | rfl), done⟩
    · rw [decide_eq_true (show 0 ≤ Ers.at2 fm.data.toList 122 by omega)] at HZ
      have E : Hid (R = Ers.put fm.data.toList (Ers.toldL off) i) := by show _ = _; rw [← hR.out, Ers.abbr_z a1 b1]
      have HT := fun w => Lib.hid (etold_any off n1 n2 w)
      have hlen := told_len off n1 n2
      have HR : ∀ w, MaxL w → Hid (Rets Tryd.prog 17 #[.string fm, .string ⟨#[37, 122]⟩, .string ⟨(Ers.toldL off).toArray⟩, .int .i64 1] w (.string ⟨(Ers.put fm.data.toList (Ers.toldL off) i).toArray⟩)) := fun w h =>
        ereplace_any fm ⟨(Ers.toldL off).toArray⟩ 122 i b1 w hf (by simp [ByteArray.size]; omega) h
      generalize Ers.toldL off = T at *
      generalize Ers.put fm.data.toList T i = Q at *
      clear a1 a2 b1 b2 hR hR' n1 n2 hlen
      go_enter Tryd.func7, Tryd.ntmps7
      go_wp2_with fail
      go_at_call 16
      refine (HS _ (hM.ext isext)).out.mono ?_
      rintro e w' ⟨rfl, rfl⟩
      go_wp2_with fail
      go_at_call 16
      refine (HZ _ (hM.ext isext)).out.mono ?_
      rintro e w' ⟨rfl, rfl⟩
      go_wp2_with (first | (go_at_call 18; refine Rets.use (HT _).out ?_; intro _) | (go_at_call 17; refine Rets.use (HR _ (hM.ext isext)).out ?_; intro _))
      go_ret
      exact ⟨ret_str (by rw [E.out]; first | done | rfl), done⟩
  · rw [decide_eq_true (show 0 ≤ Ers.at2 fm.data.toList 115 by omega)] at HS
    have E : Hid (R = Ers.put fm.data.toList lt.data.toList i) := by show _ = _; rw [← hR.out, Ers.abbr_s a1]
    have HR := fun w h => Lib.hid (ereplace_any fm lt 115 i a1 w hf hl h)
    clear a1 a2 hR hR' HZ
    go_enter Tryd.func7, Tryd.ntmps7
    go_wp2_with (first | (go_at_call 16; refine (HS _ (hM.ext isext)).out.mono ?_; rintro e w' ⟨rfl, rfl⟩) | (go_at_call 17; refine Rets.use (HR _ (hM.ext isext)).out ?_; intro _))
    go_ret
    exact ⟨ret_str (by rw [E.out]; first | done | rfl), done⟩
end Go.Proofs.YtcjnficcggjeiaaDoor
set_option linter.unusedVariables false
set_option linter.unusedSimpArgs false
namespace Go.Proofs.YtcjnficcggjeiaaDoor
open Go.RowKit

theorem put_eq (fm : ByteArray) (T : List UInt8) (i : Nat) (h : i + 2 ≤ fm.size) : ((fm.extract 0 i ++ (⟨T.toArray⟩ : ByteArray)) ++ fm.extract (i + 2) fm.size).data.toList = Ers.put fm.data.toList T i := by
  unfold Ers.put
  rw [ByteArray.data_append, ByteArray.data_append, Array.toList_append, Array.toList_append, Lib.extract_data, Lib.extract_data]
  rw [List.drop_zero, Nat.sub_zero, List.take_of_length_le (l := List.drop (i + 2) fm.data.toList) (by rw [List.length_drop, esize]; omega)]
set_option maxRecDepth 100000 in
set_option maxHeartbeats 4000000 in
theorem dabbr_any (fm lt : ByteArray) (off save : Int) (hf : fm.size ≤ 1000) (hl : lt.size ≤ 1000) (n1 : -9223372036854775808 ≤ off) (n2 : off ≤ 9223372036854775807) (w : World) :
    Rets Tryd.prog 8 #[.string fm, .string lt, .int .i64 off, .int .i64 save] w (.string (Ers.abbrB fm lt off save)) := by
  have HS : ∀ w, Hid (Rets Tryd.prog 20 #[.string fm, .string ⟨#[37, 115]⟩] w (.int .i64 (Ers.at2 fm.data.toList 115))) := fun w => sign_any fm ⟨#[37, 115]⟩ (by omega) (by decide) (by decide) w
  have HZ : ∀ w, Hid (Rets Tryd.prog 20 #[.string fm, .string ⟨#[37, 122]⟩] w (.int .i64 (Ers.at2 fm.data.toList 122))) := fun w => sign_any fm ⟨#[37, 122]⟩ (by omega) (by decide) (by decide) w
  have HC : ∀ w, Hid (Rets Tryd.prog 20 #[.string fm, .string ⟨#[47]⟩] w (.int .i64 (Lib.index fm.data.toList [47]))) := fun w => sign_any fm ⟨#[47]⟩ (by omega) (by decide) (by decide) w
  obtain ⟨R, hR⟩ : ∃ R, Hid (Ers.abbrL fm.data.toList lt.data.toList off save = R) := ⟨_, rfl⟩
  have hR' : Hid (Ers.abbrB fm lt off save = ⟨R.toArray⟩) := by show _ = _; unfold Ers.abbrB; rw [hR.out]
  rw [hR'.out]
  unfold Rets
  rcases Ers.at2_cases fm.data.toList 115 with ⟨a1, a2⟩ | ⟨i, a1, a2⟩
  · rcases Ers.at2_cases fm.data.toList 122 with ⟨b1, b2⟩ | ⟨i, b1, b2⟩
    · rcases Ers.slash_cases fm.data.toList with ⟨c1, c2⟩ | ⟨i, c1, c2⟩
      · have E : Hid (R = fm.data.toList) := by show _ = _; rw [← hR.out, Ers.abbr_n a1 b1 c1]
        rw [a2] at HS
        rw [b2] at HZ
        rw [c2] at HC
        clear a1 a2 b1 b2 c1 c2 hR hR'
        go_enter Tryd.func8, Tryd.ntmps8
        go_wp2_with fail
        go_at_call 20
        refine Rets.use (HS _).out ?_
        intro _
        go_wp2_with fail
        go_at_call 20
        refine Rets.use (HZ _).out ?_
        intro _
        go_wp2_with fail
        go_at_call 20
        refine Rets.use (HC _).out ?_
        intro _
        go_wp2
        go_ret
        exact ⟨ret_str (by rw [E.out]; first | done | rfl), done⟩
      · rw [esize] at c2
        rw [c1] at HC
        have E0 := Lib.hid (Ers.abbr_0 (lt := lt.data.toList) (off := off) (save := save) a1 b1 c1)
        have E1 := Lib.hid (Ers.abbr_1 (lt := lt.data.toList) (off := off) (save := save) a1 b1 c1)
        rw [a2] at HS
        rw [b2] at HZ
        have hi0 : (0 : Int) ≤ i := by omega
        by_cases s0 : save = 0
        · have E : Hid (R = fm.data.toList.take i) := by show _ = _; rw [← hR.out, E0.out s0]
          clear a1 a2 b1 b2 c1 hR hR' E0 E1
          subst s0
          go_enter Tryd.func8, Tryd.ntmps8
          go_wp2_with fail
          go_at_call 20
          refine Rets.use (HS _).out ?_
          intro _
          go_wp2_with fail
          go_at_call 20
          refine Rets.use (HZ _).out ?_
          intro _
          go_wp2_with fail
          go_at_call 20
          refine Rets.use (HC _).out ?_
          intro _
          go_wp2
          go_ret
          exact ⟨ret_str (by rw [E.out]; simp [Lib.extract_data]), done⟩
        · have E : Hid (R = fm.data.toList.drop (i + 1)) := by show _ = _; rw [← hR.out, E1.out s0]
          have g0 : (save == 0) = false := beq_eq_false_iff_ne.2 s0
          clear a1 a2 b1 b2 c1 hR hR' E0 E1 s0
          go_enter Tryd.func8, Tryd.ntmps8
          go_wp2_with fail
          go_at_call 20
          refine Rets.use (HS _).out ?_
          intro _
          go_wp2_with fail
          go_at_call 20
          refine Rets.use (HZ _).out ?_
          intro _
          go_wp2_with fail
          go_at_call 20
          refine Rets.use (HC _).out ?_
          intro _
          go_wp2
          go_ret
          exact ⟨ret_str (by rw [E.out, Lib.extract_data, List.take_of_length_le (by rw [List.length_drop, esize]; omega)]; first | done | rfl), done⟩
    · have E : Hid (R = Ers.put fm.data.toList (Ers.toldL off) i) := by show _ = _; rw [← hR.out, Ers.abbr_z a1 b1]
      have HT := fun w => Lib.hid (dtold_any off n1 n2 w)
      have hlen := told_len off n1 n2
      rw [a2] at HS
      rw [b1] at HZ
      rw [esize] at b2
      generalize Ers.toldL off = T at *
      have EP := Lib.hid (put_eq fm T i b2)
      generalize Ers.put fm.data.toList T i = Q at *
      have hi0 : (0 : Int) ≤ i := by omega
      have x1 : IntKind.i64.wrap ((i : Int) + 2) = (i : Int) + 2 := by rw [IntKind.wrap_i64]; omega
      have x2 : (0 : Int) ≤ (i : Int) + 2 := by omega
      have x3 : ((i : Int) + 2).toNat = i + 2 := by omega
      clear a1 a2 b1 hR hR' n1 n2
      go_enter Tryd.func8, Tryd.ntmps8
      go_wp2_with fail
      go_at_call 20
      refine Rets.use (HS _).out ?_
      intro _
      go_wp2_with fail
      go_at_call 20
      refine Rets.use (HZ _).out ?_
      intro _
      go_wp2_with fail
      refine wp_region_past1 (by kernel_rfl) (by kernel_rfl) ?_
      repeat (go_big_quiet_step ((go_at_call 21; exact Rets.quiet (HT _).out)))
      refine wpQuiet_nil ?_
      intro _
      clear x1 x3
      go_wp2
      go_ret
      exact ⟨ret_str (by rw [E.out]; first | exact EP.out | (simp; exact EP.out)), done⟩
  · have E : Hid (R = Ers.put fm.data.toList lt.data.toList i) := by show _ = _; rw [← hR.out, Ers.abbr_s a1]
    rw [a1] at HS
    rw [esize] at a2
    have EP := Lib.hid (put_eq fm lt.data.toList i a2)
    rw [emk] at EP
    generalize Ers.put fm.data.toList lt.data.toList i = Q at *
    have hi0 : (0 : Int) ≤ i := by omega
    have x1 : IntKind.i64.wrap ((i : Int) + 2) = (i : Int) + 2 := by rw [IntKind.wrap_i64]; omega
    have x2 : (0 : Int) ≤ (i : Int) + 2 := by omega
    have x3 : ((i : Int) + 2).toNat = i + 2 := by omega
    clear a1 hR hR' HZ HC n1 n2
    go_enter Tryd.func8, Tryd.ntmps8
    go_wp2_with fail
    go_at_call 20
    refine Rets.use (HS _).out ?_
    intro _
    go_wp2_with fail
    refine wp_region_past1 (by kernel_rfl) (by kernel_rfl) ?_
    repeat (go_big_quiet_step (fail))
    refine wpQuiet_nil ?_
    intro _
    clear x1 x3
    go_wp2
    go_ret
    exact ⟨ret_str (by rw [E.out]; first | exact EP.out | (simp; exact EP.out)), done⟩
end Go.Proofs.YtcjnficcggjeiaaDoor
