/- Walks of moments: the document's times with signs and clocks; signs in days. -/
import Derived.Test.YtgnjmejmngljjaaMomWalkI
set_option linter.unusedVariables false
set_option linter.unusedSimpArgs false
namespace Go.Proofs.Ytgnjmejmngljjaa
open Go.RowKit

theorem head_byte {S : ByteArray} {c : UInt8} {r : List UInt8} (h : S.data.toList = c :: r) : ∃ hl : 0 < S.size, S[0] = c := by
  have hz : S.size = S.data.toList.length := by simp
  have hl : 0 < S.size := by rw [hz, h]; simp
  refine ⟨hl, ?_⟩
  have e : S[0] = S.data.toList[0]'(by rw [← hz]; exact hl) := rfl
  rw [e]; simp only [h]; simp
theorem last_byte {S : ByteArray} {c : UInt8} {l' : List UInt8} (h : S.data.toList = l' ++ [c]) : ∃ hl : l'.length < S.size, S[l'.length] = c := by
  have hz : S.size = S.data.toList.length := by simp
  have hl : l'.length < S.size := by rw [hz, h]; simp
  refine ⟨hl, ?_⟩
  have e : S[l'.length] = S.data.toList[l'.length]'(by rw [← hz]; exact hl) := rfl
  rw [e]; simp only [h]; simp
theorem last_byte' {S : ByteArray} {c : UInt8} {l' : List UInt8} {M : Nat} (h : S.data.toList = l' ++ [c]) (hM : l'.length = M) : ∃ hl : M < S.size, S[M] = c := by
  subst hM; exact last_byte h
set_option maxRecDepth 100000 in
set_option maxHeartbeats 2000000 in
theorem rspan_any (l : List UInt8) (w : World) (hs : l.length ≤ 4000) : Rets Try.prog 24 #[.string ⟨l.toArray⟩] w (optV (Mom.spanR l)) := by
  obtain ⟨S, hS⟩ : ∃ S : ByteArray, S = ⟨l.toArray⟩ := ⟨_, rfl⟩
  have hl : S.data.toList = l := by rw [hS]
  have hz : S.size = l.length := by rw [hS, lsz]
  by_cases h : ∃ r, l = 45 :: r
  · obtain ⟨r, rfl⟩ := h
    by_cases h0 : r = []
    · subst h0
      have E : Hid (optV (Mom.spanR [45]) = .tuple #[.int .i64 0, .bool true]) := rfl
      clear hS hl hz
      unfold Rets
      go_enter Try.func24, Try.ntmps24
      go_wp2
      go_ret2
      exact ⟨by rw [E.out]; first | done | rfl, done⟩
    · have HB := fun w => Lib.hid (rbare_any r w (by simp at hs; omega))
      have E : Hid (Mom.spanR (45 :: r) = (Mom.bareR r).map (fun n => -n)) := by show (if r = [] then _ else _) = _; rw [if_neg h0]
      have e1 : (S.toList == [45]) = false := by
        rw [Lib.toList_data, hl, beq_eq_false_iff_ne]; intro e; exact h0 (List.cons.inj e).2
      have e2 : (S == ⟨#[45]⟩) = false := by rw [beq_toListBytes, Lib.toList_data, Lib.toList_data, hl, beq_eq_false_iff_ne]; intro e; exact h0 (List.cons.inj e).2
      obtain ⟨s0, b0⟩ := head_byte hl
      have T : Hid (S.extract 1 S.size = ⟨r.toArray⟩) := by show _ = _; rw [ext_drop, hl]; rfl
      have b1 : ((S[0].toNat : Int) == 45) = true := by rw [b0]; rfl
      have hz2 : S.size ≤ 4000 := by omega
      rw [← hS]
      cases hb : Mom.bareR r with
      | none =>
        have E2 : Hid (optV (Mom.spanR (45 :: r)) = .tuple #[.int .i64 0, .bool false]) := by show _ = _; rw [E.out, hb]; rfl
        rw [hb] at HB
        unfold optV at HB
        clear hS hl hz hb h0 b0 hs
        unfold Rets
        go_enter Try.func24, Try.ntmps24
        go_wp2_with fail
        rw [T.out]
        refine Rets.use (HB _).out ?_
        intro _
        go_wp2
        go_ret2
        exact ⟨by rw [E2.out]; first | done | rfl, done⟩
      | some n =>
        have E2 : Hid (optV (Mom.spanR (45 :: r)) = .tuple #[.int .i64 (-n), .bool true]) := by show _ = _; rw [E.out, hb]; rfl
        rw [hb] at HB
        unfold optV at HB
        have nb : 0 ≤ n ∧ n ≤ 1000000 := Mom.bare_bd hb
        obtain ⟨nb1, nb2⟩ := nb
        clear hS hl hz hb h0 b0 hs
        unfold Rets
        go_enter Try.func24, Try.ntmps24
        go_wp2_with fail
        rw [T.out]
        refine Rets.use (HB _).out ?_
        intro _
        go_wp2
        go_ret2
        exact ⟨by rw [E2.out]; first | done | rfl, done⟩
  · have h' : ∀ r, l ≠ 45 :: r := fun r e => h ⟨r, e⟩
    have E : Hid (Mom.spanR l = Mom.bareR l) := by
      show _ = _; unfold Mom.spanR; split
      · rename_i r; exact absurd rfl (h' r)
      · rfl
    have HB := fun w => Lib.hid (rbare_any l w hs)
    have e1 : (S.toList == [45]) = false := by
      rw [Lib.toList_data, hl, beq_eq_false_iff_ne]; exact h' []
    have e2 : (S == ⟨#[45]⟩) = false := by rw [beq_toListBytes, Lib.toList_data, Lib.toList_data, hl, beq_eq_false_iff_ne]; exact h' []
    have hz2 : S.size ≤ 4000 := by omega
    rw [← hS] at HB ⊢
    cases l with
    | nil =>
      have s0 : decide (0 < S.size) = false := decide_eq_false (by rw [hz]; simp)
      have s1 : decide ((0 : Int) < S.size) = false := decide_eq_false (by rw [hz]; simp)
      clear hS hl hz h h' hs
      rw [E.out]
      unfold Rets
      cases hb : Mom.bareR ([] : List UInt8) with
      | none =>
        rw [hb] at HB
        unfold optV at HB ⊢
        go_enter Try.func24, Try.ntmps24
        go_wp2_with fail
        refine Rets.use (HB _).out ?_
        intro _
        go_wp2
        go_ret2
        exact ⟨rfl, done⟩
      | some n =>
        rw [hb] at HB
        unfold optV at HB ⊢
        go_enter Try.func24, Try.ntmps24
        go_wp2_with fail
        refine Rets.use (HB _).out ?_
        intro _
        go_wp2
        go_ret2
        exact ⟨rfl, done⟩
    | cons c r =>
      obtain ⟨s0, b0⟩ := head_byte hl
      have hc : c ≠ 45 := fun e => h' r (by rw [e])
      have b1 : ((S[0].toNat : Int) == 45) = false := by
        rw [b0, beq_eq_false_iff_ne]; intro e; exact hc (UInt8.toNat_inj.1 (by show c.toNat = 45; omega))
      clear hS hl hz h h' hs b0 hc
      rw [E.out]
      unfold Rets
      cases hb : Mom.bareR (c :: r) with
      | none =>
        rw [hb] at HB
        unfold optV at HB ⊢
        go_enter Try.func24, Try.ntmps24
        go_wp2_with fail
        refine Rets.use (HB _).out ?_
        intro _
        go_wp2
        go_ret2
        exact ⟨rfl, done⟩
      | some n =>
        rw [hb] at HB
        unfold optV at HB ⊢
        go_enter Try.func24, Try.ntmps24
        go_wp2_with fail
        refine Rets.use (HB _).out ?_
        intro _
        go_wp2
        go_ret2
        exact ⟨rfl, done⟩
end Go.Proofs.Ytgnjmejmngljjaa
