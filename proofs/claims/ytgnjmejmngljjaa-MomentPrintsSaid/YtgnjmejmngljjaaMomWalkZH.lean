/- Walks of moments: Print whole; the laws of what is written. -/
import Derived.Test.YtgnjmejmngljjaaMomWalkZG
set_option linter.unusedVariables false
set_option linter.unusedSimpArgs false
namespace Go.Proofs.Ytgnjmejmngljjaa
open Go.RowKit

theorem txt_at {w : World} {b o : Nat} {l : List ByteArray} (hc : ∀ i u, (l.map Value.string)[i]? = some u → w.cell? ⟨b, o + i, none⟩ = some u) (j : Nat) (h : j < l.length) :
    w.cell? ⟨b, o + j, none⟩ = some (.string l[j]) := hc j _ (by simp [h])

set_option maxHeartbeats 1000000 in
theorem texts_same (l : List ByteArray) (n : Nat) (hn : l.length = n) (va vb : Value) (w : World) (ha : Reads w va n (l.map Value.string)) (hb : Reads w vb n (l.map Value.string)) :
    Rets Try.prog 33 #[va, vb] w (.bool true) := by
  by_cases h0 : n = 0
  · subst h0
    rcases ha with ⟨x1, y1, rfl, _, _⟩ | ⟨b1, o1, c1, rfl, _⟩ <;> rcases hb with ⟨x2, y2, rfl, _, _⟩ | ⟨b2, o2, c2, rfl, _⟩
    all_goals
      clear hn
      go_enter Try.func33, Try.ntmps33
      go_wp2
      refine wp_loop_rounds 1 ?_
      simp only [rounds_succ]
      go_wp2
      go_ret
      exact ⟨rfl, done⟩
  · rcases ha with ⟨_, _, rfl, h1, _⟩ | ⟨b1, o1, c1, rfl, k1, k2, m1, hc1⟩
    · exact absurd h1 h0
    rcases hb with ⟨_, _, rfl, h1, _⟩ | ⟨b2, o2, c2, rfl, k3, k4, m2, hc2⟩
    · exact absurd h1 h0
    haveI : InW b1 w := ⟨m1⟩
    haveI : InW b2 w := ⟨m2⟩
    have hl : n ≤ 9223372036854775807 := by unfold maxLen at k2; omega
    have H1 := Lib.hid hc1
    have H2 := Lib.hid hc2
    have Hn := Lib.hid hn
    clear hc1 hc2 hn
    go_enter Try.func33, Try.ntmps33
    go_wp2
    go_loopw [5] (fun i wr => ∃ j : Nat, j ≤ n ∧ i = .int .i64 j ∧ Ext w wr) (fun i _ => n - (intOf i).toNat)
    case atStart => exact ⟨0, by omega, rfl, isext⟩
    case round =>
      obtain ⟨j, j2, rfl, hx⟩ := hrel
      obtain ⟨yr, rfl⟩ := fin hx
      clear hx
      by_cases hlt : j < n
      · have f1 := txt_at H1.out j (by rw [Hn.out]; exact hlt)
        have f2 := txt_at H2.out j (by rw [Hn.out]; exact hlt)
        generalize l[j]'(by rw [Hn.out]; exact hlt) = t at *
        go_wp2
        refine wp_region_past1 (by kernel_rfl) (by kernel_rfl) ?_
        repeat (go_big_quiet_step (fail))
        refine wpQuiet_nil ?_
        intro _
        go_wp2
        go_roundw
        case rel => exact ⟨j + 1, by omega, by go_num, isext⟩
        case measure => simp [intOf]; omega
      · go_wp2
        go_ret
        exact ⟨rfl, done⟩
/-- A right spot in numbers. -/
theorem right_nat {m k wd d t r : Int} (h : Mom.rightB m k wd d t r = true) : ∃ i K W D R : Nat, i < 12 ∧ m = (i : Int) + 1 ∧ K ≤ 3 ∧ k = K ∧ W < 8 ∧ wd = W ∧ D ≤ 31 ∧ d = D ∧ R ≤ 2 ∧ r = R ∧ -604799 ≤ t ∧ t ≤ 604799 ∧
    (K = 0 → W = 0 ∧ 1 ≤ D) ∧ (K = 1 → D = 0) ∧ (K ≠ 0 → 1 ≤ W) ∧ (K ≠ 1 → 1 ≤ D) := by
  obtain ⟨h1, h2⟩ := Mom.right_yes h
  have h2 := of_decide_eq_true h2
  obtain ⟨a1, a2, a3, a4, a5, a6, a7, a8⟩ := h1
  refine ⟨(m - 1).toNat, k.toNat, wd.toNat, d.toNat, r.toNat, ?_⟩
  omega
set_option maxHeartbeats 4000000 in
theorem print_nat (i K W D R : Nat) (t : Int) (w : World) (hi : i < 12) (hK : K ≤ 3) (hW : W < 8) (hD : D ≤ 31) (hR : R ≤ 2) (t1 : -604799 ≤ t) (t2 : t ≤ 604799) (hright : Mom.rightB ((i : Int) + 1) K W D t R = true) :
    PrintOf 29 #[spotA ((i : Int) + 1) K W D t R] w (Mom.printD (i + 1) K W D t R) 3 := by
  have H1 := fun w => number_any D (by omega) w
  have H2 := fun w => time_any t (by omega) w
  have lD : (Mom.dec D).length ≤ 19 := Nat.le_trans (Mom.dec_len 2 D (by omega) (by omega)) (by omega)
  have lT := timeD_len t1 t2
  have lA := wdD_len W hW
  have hM : ∀ i : Fin 12, ∃ M, (Mom.monthsL.map Mom.great)[i.val]? = some M ∧ 3 ≤ M.length ∧ M.length ≤ 9 ∧ Mom.short Mom.monthsL i.val = M.take 3 := by
    intro i
    refine ⟨(Mom.monthsL.map Mom.great)[i.val]'(by exact i.isLt), List.getElem?_eq_getElem _, ?_, ?_, ?_⟩
    · revert i; decide
    · revert i; decide
    · revert i; decide
  have hN : ∀ i : Fin 7, ∃ M, (Mom.daysL.map Mom.great)[i.val]? = some M ∧ 3 ≤ M.length ∧ M.length ≤ 9 ∧ Mom.wdD (i.val + 1) = M.take 3 := by
    intro i
    refine ⟨(Mom.daysL.map Mom.great)[i.val]'(by exact i.isLt), List.getElem?_eq_getElem _, ?_, ?_, ?_⟩
    · revert i; decide
    · revert i; decide
    · revert i; decide
  obtain ⟨M, hM1, hM2, hM3, hM4⟩ := hM ⟨i, hi⟩
  obtain ⟨N, hN1, hN2, hN3, hN4⟩ := hN ⟨W - 1, by omega⟩
  have hw : ((W : Int) = 0 ∧ Mom.wdD W = []) ∨ ((W : Int) = ((W - 1 : Nat) : Int) + 1 ∧ Mom.wdD W = N.take 3) := by
    by_cases h : W = 0
    · left; subst h; exact ⟨rfl, rfl⟩
    · right; refine ⟨by omega, ?_⟩; rw [← hN4]; congr 1; simp only; omega
  have hF : ∃ E, E = Mom.dayD K W D := ⟨_, rfl⟩
  obtain ⟨E, hE⟩ := hF
  have F1 : ∀ w, Sem.run Try.prog (Instr.index 78 (Value.agg #[.string ⟨(Mom.dec D).toArray⟩, .string (⟨#[108, 97, 115, 116]⟩ ++ ⟨(Mom.wdD W).toArray⟩), .string (⟨(Mom.wdD W).toArray⟩ ++ ⟨#[62, 61]⟩ ++ ⟨(Mom.dec D).toArray⟩), .string (⟨(Mom.wdD W).toArray⟩ ++ ⟨#[60, 61]⟩ ++ ⟨(Mom.dec D).toArray⟩)]) (Value.int IntKind.i64 K)) w = .ok (.string ⟨E.toArray⟩) w := by
    intro w
    subst hE
    obtain rfl | rfl | rfl | rfl : K = 0 ∨ K = 1 ∨ K = 2 ∨ K = 3 := by omega
    · exact forms_at_0 _ _ _ _ w
    · rw [show ((1 : Nat) : Int) = 1 from rfl, forms_at_1]; simp only [app_lit]; rfl
    · rw [show ((2 : Nat) : Int) = 2 from rfl, forms_at_2]; simp only [app_lit]; rfl
    · rw [show ((3 : Nat) : Int) = 3 from rfl, forms_at_3]; simp only [app_lit]; rfl
  have F2 : ∀ w, Sem.run Try.prog (Instr.index 79 (Value.agg #[.string ⟨#[]⟩, .string ⟨#[115]⟩, .string ⟨#[117]⟩]) (Value.int IntKind.i64 R)) w = .ok (.string ⟨(Mom.refD R).toArray⟩) w := by
    intro w
    obtain rfl | rfl | rfl : R = 0 ∨ R = 1 ∨ R = 2 := by omega
    · exact refs_at_0 w
    · exact refs_at_1 w
    · exact refs_at_2 w
  have lR : (Mom.refD R).length ≤ 1 := by unfold Mom.refD; split; · simp
                                          split <;> simp
  have := print_gen i (W - 1) K W D t R M N (Mom.wdD W) (Mom.dec D) E (Mom.timeD t) (Mom.refD R) w hi (by omega) hright hw (fun w => months_at w i M hM1) (fun w => weekdays_at w (W - 1) N hN1) H1 H2 ⟨hM2, hM3⟩ ⟨hN2, hN3⟩ lA lD lT lR F1 F2
  unfold Mom.printD
  rw [show i + 1 - 1 = i from rfl, hM4, ← hE]
  exact this
set_option maxHeartbeats 1000000 in
theorem print_no (m k wd d t r : Int) (w : World) (h : Mom.rightB m k wd d t r = false) : Rets Try.prog 29 #[spotA m k wd d t r] w (.tuple #[.slice none 0 0, .int .i64 1]) := by
  have HR := fun w => Lib.hid (right_whole m k wd d t r w)
  rw [h] at HR
  clear h
  unfold Rets
  go_enter Try.func29, Try.ntmps29
  go_wp2_with (go_at_call 25; refine Rets.use (HR _).out ?_; intro _)
  go_ret2
  exact ⟨rfl, done⟩
end Go.Proofs.Ytgnjmejmngljjaa
