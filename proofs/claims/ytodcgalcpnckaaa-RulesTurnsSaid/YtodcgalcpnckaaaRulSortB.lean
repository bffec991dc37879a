/- Walks of rules: the library's rotation of two runs, at turns. -/
import Derived.Test.YtodcgalcpnckaaaRulSortA
set_option linter.unusedVariables false
set_option linter.unusedSimpArgs false
namespace Go.Proofs.Ytodcgalcpnckaaa
open Go.RowKit Go.Sort Go.Shelf

theorem ret_i64 {a b : Int} (h : a = b) : Value.int .i64 a = Value.int .i64 b := by rw [h]
set_option maxRecDepth 100000 in
set_option maxHeartbeats 4000000 in
theorem rotate_any (P U V S : List Turn) (a m b N g cap : Nat) (d0 : Array Turn) (w0 W : World) (R : RowK turnCells 4 w0 g 0 d0) (hP : P.length = a) (hm : a + U.length = m) (hb : m + V.length = b) (hU : 0 < U.length) (hV : 0 < V.length)
    (hs : d0.size = N) (hN : (P ++ U ++ V ++ S).length = N) (hS : SWK turnCells 4 w0 g 0 (P ++ U ++ V ++ S).toArray W) (hsz : N < 4611686018427387904) :
    Calls Try.prog 70 #[.slice (some ⟨g, 0, none⟩) N cap, .int .i64 a, .int .i64 m, .int .i64 b, .func (.func 27) #[] #[]] W fun e w' => e = .returned (.tuple #[]) ∧ SWK turnCells 4 w0 g 0 (P ++ V ++ U ++ S).toArray w' := by
  have hbN : b ≤ N := by simp at hN; omega
  obtain ⟨T, hT⟩ : ∃ T, P ++ V ++ U ++ S = T := ⟨_, rfl⟩
  have S0 : Aside (∃ P' U' V' S' : List Turn, P'.length + U'.length = m ∧ U'.length = m - a ∧ V'.length = b - m ∧ P' ++ V' ++ U' ++ S' = T ∧ (P' ++ U' ++ V' ++ S').length = N ∧ SWK turnCells 4 w0 g 0 (P' ++ U' ++ V' ++ S').toArray W) := ⟨P, U, V, S, by omega, by omega, by omega, hT, hN, hS⟩
  rw [hT]
  have ham : a < m := by omega
  have hmb : m < b := by omega
  clear hS hN hT hP hm hb hU hV
  go_enter Try.func70, Try.ntmps70
  go_wp2
  go_loopw [10, 11] (fun s10 s11 wr => ∃ i j : Nat, s10 = .int .i64 i ∧ s11 = .int .i64 j ∧ 0 < i ∧ 0 < j ∧ i ≤ m ∧ m + j ≤ N ∧ Aside (∃ P' U' V' S' : List Turn, P'.length + U'.length = m ∧ U'.length = i ∧ V'.length = j ∧ P' ++ V' ++ U' ++ S' = T ∧ (P' ++ U' ++ V' ++ S').length = N ∧ SWK turnCells 4 w0 g 0 (P' ++ U' ++ V' ++ S').toArray wr)) (fun s10 s11 _ => (intOf s10).toNat + (intOf s11).toNat)
  case atStart => exact ⟨m - a, b - m, ret_i64 (by omega), ret_i64 (by omega), by omega, by omega, by omega, by omega, S0⟩
  case round =>
    clear S0
    obtain ⟨i, j, rfl, rfl, hi, hj, him, hjN, S1⟩ := hrel
    rcases Nat.lt_trichotomy i j with h | h | h
    · obtain ⟨j', rfl⟩ : ∃ j', j = i + j' := ⟨j - i, by omega⟩
      have hcall : Aside (Calls Try.prog 75 #[.slice (some ⟨g, 0, none⟩) N cap, .int .i64 ((m : Int) - (i : Int)), .int .i64 ((m : Int) + ((i : Int) + (j' : Int)) - (i : Int)), .int .i64 i, .func (.func 27) #[] #[]] wr fun e w' => e = .returned (.tuple #[]) ∧
          ∃ P' U' V' S' : List Turn, P'.length + U'.length = m ∧ U'.length = i ∧ V'.length = j' ∧ P' ++ V' ++ U' ++ S' = T ∧ (P' ++ U' ++ V' ++ S').length = N ∧ SWK turnCells 4 w0 g 0 (P' ++ U' ++ V' ++ S').toArray w') := by
        obtain ⟨P', U', V', S', e1, e2, e3, e4, e5, e6⟩ := S1.out
        show Calls _ _ _ _ _
        rw [show (m : Int) - (i : Int) = ((P'.length : Nat) : Int) by omega, show (m : Int) + ((i : Int) + (j' : Int)) - (i : Int) = ((m + j' : Nat) : Int) by omega]
        have hV : V' = V'.take j' ++ V'.drop j' := (List.take_append_drop _ _).symm
        have := swaprange_any P' U' (V'.take j') (V'.drop j') S' i P'.length (m + j') N g cap d0 w0 wr R e2 (by simp; omega) rfl (by simp; omega) hs (by rw [← e5]; simp) (by rw [List.append_assoc (P' ++ U'), ← hV]; exact e6) hsz
        refine this.mono ?_
        rintro e w' ⟨rfl, h9⟩
        refine ⟨rfl, P', V'.drop j', V'.take j', U' ++ S', by simp; omega, by simp; omega, by simp; omega, ?_, ?_, ?_⟩
        · rw [← e4]; conv => rhs; rw [hV]
          simp
        · rw [← e5]; simp; omega
        · simpa using h9
      clear S1
      have hne : (((i : Int)) == ((i : Int) + (j' : Int))) = false := beq_eq_false_iff_ne.2 (by omega)
      have hgt : decide ((i : Int) + (j' : Int) < (i : Int)) = false := decide_eq_false (by omega)
      go_wp2_with (go_at_call 75; refine hcall.out.mono ?_; rintro e w' ⟨rfl, h9⟩; have H9 : Aside _ := h9; clear h9)
      go_roundw
      case rel => exact ⟨i, j', rfl, ret_i64 (by omega), by omega, by omega, by omega, by omega, H9⟩
      case measure => simp [intOf]; omega
    · subst h
      have hcall : Aside (Calls Try.prog 75 #[.slice (some ⟨g, 0, none⟩) N cap, .int .i64 ((m : Int) - (i : Int)), .int .i64 m, .int .i64 i, .func (.func 27) #[] #[]] wr fun e w' => e = .returned (.tuple #[]) ∧ SWK turnCells 4 w0 g 0 T.toArray w') := by
        obtain ⟨P', U', V', S', e1, e2, e3, e4, e5, e6⟩ := S1.out
        show Calls _ _ _ _ _
        rw [show (m : Int) - (i : Int) = ((P'.length : Nat) : Int) by omega]
        have := swaprange_any P' U' [] V' S' i P'.length m N g cap d0 w0 wr R e2 e3 rfl (by simp; omega) hs (by rw [← e5]; simp) (by simpa using e6) hsz
        refine this.mono ?_
        rintro e w' ⟨rfl, h9⟩
        refine ⟨rfl, ?_⟩
        rw [← e4]
        simpa using h9
      clear S1
      go_wp2_with (go_at_call 75; refine hcall.out.mono ?_; rintro e w' ⟨rfl, h9⟩; have H9 : Aside _ := h9; clear h9)
      go_end0
      exact ⟨rfl, H9.out⟩
    · obtain ⟨i', rfl⟩ : ∃ i', i = j + i' := ⟨i - j, by omega⟩
      have hcall : Aside (Calls Try.prog 75 #[.slice (some ⟨g, 0, none⟩) N cap, .int .i64 ((m : Int) - ((j : Int) + (i' : Int))), .int .i64 m, .int .i64 j, .func (.func 27) #[] #[]] wr fun e w' => e = .returned (.tuple #[]) ∧
          ∃ P' U' V' S' : List Turn, P'.length + U'.length = m ∧ U'.length = i' ∧ V'.length = j ∧ P' ++ V' ++ U' ++ S' = T ∧ (P' ++ U' ++ V' ++ S').length = N ∧ SWK turnCells 4 w0 g 0 (P' ++ U' ++ V' ++ S').toArray w') := by
        obtain ⟨P', U', V', S', e1, e2, e3, e4, e5, e6⟩ := S1.out
        show Calls _ _ _ _ _
        rw [show (m : Int) - ((j : Int) + (i' : Int)) = ((P'.length : Nat) : Int) by omega]
        have hU : U' = U'.take j ++ U'.drop j := (List.take_append_drop _ _).symm
        have := swaprange_any P' (U'.take j) (U'.drop j) V' S' j P'.length m N g cap d0 w0 wr R (by simp; omega) e3 rfl (by simp; omega) hs (by rw [← e5]; simp) (by rw [List.append_assoc P', ← hU]; exact e6) hsz
        refine this.mono ?_
        rintro e w' ⟨rfl, h9⟩
        refine ⟨rfl, P' ++ V', U'.drop j, U'.take j, S', by simp; omega, by simp; omega, by simp; omega, ?_, ?_, ?_⟩
        · rw [← e4]; conv => rhs; rw [hU]
          simp
        · rw [← e5]; simp; omega
        · simpa using h9
      clear S1
      have hne : (((j : Int) + (i' : Int)) == (j : Int)) = false := beq_eq_false_iff_ne.2 (by omega)
      have hgt : (j : Int) < (j : Int) + (i' : Int) := by omega
      go_wp2_with (go_at_call 75; refine hcall.out.mono ?_; rintro e w' ⟨rfl, h9⟩; have H9 : Aside _ := h9; clear h9)
      go_roundw
      case rel => exact ⟨i', j, ret_i64 (by omega), rfl, by omega, by omega, by omega, by omega, H9⟩
      case measure => simp [intOf]; omega
end Go.Proofs.Ytodcgalcpnckaaa
