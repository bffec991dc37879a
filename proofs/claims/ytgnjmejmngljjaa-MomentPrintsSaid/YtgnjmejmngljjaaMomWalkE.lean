/- Walks of moments: months and weekdays by their names. -/
import Derived.Test.YtgnjmejmngljjaaMomWalkD
import Derived.Test.YtgnjmejmngljjaaMomPlainC
set_option linter.unusedVariables false
set_option linter.unusedSimpArgs false
namespace Go.Proofs.Ytgnjmejmngljjaa
open Go.RowKit

def strs (ws : List (List UInt8)) : List Value := ws.map fun w => Value.string ⟨w.toArray⟩
theorem strs_at {w : World} {b o : Nat} {ws : List (List UInt8)} (hc : ∀ i u, (strs ws)[i]? = some u → w.cell? ⟨b, o + i, none⟩ = some u) (j : Nat) (h : j < ws.length) :
    w.cell? ⟨b, o + j, none⟩ = some (.string ⟨ws[j].toArray⟩) := hc j _ (by simp [strs, h])
set_option maxRecDepth 100000 in
set_option maxHeartbeats 2000000 in
theorem name_any (s v : List UInt8) (w : World) (hs : s.length ≤ maxLen) (hv : v.length ≤ maxLen) (hsm : Mom.small v = true) : Rets Try.prog 59 #[.string ⟨s.toArray⟩, .string ⟨v.toArray⟩] w (.bool (Mom.nameB s v)) := by
  obtain ⟨S, hS⟩ : ∃ S : ByteArray, S = ⟨s.toArray⟩ := ⟨_, rfl⟩
  obtain ⟨V, hV⟩ : ∃ V : ByteArray, V = ⟨v.toArray⟩ := ⟨_, rfl⟩
  have zs : S.size = s.length := by rw [hS, lsz]
  have zv : V.size = v.length := by rw [hV, lsz]
  have hS1 : S.size ≤ 9223372036854775807 := by unfold maxLen at hs; omega
  have hV1 : V.size ≤ 9223372036854775807 := by unfold maxLen at hv; omega
  have at_s : ∀ j (h : j < S.size), S[j] = s[j]'(by omega) := fun j h => by subst hS; simp [ByteArray.getElem_eq_getElem_data]
  have at_v : ∀ j (h : j < V.size), V[j] = v[j]'(by omega) := fun j h => by subst hV; simp [ByteArray.getElem_eq_getElem_data]
  have NO : Hid (∀ j (h1 : j < S.size) (h2 : j < V.size), ((S[j].toNat : Int) ≠ V[j].toNat) → ((S[j].toNat : Int) ≠ V[j].toNat - 32) → Mom.nameB s v = false) := fun j h1 h2 h3 h4 => by
    refine Mom.name_no j (by omega) (by omega) (fun e => ?_)
    have hw := Mom.small_at hsm j (by omega)
    rw [at_s, at_v] at h3 h4
    rcases (Mom.low_is hw).1 e with e | e <;> omega
  have YES : Hid (∀ j (h1 : j < S.size) (h2 : j < V.size), (Mom.low s).take j = v.take j → ((S[j].toNat : Int) = V[j].toNat ∨ (S[j].toNat : Int) = V[j].toNat - 32) → (Mom.low s).take (j + 1) = v.take (j + 1)) := fun j h1 h2 h3 h4 => by
    refine Mom.take_next j (by omega) (by omega) h3 ?_
    have hw := Mom.small_at hsm j (by omega)
    rw [at_s, at_v] at h4
    exact (Mom.low_is hw).2 (by omega)
  have SM : Hid (∀ j (h : j < V.size), 97 ≤ V[j].toNat ∧ V[j].toNat ≤ 122) := fun j h => by
    rw [at_v j h]; exact Mom.small_at hsm j (by omega)
  have ZS := Lib.hid zs
  have ZV := Lib.hid zv
  rw [← hS, ← hV]
  clear hS hV at_s at_v zs zv hs hv hsm
  unfold Rets
  by_cases c0 : S.size < 3
  · have E : Hid (Mom.nameB s v = false) := Mom.name_short (by rw [← ZS.out]; exact c0)
    go_enter Try.func59, Try.ntmps59
    go_wp2
    go_ret
    exact ⟨by rw [E.out]; first | done | rfl, done⟩
  by_cases c1 : V.size < S.size
  · have E : Hid (Mom.nameB s v = false) := Mom.name_long (by rw [← ZS.out, ← ZV.out]; exact c1)
    have c2 : decide ((S.size : Int) < 3) = false := decide_eq_false (by omega)
    have c3 : decide (S.size < 3) = false := decide_eq_false (by omega)
    go_enter Try.func59, Try.ntmps59
    go_wp2
    go_ret
    exact ⟨by rw [E.out]; first | done | rfl, done⟩
  have c2 : decide ((S.size : Int) < 3) = false := decide_eq_false (by omega)
  have c3 : decide (S.size < 3) = false := decide_eq_false (by omega)
  have c4 : decide ((V.size : Int) < S.size) = false := decide_eq_false (by omega)
  have c5 : decide (V.size < S.size) = false := decide_eq_false (by omega)
  go_enter Try.func59, Try.ntmps59
  go_wp2
  go_loopw [5] (fun i wr => ∃ j : Nat, j ≤ S.size ∧ i = .int .i64 j ∧ Hid ((Mom.low s).take j = v.take j) ∧ Ext w wr) (fun i _ => S.size - (intOf i).toNat)
  case atStart => exact ⟨0, by omega, rfl, rfl, isext⟩
  case round =>
    obtain ⟨j, j1, rfl, ht, hx⟩ := hrel
    obtain ⟨yr, rfl⟩ := fin hx
    clear hx
    by_cases hlt : j < S.size
    · have hlv : j < V.size := by omega
      obtain ⟨w1, w2⟩ := SM.out j hlv
      by_cases e1 : (S[j].toNat : Int) = V[j].toNat
      · have g1 : ((S[j].toNat : Int) != V[j].toNat) = false := by rw [e1]; simp
        have N := Lib.hid (YES.out j hlt hlv ht.out (.inl e1))
        clear e1
        go_wp2
        refine wp_region_past1 (by kernel_rfl) (by kernel_rfl) ?_
        repeat (go_big_quiet_step (fail))
        refine wpQuiet_nil ?_
        intro _
        go_wp2
        go_roundw
        case rel => exact ⟨j + 1, by omega, by go_num, N, isext⟩
        case measure => simp [intOf]; omega
      · have g1 : ((S[j].toNat : Int) != V[j].toNat) = true := by rw [bne_iff_ne]; exact e1
        have hwr : IntKind.u8.wrap ((V[j].toNat : Int) - 32) = (V[j].toNat : Int) - 32 := by
          rw [IntKind.wrap_u8]; omega
        by_cases e2 : (S[j].toNat : Int) = V[j].toNat - 32
        · have g2 : ((S[j].toNat : Int) != (V[j].toNat : Int) - 32) = false := by rw [e2]; simp
          have N := Lib.hid (YES.out j hlt hlv ht.out (.inr e2))
          clear e1 e2
          go_wp2
          refine wp_region_past1 (by kernel_rfl) (by kernel_rfl) ?_
          repeat (go_big_quiet_step (fail))
          refine wpQuiet_nil ?_
          intro _
          go_wp2
          go_roundw
          case rel => exact ⟨j + 1, by omega, by go_num, N, isext⟩
          case measure => simp [intOf]; omega
        · have g2 : ((S[j].toNat : Int) != (V[j].toNat : Int) - 32) = true := by rw [bne_iff_ne]; exact e2
          have E := Lib.hid (NO.out j hlt hlv e1 e2)
          clear e1 e2
          go_wp2
          refine wp_region_past1 (by kernel_rfl) (by kernel_rfl) ?_
          repeat (go_big_quiet_step (fail))
          refine wpQuiet_nil ?_
          intro _
          go_wp2
          go_ret
          exact ⟨by rw [E.out]; first | done | rfl, done⟩
    · obtain rfl : j = S.size := by omega
      have E : Hid (Mom.nameB s v = true) := Mom.name_yes (by rw [← ZS.out]; omega) (by rw [← ZS.out]; exact ht.out)
      go_wp2
      go_ret
      exact ⟨by rw [E.out]; first | done | rfl, done⟩
end Go.Proofs.Ytgnjmejmngljjaa
