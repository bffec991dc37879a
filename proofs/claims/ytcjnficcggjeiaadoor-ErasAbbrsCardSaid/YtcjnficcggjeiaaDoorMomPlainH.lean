/- Plain laws of moments: numbers in digits. -/
import Derived.Test.YtcjnficcggjeiaaDoorMomPlain
set_option linter.unusedVariables false
set_option linter.unusedSimpArgs false
namespace Go.Proofs.YtcjnficcggjeiaaDoor
namespace Mom
def dig (n : Nat) : UInt8 := UInt8.ofNat (48 + n % 10)
def dec (n : Nat) : List UInt8 := if n < 10 then [dig n] else dec (n / 10) ++ [dig n]
termination_by n
decreasing_by omega
theorem dec_small {n : Nat} (h : n < 10) : dec n = [dig n] := by rw [dec, if_pos h]
theorem dec_big {n : Nat} (h : ¬ n < 10) : dec n = dec (n / 10) ++ [dig n] := by rw [dec, if_neg h]
theorem dec_ne (n : Nat) : dec n ≠ [] := by
  by_cases h : n < 10
  · rw [dec_small h]; simp
  · rw [dec_big h]; simp
theorem dec_len : ∀ (k n : Nat), 1 ≤ k → n < 10 ^ k → (dec n).length ≤ k
  | 0, n, h, _ => by omega
  | k + 1, n, _, h => by
    by_cases h1 : n < 10
    · rw [dec_small h1]; simp
    · have hk : 1 ≤ k := by
        rcases k with _ | k
        · simp at h; omega
        · omega
      rw [dec_big h1, List.length_append]
      have := dec_len k (n / 10) hk (by rw [Nat.pow_succ] at h; omega)
      simp; omega
/-- The digits not yet written, ahead of those that are. -/
def undone (n : Nat) (s : List UInt8) : List UInt8 := if n = 0 ∧ s ≠ [] then s else dec n ++ s
theorem undone_start (n : Nat) : undone n [] = dec n := by unfold undone; rw [if_neg (by simp), List.append_nil]
theorem undone_step {n : Nat} {s : List UInt8} (h : ¬ (n = 0 ∧ s ≠ [])) : undone n s = undone (n / 10) (dig n :: s) := by
  unfold undone
  rw [if_neg h]
  by_cases h1 : n < 10
  · rw [dec_small h1, if_pos ⟨by omega, by simp⟩]; rfl
  · rw [dec_big h1, if_neg (by intro h2; omega)]; simp
theorem undone_end {s : List UInt8} (h : s ≠ []) : undone 0 s = s := if_pos ⟨rfl, h⟩
def twoD (n : Nat) : List UInt8 := [dig (n / 10), dig n]
theorem two_small {n : Nat} (h : n < 10) : twoD n = 48 :: dec n := by
  unfold twoD; rw [dec_small h, show n / 10 = 0 by omega]; rfl
theorem two_big {n : Nat} (h : ¬ n < 10) (h2 : n < 100) : twoD n = dec n := by
  unfold twoD; rw [dec_big h, dec_small (by omega)]; rfl
end Mom
end Go.Proofs.YtcjnficcggjeiaaDoor
