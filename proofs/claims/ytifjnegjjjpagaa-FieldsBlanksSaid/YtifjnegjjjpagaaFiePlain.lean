/- Plain laws of fields: no program in sight. -/
set_option linter.unusedVariables false
set_option linter.unusedSimpArgs false
namespace Go.Proofs.Ytifjnegjjjpagaa
namespace Fie
def blank (c : UInt8) : Bool := decide ((c.toNat : Int) = 32 ∨ (c.toNat : Int) = 9)
def bare (c : UInt8) : Bool := decide (32 < (c.toNat : Int) ∧ (c.toNat : Int) ≤ 126 ∧ (c.toNat : Int) ≠ 34 ∧ (c.toNat : Int) ≠ 35)
def within (c : UInt8) : Bool := decide (32 ≤ (c.toNat : Int) ∧ (c.toNat : Int) ≤ 126 ∧ (c.toNat : Int) ≠ 34)
/-- Where bytes that are so end, from a place on: with fuel. -/
def stopN (p : UInt8 → Bool) (s : ByteArray) : Nat → Nat → Nat
  | 0, k => k
  | f + 1, k => if h : k < s.size then (if p s[k] = true then stopN p s f (k + 1) else k) else k
def stop (p : UInt8 → Bool) (s : ByteArray) (k : Nat) : Nat := stopN p s (s.size - k) k
theorem stop_end (p : UInt8 → Bool) (s : ByteArray) (k : Nat) (h : s.size ≤ k) : stop p s k = k := by
  unfold stop; rw [show s.size - k = 0 by omega]; rfl
theorem stop_yes (p : UInt8 → Bool) (s : ByteArray) (k : Nat) (h : k < s.size) (hp : p s[k] = true) : stop p s k = stop p s (k + 1) := by
  unfold stop
  obtain ⟨f, hf⟩ : ∃ f, s.size - k = f + 1 := ⟨s.size - k - 1, by omega⟩
  rw [hf, show s.size - (k + 1) = f by omega]
  simp [stopN, h, hp]
theorem stop_no (p : UInt8 → Bool) (s : ByteArray) (k : Nat) (h : k < s.size) (hp : p s[k] = false) : stop p s k = k := by
  unfold stop
  obtain ⟨f, hf⟩ : ∃ f, s.size - k = f + 1 := ⟨s.size - k - 1, by omega⟩
  rw [hf]
  simp [stopN, h, hp]
theorem stop_bd (p : UInt8 → Bool) (s : ByteArray) : ∀ (f k : Nat), s.size - k = f → k ≤ s.size → k ≤ stop p s k ∧ stop p s k ≤ s.size
  | 0, k, hf, h => by rw [stop_end p s k (by omega)]; omega
  | f + 1, k, hf, h => by
    have hk : k < s.size := by omega
    cases hp : p s[k]
    · rw [stop_no p s k hk hp]; omega
    · rw [stop_yes p s k hk hp]
      have := stop_bd p s f (k + 1) (by omega) (by omega)
      omega
theorem stop_le (p : UInt8 → Bool) (s : ByteArray) (k : Nat) (h : k ≤ s.size) : k ≤ stop p s k ∧ stop p s k ≤ s.size := stop_bd p s _ k rfl h
/-- No ". -/
def noq (c : UInt8) : Bool := !decide ((c.toNat : Int) = 34)
theorem noq_yes {c : UInt8} (h : noq c = true) : ((c.toNat : Int) == 34) = false := by simp [noq] at h; simpa using h
theorem noq_no {c : UInt8} (h : noq c = false) : ((c.toNat : Int) == 34) = true := by simp [noq] at h; simpa using h
def secondI (s : ByteArray) (k : Nat) : Int := if stop noq s k < s.size then (stop noq s k : Int) else -1
end Fie
end Go.Proofs.Ytifjnegjjjpagaa
