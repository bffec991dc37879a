/- Walk: the reference's cut of a line into fields. -/
import Derived.Test.YtdhbgelijjlifaaDoorFieWalkD
set_option linter.unusedVariables false
set_option linter.unusedSimpArgs false
namespace Go.Proofs.YtdhbgelijjlifaaDoor
open Go.RowKit

theorem within_yes {c : UInt8} (h : Fie.within c = true) : decide ((c.toNat : Int) < 32) = false ∧ decide (126 < (c.toNat : Int)) = false := by
  simp [Fie.within] at h; constructor <;> simp <;> omega
theorem within_no {c : UInt8} (h : Fie.within c = false) (hq : Fie.noq c = true) : (c.toNat : Int) < 32 ∨ (decide ((c.toNat : Int) < 32) = false ∧ 126 < (c.toNat : Int)) := by
  simp [Fie.within] at h; simp [Fie.noq] at hq
  by_cases g : (c.toNat : Int) < 32
  · exact .inl g
  · refine .inr ⟨decide_eq_false g, ?_⟩; omega

/-- No quotation mark behind. -/
theorem within_noq (s : ByteArray) : ∀ (f k : Nat), s.size - k = f → k ≤ s.size → Fie.stop Fie.within s k ≤ Fie.stop Fie.noq s k
  | 0, k, hf, h => by rw [Fie.stop_end Fie.within s k (by omega), Fie.stop_end Fie.noq s k (by omega)]; omega
  | f + 1, k, hf, h => by
    have hk : k < s.size := by omega
    cases hp : Fie.within s[k]
    · rw [Fie.stop_no Fie.within s k hk hp]; exact (Fie.stop_le Fie.noq s k h).1
    · have hn : Fie.noq s[k] = true := by simp [Fie.within] at hp; simp [Fie.noq]; omega
      rw [Fie.stop_yes Fie.within s k hk hp, Fie.stop_yes Fie.noq s k hk hn]
      exact within_noq s f (k + 1) (by omega) (by omega)
/-- What stands ahead of the next quotation mark is none. -/
theorem noq_ahead (s : ByteArray) : ∀ (f k j : Nat) (_ : s.size - k = f) (_ : k ≤ j) (hj : j < s.size), j < Fie.stop Fie.noq s k → Fie.noq s[j] = true
  | 0, k, j, hf, h, hj, hs => by omega
  | f + 1, k, j, hf, h, hj, hs => by
    have hk : k < s.size := by omega
    cases hp : Fie.noq s[k]
    · rw [Fie.stop_no Fie.noq s k hk hp] at hs; omega
    · by_cases e : k = j
      · subst e; exact hp
      · rw [Fie.stop_yes Fie.noq s k hk hp] at hs
        exact noq_ahead s f (k + 1) j (by omega) (by omega) hj hs
/-- Where a run has ended its byte is not so. -/
theorem stop_at (p : UInt8 → Bool) (s : ByteArray) : ∀ (f k : Nat) (_ : s.size - k = f) (h : Fie.stop p s k < s.size), p s[Fie.stop p s k] = false
  | 0, k, hf, h => by rw [Fie.stop_end p s k (by omega)] at h; omega
  | f + 1, k, hf, h => by
    have hk : k < s.size := by omega
    cases hp : p s[k]
    · have e := Fie.stop_no p s k hk hp
      simp only [e]; exact hp
    · have e := Fie.stop_yes p s k hk hp
      simp only [e]
      exact stop_at p s f (k + 1) (by omega) (by rw [← e]; exact h)
theorem quote_none {s : ByteArray} {k cnt : Nat} (c0 : k < s.size) (c2 : (s[k].toNat : Int) = 34) (c4 : ¬ cnt = 16) (hq : Fie.stop Fie.noq s (k + 1) = s.size) : cut s k cnt = bad k 6 := by
  have hw : wrongI s k (Fie.stop Fie.within s (k + 1)) = k := if_pos hq
  unfold cut
  rw [dif_pos c0, if_pos c2, if_neg c4]
  by_cases c5 : Fie.stop Fie.within s (k + 1) < s.size
  · rw [dif_pos c5]
    have hn := noq_ahead s _ (k + 1) _ rfl (Fie.stop_le Fie.within s (k + 1) (by omega)).1 c5 (by omega)
    rw [if_neg (by simp [Fie.noq] at hn; omega), hw]
  · rw [dif_neg c5, hw]

theorem quote_at {s : ByteArray} {k q : Nat} (hq : Fie.stop Fie.noq s k = q) (h : q < s.size) : (s[q].toNat : Int) = 34 ∧ Fie.within s[q] = false := by
  subst hq
  have := stop_at Fie.noq s _ k rfl h
  have e : (s[Fie.stop Fie.noq s k].toNat : Int) = 34 := by simp [Fie.noq] at this; exact this
  exact ⟨e, by simp [Fie.within]; omega⟩
theorem quote_byte {s : ByteArray} {k cnt q j : Nat} (c0 : k < s.size) (c2 : (s[k].toNat : Int) = 34) (c4 : ¬ cnt = 16) (hq : Fie.stop Fie.noq s (k + 1) = q) (hj : Fie.stop Fie.within s (k + 1) = j) (d0 : j < q) (c5 : q < s.size) : cut s k cnt = bad j 6 := by
  have hw : wrongI s k j = j := if_neg (by omega)
  have hb := (Fie.stop_le Fie.within s (k + 1) (by omega)).1
  have hn := noq_ahead s _ (k + 1) j rfl (by omega) (by omega) (by omega)
  unfold cut
  rw [dif_pos c0, if_pos c2, if_neg c4]
  simp only [hj]
  rw [dif_pos (by omega), if_neg (by simp [Fie.noq] at hn; omega), hw]
theorem quote_full {s : ByteArray} {k cnt q : Nat} (c0 : k < s.size) (c2 : (s[k].toNat : Int) = 34) (c4 : ¬ cnt = 16) (hj : Fie.stop Fie.within s (k + 1) = q) (c5 : q < s.size) (c6 : (s[q].toNat : Int) = 34) : cut s k cnt = if tailOk s (q + 1) = true then good (k + 1) q (q + 1) else bad ((q + 1 : Nat) : Int) 6 := by
  unfold cut
  rw [dif_pos c0, if_pos c2, if_neg c4]
  simp only [hj]
  rw [dif_pos c5, if_pos c6]

end Go.Proofs.YtdhbgelijjlifaaDoor
