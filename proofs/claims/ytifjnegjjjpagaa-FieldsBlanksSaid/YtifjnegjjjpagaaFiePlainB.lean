/- Plain laws of fields: a byte's place, and where a run ends. -/
import Derived.Lib.Bytealg
import Derived.Lib.IndexBytes
import Derived.Test.YtifjnegjjjpagaaFiePlain
set_option linter.unusedVariables false
set_option linter.unusedSimpArgs false
namespace Go.Proofs.Ytifjnegjjjpagaa
namespace Fie
theorem drop_at (s : ByteArray) (k : Nat) (h : k < s.size) : s.data.toList.drop k = s[k] :: s.data.toList.drop (k + 1) := by
  rw [List.drop_eq_getElem_cons (by simpa using h)]; rfl
theorem index_neg (s : ByteArray) : ∀ (f k : Nat), s.size - k = f → k ≤ s.size → ((Lib.indexByte (s.data.toList.drop k) 34 < 0) ↔ stop noq s k = s.size)
  | 0, k, hf, h => by
    rw [stop_end noq s k (by omega), List.drop_eq_nil_of_le (by simp; omega)]
    simp [Lib.indexByte]; omega
  | f + 1, k, hf, h => by
    have hk : k < s.size := by omega
    have ih := index_neg s f (k + 1) (by omega) (by omega)
    rw [drop_at s k hk]
    cases hp : noq s[k]
    · rw [stop_no noq s k hk hp]
      have : s[k] = 34 := by
        simp [noq] at hp; exact UInt8.toNat_inj.1 (by show s[k].toNat = 34; omega)
      simp [Lib.indexByte, this]; omega
    · rw [stop_yes noq s k hk hp, ← ih]
      have : s[k] ≠ 34 := by
        intro e; rw [e] at hp; simp [noq] at hp
      have hge := Lib.indexByte_ge (s.data.toList.drop (k + 1)) 34
      simp only [Lib.indexByte]
      rw [if_neg (by simpa using this)]
      by_cases e : Lib.indexByte (s.data.toList.drop (k + 1)) 34 = -1
      · rw [if_pos (by simpa using e)]; omega
      · rw [if_neg (by simpa using e)]; omega
theorem index_quote (s : ByteArray) (k : Nat) (h : k ≤ s.size) : (Lib.indexByte (List.take (s.size - k) (List.drop k s.data.toList)) 34 < 0) ↔ stop noq s k = s.size := by
  rw [List.take_of_length_le (by simp)]; exact index_neg s _ k rfl h
end Fie
end Go.Proofs.Ytifjnegjjjpagaa
