/- Plain laws of fields: a text cut into lines. -/
import Derived.Lib.Bytealg
import Derived.Lib.IndexBytes
import Derived.Test.YtifjnegjjjpagaaFiePlain
set_option linter.unusedVariables false
set_option linter.unusedSimpArgs false
namespace Go.Proofs.Ytifjnegjjjpagaa
namespace Fie
/-- No end of a line. -/
def nolf (c : UInt8) : Bool := !decide ((c.toNat : Int) = 10)
theorem nolf_yes {c : UInt8} (h : nolf c = true) : ((c.toNat : Int) == 10) = false := by simp [nolf] at h; simpa using h
theorem nolf_no {c : UInt8} (h : nolf c = false) : ((c.toNat : Int) == 10) = true := by simp [nolf] at h; simpa using h
/-- The lines from a place on: with fuel. -/
def linesN (s : ByteArray) : Nat → Nat → List ByteArray
  | 0, _ => []
  | f + 1, k => if k < s.size then s.extract k (stop nolf s k) :: linesN s f (stop nolf s k + 1) else []
def lines (s : ByteArray) (k : Nat) : List ByteArray := linesN s (s.size - k) k
theorem lines_end (s : ByteArray) (k : Nat) (h : s.size ≤ k) : lines s k = [] := by
  unfold lines; rw [show s.size - k = 0 by omega]; rfl
theorem linesN_fuel (s : ByteArray) : ∀ (d f g k : Nat), s.size - k ≤ d → s.size - k ≤ f → s.size - k ≤ g → linesN s f k = linesN s g k := by
  intro d
  induction d with
  | zero =>
    intro f g k h0 _ _
    have hk : ¬ k < s.size := by omega
    cases f <;> cases g <;> simp [linesN, hk]
  | succ d ih =>
    intro f g k h0 hf hg
    by_cases hk : k < s.size
    · obtain ⟨f, rfl⟩ : ∃ f', f = f' + 1 := ⟨f - 1, by omega⟩
      obtain ⟨g, rfl⟩ : ∃ g', g = g' + 1 := ⟨g - 1, by omega⟩
      simp only [linesN]
      rw [if_pos hk, if_pos hk]
      have hs := stop_le nolf s k (by omega)
      rw [ih f g _ (by omega) (by omega) (by omega)]
    · cases f <;> cases g <;> simp [linesN, hk]
theorem lines_more (s : ByteArray) (k : Nat) (h : k < s.size) : lines s k = s.extract k (stop nolf s k) :: lines s (stop nolf s k + 1) := by
  have hs := stop_le nolf s k (by omega)
  unfold lines
  obtain ⟨f, hf⟩ : ∃ f, s.size - k = f + 1 := ⟨s.size - k - 1, by omega⟩
  rw [hf]
  simp only [linesN]
  rw [if_pos h, linesN_fuel s s.size f (s.size - (stop nolf s k + 1)) _ (by omega) (by omega) (by omega)]
theorem stop_mid (p : UInt8 → Bool) (s : ByteArray) : ∀ (d j k : Nat), k - j = d → j ≤ k → k ≤ stop p s j → stop p s j = stop p s k
  | 0, j, k, hd, h1, _ => by rw [show k = j by omega]
  | d + 1, j, k, hd, h1, h2 => by
    have hj : j < s.size := by
      rcases Nat.lt_or_ge j s.size with h | h
      · exact h
      · rw [stop_end p s j h] at h2; omega
    cases hp : p s[j]
    · rw [stop_no p s j hj hp] at h2; omega
    · have e := stop_yes p s j hj hp
      rw [e] at h2 ⊢
      exact stop_mid p s d (j + 1) k (by omega) (by omega) h2
theorem drop_atE (s : ByteArray) (k : Nat) (h : k < s.size) : s.data.toList.drop k = s[k] :: s.data.toList.drop (k + 1) := by
  rw [List.drop_eq_getElem_cons (by simpa using h)]; rfl
theorem index_stop (s : ByteArray) (c : UInt8) (p : UInt8 → Bool) (hp : ∀ x, p x = true ↔ x ≠ c) : ∀ (f k : Nat), s.size - k = f → k ≤ s.size →
    Lib.indexByte (s.data.toList.drop k) c = if stop p s k < s.size then ((stop p s k - k : Nat) : Int) else -1
  | 0, k, hf, h => by
    rw [stop_end p s k (by omega), List.drop_eq_nil_of_le (by simp; omega), if_neg (by omega)]
    simp [Lib.indexByte]
  | f + 1, k, hf, h => by
    have hk : k < s.size := by omega
    have ih := index_stop s c p hp f (k + 1) (by omega) (by omega)
    have hle := stop_le p s (k + 1) (by omega)
    rw [drop_atE s k hk]
    cases hq : p s[k]
    · rw [stop_no p s k hk hq, if_pos hk]
      have : s[k] = c := by
        rcases Classical.em (s[k] = c) with h | h
        · exact h
        · rw [(hp _).2 h] at hq; cases hq
      simp [Lib.indexByte, this]
    · rw [stop_yes p s k hk hq]
      have hne : s[k] ≠ c := (hp _).1 hq
      simp only [Lib.indexByte]
      rw [if_neg (by simpa using hne), ih]
      by_cases e : stop p s (k + 1) < s.size
      · rw [if_pos e, if_pos e, if_neg (by simp)]
        omega
      · rw [if_neg e, if_neg e, if_pos (by simp)]
theorem nolf_iff (x : UInt8) : nolf x = true ↔ x ≠ 10 := by
  simp only [nolf, Bool.not_eq_true', decide_eq_false_iff_not]
  constructor
  · rintro h rfl; exact h rfl
  · intro h e; exact h (UInt8.toNat_inj.1 (by show x.toNat = 10; omega))
theorem index_lf (s : ByteArray) : Lib.indexByte s.data.toList 10 = if stop nolf s 0 < s.size then ((stop nolf s 0 : Nat) : Int) else -1 := by
  have := index_stop s 10 nolf nolf_iff _ 0 rfl (by omega)
  simpa using this
theorem ext_size (s : ByteArray) (a b : Nat) (hb : b ≤ s.size) : (s.extract a b).size = b - a := by simp [ByteArray.size_extract]; omega
theorem stop_tail (p : UInt8 → Bool) (s : ByteArray) (k : Nat) : ∀ (f j : Nat), s.size - (k + j) = f → k + j ≤ s.size → stop p (s.extract k s.size) j + k = stop p s (k + j)
  | 0, j, hf, h => by
    have hz := ext_size s k s.size (Nat.le_refl _)
    rw [stop_end p s (k + j) (by omega), stop_end p _ j (by omega)]; omega
  | f + 1, j, hf, h => by
    have hz := ext_size s k s.size (Nat.le_refl _)
    have h1 : k + j < s.size := by omega
    have h2 : j < (s.extract k s.size).size := by omega
    have he : (s.extract k s.size)[j] = s[k + j] := by
      rw [ByteArray.getElem_extract]
    have ih := stop_tail p s k f (j + 1) (by omega) (by omega)
    cases hp : p s[k + j]
    · rw [stop_no p s _ h1 hp, stop_no p _ j h2 (by rw [he]; exact hp)]; omega
    · rw [stop_yes p s _ h1 hp, stop_yes p _ j h2 (by rw [he]; exact hp), ih]; rfl
theorem stop_tail0 (p : UInt8 → Bool) (s : ByteArray) (k : Nat) (h : k ≤ s.size) : stop p (s.extract k s.size) 0 + k = stop p s k := stop_tail p s k _ 0 rfl h
theorem ba_eq {a b : ByteArray} (h : a.data.toList = b.data.toList) : a = b := by
  cases a; cases b; congr 1; exact Array.toList_inj.1 h
theorem ext_ext (s : ByteArray) (k a b : Nat) (hb : k + b ≤ s.size) : (s.extract k s.size).extract a b = s.extract (k + a) (k + b) := by
  apply ba_eq
  rw [Lib.extract_data, Lib.extract_data, Lib.extract_data, List.drop_take, List.drop_drop, List.take_take]
  congr 1
  · omega
theorem ext_tail (s : ByteArray) (k a : Nat) (ha : k ≤ s.size) : (s.extract k s.size).extract a (s.extract k s.size).size = s.extract (k + a) s.size := by
  rw [ext_size s k s.size (Nat.le_refl _)]
  have := ext_ext s k a (s.size - k) (by omega)
  rw [this, show k + (s.size - k) = s.size by omega]
theorem ext_full (s : ByteArray) : s.extract 0 s.size = s := by
  apply ba_eq; rw [Lib.extract_data, List.drop_zero, List.take_of_length_le (by simp)]
theorem ext_none (s : ByteArray) (a : Nat) (h : s.size ≤ a) : s.extract a s.size = ⟨#[]⟩ := by
  apply ba_eq; rw [Lib.extract_data]; simp; omega
end Fie
end Go.Proofs.Ytifjnegjjjpagaa
