/- Plain laws of moments: names letter by letter. -/
import Derived.Test.YtgnjmejmngljjaaMomPlainB
set_option linter.unusedVariables false
set_option linter.unusedSimpArgs false
namespace Go.Proofs.Ytgnjmejmngljjaa
namespace Mom
theorem low_len (s : List UInt8) : (low s).length = s.length := by simp [low]
theorem low_at (s : List UInt8) (j : Nat) (h : j < s.length) : (low s)[j]'(by rw [low_len]; exact h) = lowC s[j] := by simp [low]
theorem prefix_iff (a w : List UInt8) : a.isPrefixOf w = true ↔ a = w.take a.length := by
  rw [List.isPrefixOf_iff_prefix, List.prefix_iff_eq_take]
theorem name_short {s w : List UInt8} (h : s.length < 3) : nameB s w = false := by unfold nameB; rw [decide_eq_false (by omega)]; rfl
theorem name_long {s w : List UInt8} (h : w.length < s.length) : nameB s w = false := by
  unfold nameB
  rw [Bool.and_eq_false_iff]; right
  rw [Bool.eq_false_iff]; intro hp
  have := congrArg List.length ((prefix_iff _ _).1 hp)
  rw [List.length_take, low_len] at this; omega
theorem name_no {s w : List UInt8} (j : Nat) (h1 : j < s.length) (h2 : j < w.length) (h : lowC s[j] ≠ w[j]) : nameB s w = false := by
  unfold nameB
  rw [Bool.and_eq_false_iff]; right
  rw [Bool.eq_false_iff]; intro hp
  have e := (prefix_iff _ _).1 hp
  have e2 : (low s)[j]? = (w.take (low s).length)[j]? := by rw [← e]
  rw [List.getElem?_eq_getElem (by rw [low_len]; exact h1), low_at s j h1, low_len, List.getElem?_take, if_pos h1, List.getElem?_eq_getElem h2] at e2
  exact h (Option.some.inj e2)
theorem name_yes {s w : List UInt8} (h1 : 3 ≤ s.length) (h : (low s).take s.length = w.take s.length) : nameB s w = true := by
  unfold nameB
  rw [decide_eq_true h1, Bool.true_and, prefix_iff, low_len, ← h, List.take_of_length_le (by rw [low_len]; omega)]
theorem take_next {s w : List UInt8} (j : Nat) (h1 : j < s.length) (h2 : j < w.length) (h : (low s).take j = w.take j) (he : lowC s[j] = w[j]) : (low s).take (j + 1) = w.take (j + 1) := by
  rw [List.take_succ_eq_append_getElem (by rw [low_len]; exact h1), List.take_succ_eq_append_getElem h2, h, low_at s j h1, he]
theorem small_at {w : List UInt8} (h : small w = true) (j : Nat) (hj : j < w.length) : 97 ≤ w[j].toNat ∧ w[j].toNat ≤ 122 := by
  have := List.all_eq_true.1 h _ (List.getElem_mem hj)
  exact of_decide_eq_true this
theorem which_end (s : List UInt8) (k : Nat) : whichP s [] k = 0 := rfl
theorem which_yes {s w : List UInt8} {ws : List (List UInt8)} {k : Nat} (h : nameB s w = true) : whichP s (w :: ws) k = k := by simp [whichP, h]
theorem which_no {s w : List UInt8} {ws : List (List UInt8)} {k : Nat} (h : nameB s w = false) : whichP s (w :: ws) k = whichP s ws (k + 1) := by simp [whichP, h]
theorem which_bd (s : List UInt8) : ∀ (ws : List (List UInt8)) (k : Nat), 0 < k → whichP s ws k = 0 ∨ (k ≤ whichP s ws k ∧ whichP s ws k < k + ws.length)
  | [], k, _ => .inl rfl
  | w :: ws, k, hk => by
    cases h : nameB s w
    · rw [which_no h]
      rcases which_bd s ws (k + 1) (by omega) with h2 | h2
      · exact .inl h2
      · right; simp; omega
    · rw [which_yes h]; right; simp
def monthsL : List (List UInt8) := [[106, 97, 110, 117, 97, 114, 121], [102, 101, 98, 114, 117, 97, 114, 121], [109, 97, 114, 99, 104], [97, 112, 114, 105, 108], [109, 97, 121], [106, 117, 110, 101], [106, 117, 108, 121], [97, 117, 103, 117, 115, 116], [115, 101, 112, 116, 101, 109, 98, 101, 114], [111, 99, 116, 111, 98, 101, 114], [110, 111, 118, 101, 109, 98, 101, 114], [100, 101, 99, 101, 109, 98, 101, 114]]
def daysL : List (List UInt8) := [[109, 111, 110, 100, 97, 121], [116, 117, 101, 115, 100, 97, 121], [119, 101, 100, 110, 101, 115, 100, 97, 121], [116, 104, 117, 114, 115, 100, 97, 121], [102, 114, 105, 100, 97, 121], [115, 97, 116, 117, 114, 100, 97, 121], [115, 117, 110, 100, 97, 121]]
/-- A name with its first letter great. -/
def great (w : List UInt8) : List UInt8 := match w with | [] => [] | c :: r => (c - 32) :: r
def monthI (s : List UInt8) : Nat := whichP s monthsL 1
def dayI (s : List UInt8) : Nat := whichP s daysL 1
end Mom
end Go.Proofs.Ytgnjmejmngljjaa
