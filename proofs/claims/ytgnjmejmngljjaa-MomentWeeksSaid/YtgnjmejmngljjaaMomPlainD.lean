/- Plain laws of moments: days of a month as texts. -/
import Derived.Test.YtgnjmejmngljjaaMomPlainC
import Derived.Lib.IndexMore
set_option linter.unusedVariables false
set_option linter.unusedSimpArgs false
namespace Go.Proofs.Ytgnjmejmngljjaa
namespace Mom
theorem numR_ub (l : List UInt8) (least most : Nat) (hm : most ≤ 3) : numR l least most ≤ 999 := by
  by_cases h : 0 ≤ numR l least most
  · obtain ⟨h1, h2, h3, h4⟩ := numR_yes h
    have h5 := numOf_bd l 0 h3
    have h6 : (10 : Nat) ^ l.length ≤ 10 ^ 3 := Nat.pow_le_pow_right (by omega) (by omega)
    rw [h4]; unfold numOf; omega
  · omega
theorem sum_bd : ∀ (ps : List (List UInt8)) (u n m : Int), 0 ≤ u → u ≤ 60 → 0 ≤ n → sumR ps u n = some m → n ≤ m ∧ m ≤ n + 3540 * ps.length
  | [], u, n, m, _, _, _, h => by cases h; simp
  | p :: ps, u, n, m, h1, h2, h3, h => by
    unfold sumR at h
    split at h
    · cases h
    · rename_i c
      have hk0 : 0 ≤ numR p 2 2 := by omega
      have hk1 : numR p 2 2 ≤ 59 := by omega
      generalize numR p 2 2 = k at *
      have m1 : 0 ≤ k * u := Int.mul_nonneg hk0 h1
      have m2 : k * u ≤ 59 * 60 := Int.mul_le_mul hk1 h2 h1 (by omega)
      have := sum_bd ps 1 (n + k * u) m (by omega) (by omega) (by omega) h
      simp; omega
theorem bare_bd {l : List UInt8} {n : Int} (h : bareR l = some n) : 0 ≤ n ∧ n ≤ 1000000 := by
  unfold bareR at h
  split at h
  · cases h
  · rename_i p ps e
    split at h
    · cases h
    · rename_i c
      have hh : 0 ≤ numR p 1 3 := by omega
      have hh2 : numR p 1 3 ≤ 167 := by omega
      generalize numR p 1 3 = k at *
      have := sum_bd ps 60 (3600 * k) n (by omega) (by omega) (by omega) h
      have hl : (p :: ps).length ≤ 3 := by omega
      simp at hl
      omega
/-- A day's number; 0: it is none. -/
def dnum (l : List UInt8) : Int := if 1 ≤ numR l 1 2 ∧ numR l 1 2 ≤ 31 then numR l 1 2 else 0
theorem dnum_bd (l : List UInt8) : 0 ≤ dnum l ∧ dnum l ≤ 31 := by unfold dnum; split <;> omega
theorem days_ok (l : List UInt8) (k : Nat) (hk : nD 2 l = k) (h : 1 ≤ k ∧ l.drop k = [] ∧ 1 ≤ numOf (l.take k) ∧ numOf (l.take k) ≤ 31) : dnum l = (numOf (l.take k) : Nat) := by
  subst hk
  have := part_num (a := l) (least := 1) (most := 2) h.1 h.2.1
  unfold dnum; rw [this, if_pos (by omega)]
theorem days_no (l : List UInt8) (k : Nat) (hk : nD 2 l = k) (h : ¬ (1 ≤ k ∧ l.drop k = [] ∧ 1 ≤ numOf (l.take k) ∧ numOf (l.take k) ≤ 31)) : dnum l = 0 := by
  unfold dnum
  by_cases c : 1 ≤ numR l 1 2 ∧ numR l 1 2 ≤ 31
  · exfalso
    have hp := part_num' (a := l) (least := 1) (most := 2) (by omega)
    rw [hp.1] at hk
    subst hk
    exact h ⟨hp.2.1, List.drop_length, by rw [List.take_length]; omega, by rw [List.take_length]; omega⟩
  · rw [if_neg c]
/-- Where such a sign with an equals sign behind it stands first. -/
def signL (c : UInt8) : List UInt8 → Option Nat
  | [] => none
  | [_] => none
  | a :: b :: l => if a = c ∧ b = 61 then some 0 else (signL c (b :: l)).map (· + 1)
theorem index_sign (c : UInt8) : ∀ l : List UInt8, Lib.index l [c, 61] = match signL c l with | some i => (i : Int) | none => -1
  | [] => rfl
  | [a] => by
    unfold Lib.index
    rw [if_neg (by simp [List.isPrefixOf])]
    rfl
  | a :: b :: l => by
    have ih := index_sign c (b :: l)
    unfold Lib.index signL
    by_cases h : a = c ∧ b = 61
    · rw [if_pos h, if_pos (by simp [List.isPrefixOf, h.1, h.2])]; rfl
    · rw [if_neg h, if_neg (by simp [List.isPrefixOf]; intro e1 e2; exact h ⟨e1.symm, e2.symm⟩), ih]
      cases hs : signL c (b :: l) with
      | none => rfl
      | some i => simp
theorem sign_lt (c : UInt8) : ∀ (l : List UInt8) (i : Nat), signL c l = some i → i + 2 ≤ l.length
  | [], i, h => by cases h
  | [a], i, h => by cases h
  | a :: b :: l, i, h => by
    unfold signL at h
    by_cases e : a = c ∧ b = 61
    · rw [if_pos e] at h; cases h; simp
    · rw [if_neg e] at h
      cases hs : signL c (b :: l) with
      | none => rw [hs] at h; cases h
      | some k =>
        rw [hs] at h; cases h
        have := sign_lt c (b :: l) k hs
        simp at this ⊢; omega
theorem cut_sign (c : UInt8) (l : List UInt8) : Lib.cut l [c, 61] = match signL c l with | some i => (l.take i, l.drop (i + 2), true) | none => (l, [], false) := by
  unfold Lib.cut
  rw [index_sign]
  cases hs : signL c l with
  | none => simp
  | some i => simp
/-- The search from a place on. -/
theorem sign_drop (c : UInt8) (l : List UInt8) (k : Nat) (h : k + 1 < l.length) : signL c (l.drop k) = if l[k] = c ∧ l[k + 1] = 61 then some 0 else (signL c (l.drop (k + 1))).map (· + 1) := by
  rw [List.drop_eq_getElem_cons (by omega), List.drop_eq_getElem_cons (by omega)]
  rfl
theorem sign_end (c : UInt8) (l : List UInt8) (k : Nat) (h : l.length ≤ k + 1) : signL c (l.drop k) = none := by
  rcases hd : l.drop k with _ | ⟨a, _ | ⟨b, r⟩⟩
  · rfl
  · rfl
  · have := congrArg List.length hd
    simp at this; omega
/-- A day: its kind, the weekday, the number. -/
def dayAt (kind : Int) (a b : List UInt8) : Option (Int × Int × Int) := if dayI a ≠ 0 ∧ dnum b ≠ 0 then some (kind, (dayI a : Int), dnum b) else none
def dayN (l : List UInt8) : Option (Int × Int × Int) := match signL 62 l with
  | some i => dayAt 2 (l.take i) (l.drop (i + 2))
  | none => match signL 60 l with
    | some i => dayAt 3 (l.take i) (l.drop (i + 2))
    | none => if dnum l ≠ 0 then some (0, 0, dnum l) else none
def dayL (r : List UInt8) : Option (Int × Int × Int) := if dayI r ≠ 0 then some (1, (dayI r : Int), 0) else none
def dayR (l : List UInt8) : Option (Int × Int × Int) := if l.take 4 = [108, 97, 115, 116] then dayL (l.drop 4) else dayN l
/-! Parts, one by one. -/
def glue (cur : List UInt8) : List (List UInt8) → List (List UInt8)
  | [] => [cur]
  | p :: ps => (cur ++ p) :: ps
theorem glue_end (cur : List UInt8) : glue cur (splitC []) = [cur] := by simp [splitC, glue]
theorem glue_colon (cur r : List UInt8) : glue cur (splitC (58 :: r)) = cur :: splitC r := by simp [splitC, glue]
theorem glue_other (cur r : List UInt8) (c : UInt8) (h : c ≠ 58) : glue cur (splitC (c :: r)) = glue (cur ++ [c]) (splitC r) := by
  simp only [splitC, if_neg h]
  cases hs : splitC r with
  | nil => exact absurd hs (splitC_ne r)
  | cons p ps => simp [glue]
theorem glue_nil (r : List UInt8) : glue [] (splitC r) = splitC r := by
  cases hs : splitC r with
  | nil => exact absurd hs (splitC_ne r)
  | cons p ps => rfl
theorem split_len : ∀ l : List UInt8, (splitC l).length ≤ l.length + 1
  | [] => by simp [splitC]
  | c :: l => by
    have := split_len l
    unfold splitC
    split
    · simp; omega
    · cases hs : splitC l with
      | nil => simp
      | cons p ps => rw [hs] at this; simp at this ⊢; omega
theorem split_each : ∀ (l : List UInt8), ∀ p ∈ splitC l, p.length ≤ l.length
  | [], p, h => by simp [splitC] at h; subst h; simp
  | c :: l, p, h => by
    have ih := split_each l
    unfold splitC at h
    split at h
    · rcases List.mem_cons.1 h with rfl | h
      · simp
      · have := ih p h; simp; omega
    · cases hs : splitC l with
      | nil => exact absurd hs (splitC_ne l)
      | cons q qs =>
        rw [hs] at h ih
        rcases List.mem_cons.1 h with rfl | h
        · have := ih q (by simp); simp; omega
        · have := ih p (by simp [h]); simp; omega
end Mom
end Go.Proofs.Ytgnjmejmngljjaa
