/- Plain laws of rules: turns laid in order, one by one. -/
import Derived.Test.YtodcgalcpnckaaaRulPlainB
import Derived.Sort.WalkA
set_option linter.unusedVariables false
set_option linter.unusedSimpArgs false
namespace Go.Proofs.Ytodcgalcpnckaaa
instance : Inhabited Turn := ⟨⟨0, 0, 0, ⟨#[]⟩⟩⟩
namespace Rul
/-- Where a time belongs in a row: behind the last one that is no later. -/
def cutT (l : List Turn) (a : Int) : Nat → Nat
  | 0 => 0
  | k + 1 => if a < (l.getD k default).at' then cutT l a k else k + 1
def insT (l : List Turn) (t : Turn) : List Turn := l.take (cutT l t.at' l.length) ++ t :: l.drop (cutT l t.at' l.length)
def sortT (l : List Turn) : List Turn := l.foldl insT []
theorem cutT_le (l : List Turn) (a : Int) : ∀ k, cutT l a k ≤ k := by
  intro k
  induction k with
  | zero => exact Nat.le_refl _
  | succ k ih => unfold cutT; split <;> omega
theorem cutT_app (P R : List Turn) (a : Int) : ∀ k, k ≤ P.length → cutT (P ++ R) a k = cutT P a k := by
  intro k
  induction k with
  | zero => intro _; rfl
  | succ k ih =>
    intro h
    unfold cutT
    rw [ih (by omega)]
    rw [show (P ++ R).getD k default = P.getD k default by simp [List.getD_eq_getElem?_getD, List.getElem?_append_left (show k < P.length by omega)]]
theorem insT_nil (t : Turn) : insT [] t = [t] := rfl
theorem insT_lt {P : List Turn} {p t : Turn} (h : t.at' < p.at') : insT (P ++ [p]) t = insT P t ++ [p] := by
  have e : cutT (P ++ [p]) t.at' (P ++ [p]).length = cutT P t.at' P.length := by
    rw [List.length_append, List.length_singleton, cutT]
    rw [show (P ++ [p]).getD P.length default = p by simp [List.getD_eq_getElem?_getD], if_pos h, cutT_app _ _ _ _ (Nat.le_refl _)]
  have hle := cutT_le P t.at' P.length
  unfold insT
  rw [e, List.take_append_of_le_length hle, List.drop_append_of_le_length hle]
  simp
theorem insT_ge {P : List Turn} {p t : Turn} (h : ¬ t.at' < p.at') : insT (P ++ [p]) t = (P ++ [p]) ++ [t] := by
  have e : cutT (P ++ [p]) t.at' (P ++ [p]).length = (P ++ [p]).length := by
    rw [List.length_append, List.length_singleton, cutT]
    rw [show (P ++ [p]).getD P.length default = p by simp [List.getD_eq_getElem?_getD], if_neg h]
  unfold insT
  rw [e, List.take_length, List.drop_length]
theorem insT_length (l : List Turn) (t : Turn) : (insT l t).length = l.length + 1 := by
  have := cutT_le l t.at' l.length
  unfold insT; simp; omega
theorem foldT_length (l : List Turn) : ∀ r, (l.foldl insT r).length = r.length + l.length := by
  induction l with
  | nil => intro r; rfl
  | cons t l ih => intro r; rw [List.foldl_cons, ih, insT_length, List.length_cons]; omega
theorem sortT_length (l : List Turn) : (sortT l).length = l.length := by unfold sortT; rw [foldT_length]; simp
theorem insT_perm (l : List Turn) (t : Turn) : (insT l t).Perm (t :: l) := by
  unfold insT
  refine List.perm_middle.trans (List.Perm.cons t ?_)
  rw [List.take_append_drop]
theorem foldT_perm (l : List Turn) : ∀ r, (l.foldl insT r).Perm (r ++ l) := by
  induction l with
  | nil => intro r; simp
  | cons t l ih =>
    intro r
    rw [List.foldl_cons]
    refine (ih _).trans ?_
    refine ((insT_perm r t).append_right l).trans ?_
    exact List.perm_middle.symm
theorem sortT_perm (l : List Turn) : (sortT l).Perm l := by unfold sortT; simpa using foldT_perm l []
end Rul
open Go.Sort
theorem swp_lists (P R : List Turn) (p t : Turn) : swp (P ++ p :: t :: R).toArray (P.length + 1) P.length = (P ++ t :: p :: R).toArray := by
  unfold swp
  have e1 : (P ++ p :: t :: R).toArray[P.length]! = p := by simp
  have e2 : (P ++ p :: t :: R).toArray[P.length + 1]! = t := by
    rw [getElem!_pos _ _ (by simp)]; simp [List.getElem_append_right]
  rw [e1, e2]
  apply Array.ext_getElem?
  intro i
  simp only [Array.getElem?_setIfInBounds, List.size_toArray, List.length_append, List.length_cons, List.getElem?_toArray]
  rcases Nat.lt_trichotomy i P.length with h | h | h
  · rw [if_neg (by omega), if_neg (by omega), List.getElem?_append_left h, List.getElem?_append_left h]
  · subst h
    simp
  · obtain ⟨k, rfl⟩ : ∃ k, i = P.length + 1 + k := ⟨i - (P.length + 1), by omega⟩
    rw [if_neg (by omega), List.getElem?_append_right (by omega), List.getElem?_append_right (by omega)]
    rw [show P.length + 1 + k - P.length = k + 1 by omega]
    cases k with
    | zero => simp
    | succ k => rw [if_neg (by omega)]; simp
theorem ins_inner (lt : Turn → Turn → Bool) (hlt : ∀ x y, lt x y = decide (x.at' < y.at')) : ∀ (j : Nat) (P R : List Turn) (t : Turn), P.length = j → insInner lt 0 j (P ++ t :: R).toArray = (Rul.insT P t ++ R).toArray := by
  intro j
  induction j with
  | zero =>
    intro P R t h
    obtain rfl := List.eq_nil_of_length_eq_zero h
    rfl
  | succ j ih =>
    intro P R t h
    have hne : P ≠ [] := by intro h0; rw [h0] at h; simp at h
    obtain ⟨P', p, rfl⟩ : ∃ P' p, P = P' ++ [p] := ⟨P.dropLast, P.getLast hne, (List.dropLast_concat_getLast hne).symm⟩
    have hP : P'.length = j := by simpa using h
    subst hP
    have e0 : (P' ++ [p] ++ t :: R).toArray = (P' ++ p :: t :: R).toArray := by simp
    rw [e0]
    have e1 : (P' ++ p :: t :: R).toArray[P'.length]! = p := by simp
    have e2 : (P' ++ p :: t :: R).toArray[P'.length + 1]! = t := by
      rw [getElem!_pos _ _ (by simp)]; simp [List.getElem_append_right]
    unfold insInner
    rw [e1, e2, hlt]
    by_cases hl : t.at' < p.at'
    · rw [if_pos (by simp [hl]), swp_lists, ih P' (p :: R) t rfl, Rul.insT_lt hl]
      simp
    · rw [if_neg (by simp; omega), Rul.insT_ge hl]
      simp
theorem ins_outer (lt : Turn → Turn → Bool) (hlt : ∀ x y, lt x y = decide (x.at' < y.at')) : ∀ (R P : List Turn) (i b : Nat), P.length = i → b = i + R.length → insOuter lt 0 b i (P ++ R).toArray = (R.foldl Rul.insT P).toArray := by
  intro R
  induction R with
  | nil =>
    intro P i b h hb
    rw [insOuter_stop _ _ _ _ _ (by simp at hb; omega)]
    simp
  | cons t R ih =>
    intro P i b h hb
    rw [insOuter_go _ _ _ _ _ (by simp at hb; omega), ins_inner lt hlt i P R t h]
    have := ih (Rul.insT P t) (i + 1) b (by rw [Rul.insT_length]; omega) (by simp at hb; omega)
    rw [this]; rfl
theorem ins_all (lt : Turn → Turn → Bool) (hlt : ∀ x y, lt x y = decide (x.at' < y.at')) (l : List Turn) : insertionSort lt l.toArray 0 l.length = (Rul.sortT l).toArray := by
  unfold insertionSort
  cases l with
  | nil => rw [insOuter_stop _ _ _ _ _ (by simp)]; rfl
  | cons t l =>
    have := ins_outer lt hlt l [t] 1 (t :: l).length rfl (by simp; omega)
    unfold Rul.sortT
    rw [List.foldl_cons, Rul.insT_nil]
    exact this
end Go.Proofs.Ytodcgalcpnckaaa
