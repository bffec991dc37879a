/- Plain laws of rules: a stable merge, and exchanges in a row. -/
import Derived.Test.YtodcgalcpnckaaaRulPlainC
set_option linter.unusedVariables false
set_option linter.unusedSimpArgs false
namespace Go.Proofs.Ytodcgalcpnckaaa
namespace Rul
/-- In order: no later one is earlier. -/
def Up (l : List Turn) : Prop := l.Pairwise fun a b => a.at' ≤ b.at'
def mrg (A B : List Turn) : List Turn := B.foldl insT A
theorem insT_split : ∀ (A2 A1 : List Turn) (t : Turn), (∀ x ∈ A1, x.at' ≤ t.at') → (∀ x ∈ A2, t.at' < x.at') → insT (A1 ++ A2) t = A1 ++ t :: A2 := by
  intro A2
  generalize hn : A2.length = n
  induction n generalizing A2 with
  | zero =>
    intro A1 t h1 _
    obtain rfl := List.eq_nil_of_length_eq_zero hn
    rw [List.append_nil]
    by_cases he : A1 = []
    · subst he; rfl
    · obtain ⟨r, x, rfl⟩ : ∃ r x, A1 = r ++ [x] := ⟨A1.dropLast, A1.getLast he, (List.dropLast_concat_getLast he).symm⟩
      rw [insT_ge (by have := h1 x (by simp); omega)]
  | succ n ih =>
    intro A1 t h1 h2
    have he : A2 ≠ [] := by intro h; rw [h] at hn; simp at hn
    obtain ⟨r, x, rfl⟩ : ∃ r x, A2 = r ++ [x] := ⟨A2.dropLast, A2.getLast he, (List.dropLast_concat_getLast he).symm⟩
    rw [← List.append_assoc, insT_lt (h2 x (by simp)), ih r (by simpa using hn) A1 t h1 (fun y hy => h2 y (by simp [hy]))]
    simp
theorem up_split {A : List Turn} (h : Up A) (a : Int) : ∃ A1 A2, A = A1 ++ A2 ∧ (∀ x ∈ A1, x.at' ≤ a) ∧ (∀ x ∈ A2, a < x.at') := by
  induction A with
  | nil => exact ⟨[], [], rfl, by simp, by simp⟩
  | cons x A ih =>
    unfold Up at h
    rw [List.pairwise_cons] at h
    by_cases hx : x.at' ≤ a
    · obtain ⟨A1, A2, rfl, h1, h2⟩ := ih h.2
      exact ⟨x :: A1, A2, rfl, fun y hy => by rcases List.mem_cons.1 hy with rfl | hy; exact hx; exact h1 y hy, h2⟩
    · refine ⟨[], x :: A, rfl, by simp, fun y hy => ?_⟩
      rcases List.mem_cons.1 hy with rfl | hy
      · omega
      · have := h.1 y hy; omega
theorem up_ins {A : List Turn} (h : Up A) (t : Turn) : Up (insT A t) := by
  obtain ⟨A1, A2, rfl, h1, h2⟩ := up_split h t.at'
  rw [insT_split A2 A1 t h1 h2]
  unfold Up at *
  rw [List.pairwise_append] at h ⊢
  refine ⟨h.1, List.pairwise_cons.2 ⟨fun y hy => by have := h2 y hy; omega, h.2.1⟩, fun x hx y hy => ?_⟩
  rcases List.mem_cons.1 hy with rfl | hy
  · exact h1 x hx
  · exact h.2.2 x hx y hy
theorem up_mrg : ∀ (B A : List Turn), Up A → Up (mrg A B)
  | [], A, h => h
  | t :: B, A, h => up_mrg B (insT A t) (up_ins h t)
theorem up_sort (l : List Turn) : Up (sortT l) := up_mrg l [] List.Pairwise.nil
theorem mem_ins (A : List Turn) (t x : Turn) : x ∈ insT A t ↔ x = t ∨ x ∈ A := by rw [(insT_perm A t).mem_iff, List.mem_cons]
theorem mem_mrg : ∀ (B A : List Turn) (x : Turn), x ∈ mrg A B ↔ x ∈ A ∨ x ∈ B := by
  intro B A x
  rw [show mrg A B = B.foldl insT A from rfl, (foldT_perm B A).mem_iff, List.mem_append]
theorem mrg_length (A B : List Turn) : (mrg A B).length = A.length + B.length := foldT_length B A
/-- What is later than all that comes stays behind. -/
theorem mrg_late : ∀ (B X A : List Turn), Up X → (∀ y ∈ B, ∀ x ∈ A, y.at' < x.at') → mrg (X ++ A) B = mrg X B ++ A
  | [], X, A, _, _ => rfl
  | y :: B, X, A, hX, h => by
    obtain ⟨X1, X2, rfl, h1, h2⟩ := up_split hX y.at'
    have e1 : insT (X1 ++ X2 ++ A) y = insT (X1 ++ X2) y ++ A := by
      rw [List.append_assoc, insT_split (X2 ++ A) X1 y h1 (fun x hx => by rcases List.mem_append.1 hx with hx | hx; exact h2 x hx; exact h y (by simp) x hx), insT_split X2 X1 y h1 h2]
      simp
    show mrg (insT (X1 ++ X2 ++ A) y) B = mrg (insT (X1 ++ X2) y) B ++ A
    rw [e1]
    exact mrg_late B _ A (up_ins hX y) (fun z hz x hx => h z (by simp [hz]) x hx)
/-- What is no later than all that comes stays ahead. -/
theorem mrg_early : ∀ (B X Z : List Turn), Up Z → (∀ y ∈ B, ∀ x ∈ X, x.at' ≤ y.at') → mrg (X ++ Z) B = X ++ mrg Z B
  | [], X, Z, _, _ => rfl
  | y :: B, X, Z, hZ, h => by
    obtain ⟨Z1, Z2, rfl, h1, h2⟩ := up_split hZ y.at'
    have e1 : insT (X ++ (Z1 ++ Z2)) y = X ++ insT (Z1 ++ Z2) y := by
      rw [← List.append_assoc, insT_split Z2 (X ++ Z1) y (fun x hx => by rcases List.mem_append.1 hx with hx | hx; exact h y (by simp) x hx; exact h1 x hx) h2, insT_split Z2 Z1 y h1 h2]
      simp
    show mrg (insT (X ++ (Z1 ++ Z2)) y) B = X ++ mrg (insT (Z1 ++ Z2) y) B
    rw [e1]
    exact mrg_early B X _ (up_ins hZ y) (fun z hz x hx => h z (by simp [hz]) x hx)
theorem up_left {A B : List Turn} (h : Up (A ++ B)) : Up A := by unfold Up at *; exact (List.pairwise_append.1 h).1
theorem up_right {A B : List Turn} (h : Up (A ++ B)) : Up B := by unfold Up at *; exact (List.pairwise_append.1 h).2.1
/-- Two rows cut so that all ahead is no later than all behind. -/
theorem mrg_cut {A1 A2 B1 B2 : List Turn} (hA : Up (A1 ++ A2)) (hB : Up (B1 ++ B2)) (h1 : ∀ x ∈ A1, ∀ y ∈ B2, x.at' ≤ y.at') (h2 : ∀ y ∈ B1, ∀ x ∈ A2, y.at' < x.at') : mrg (A1 ++ A2) (B1 ++ B2) = mrg A1 B1 ++ mrg A2 B2 := by
  show (B1 ++ B2).foldl insT (A1 ++ A2) = _
  rw [List.foldl_append]
  show mrg (mrg (A1 ++ A2) B1) B2 = _
  rw [mrg_late B1 A1 A2 (up_left hA) h2]
  refine mrg_early B2 _ A2 (up_right hA) fun y hy x hx => ?_
  rcases (mem_mrg _ _ _).1 hx with hx | hx
  · exact h1 x hx y hy
  · unfold Up at hB
    exact (List.pairwise_append.1 hB).2.2 x hx y hy
theorem sort_up {l : List Turn} (h : Up l) : sortT l = l := by
  have key : ∀ (B A : List Turn), Up (A ++ B) → mrg A B = A ++ B := by
    intro B
    induction B with
    | nil => intro A _; simp [mrg]
    | cons y B ih =>
      intro A hu
      have e : insT A y = A ++ [y] := by
        have := insT_split [] A y (fun x hx => by unfold Up at hu; exact (List.pairwise_append.1 hu).2.2 x hx y (by simp)) (by simp)
        simpa using this
      show mrg (insT A y) B = _
      rw [e, ih (A ++ [y]) (by simpa using hu)]
      simp
  have := key l [] (by simpa using h)
  simpa [mrg, sortT] using this
theorem mrg_nil_up {B : List Turn} (h : Up B) : mrg [] B = B := sort_up h
/-- One element ahead of a row. -/
theorem mrg_one {x : Turn} {B1 B2 : List Turn} (hB : Up (B1 ++ B2)) (h1 : ∀ y ∈ B1, y.at' < x.at') (h2 : ∀ y ∈ B2, x.at' ≤ y.at') : mrg [x] (B1 ++ B2) = B1 ++ x :: B2 := by
  have e1 := mrg_cut (A1 := []) (A2 := [x]) (B1 := B1) (B2 := B2) (by unfold Up; simp) hB (by simp) (fun y hy z hz => by simp at hz; subst hz; exact h1 y hy)
  simp only [List.nil_append] at e1
  rw [e1, mrg_nil_up (up_left hB)]
  have e2 := mrg_early B2 [x] [] (by unfold Up; simp) (fun y hy z hz => by simp at hz; subst hz; exact h2 y hy)
  simp only [List.append_nil] at e2
  rw [e2, mrg_nil_up (up_right hB)]; rfl
theorem mrg_last {y : Turn} {A1 A2 : List Turn} (h1 : ∀ x ∈ A1, x.at' ≤ y.at') (h2 : ∀ x ∈ A2, y.at' < x.at') : mrg (A1 ++ A2) [y] = A1 ++ y :: A2 := insT_split A2 A1 y h1 h2
/-- Two inserts in the other order. -/
theorem ins_comm {A : List Turn} (h : Up A) {t u : Turn} (htu : t.at' < u.at') : insT (insT A t) u = insT (insT A u) t := by
  obtain ⟨A1, A', rfl, h1, h2⟩ := up_split h t.at'
  obtain ⟨A2, A3, rfl, h3, h4⟩ := up_split (up_right h) u.at'
  have h2' : ∀ x ∈ A2, t.at' < x.at' := fun x hx => h2 x (by simp [hx])
  have h2'' : ∀ x ∈ A3, t.at' < x.at' := fun x hx => h2 x (by simp [hx])
  rw [insT_split (A2 ++ A3) A1 t h1 h2]
  have e1 : A1 ++ t :: (A2 ++ A3) = (A1 ++ t :: A2) ++ A3 := by simp
  rw [e1, insT_split A3 (A1 ++ t :: A2) u (fun x hx => by
    rcases List.mem_append.1 hx with hx | hx
    · have := h1 x hx; omega
    · rcases List.mem_cons.1 hx with rfl | hx
      · omega
      · exact h3 x hx) h4]
  have e2 : A1 ++ (A2 ++ A3) = (A1 ++ A2) ++ A3 := by simp
  rw [e2, insT_split A3 (A1 ++ A2) u (fun x hx => by
    rcases List.mem_append.1 hx with hx | hx
    · have := h1 x hx; omega
    · exact h3 x hx) h4]
  have e3 : A1 ++ A2 ++ u :: A3 = A1 ++ (A2 ++ u :: A3) := by simp
  rw [e3, insT_split (A2 ++ u :: A3) A1 t h1 (fun x hx => by
    rcases List.mem_append.1 hx with hx | hx
    · exact h2' x hx
    · rcases List.mem_cons.1 hx with rfl | hx
      · exact htu
      · exact h2'' x hx)]
  simp
theorem mrg_snoc_late : ∀ (L A : List Turn) (t : Turn), Up A → (∀ x ∈ L, t.at' < x.at') → mrg (insT A t) L = insT (mrg A L) t
  | [], A, t, _, _ => rfl
  | x :: L, A, t, hA, h => by
    show mrg (insT (insT A t) x) L = insT (mrg (insT A x) L) t
    rw [ins_comm hA (h x (by simp))]
    exact mrg_snoc_late L _ t (up_ins hA x) (fun y hy => h y (by simp [hy]))
/-- A row that is put in order first is merged as it is laid one by one. -/
theorem mrg_sort {A : List Turn} (hA : Up A) : ∀ (n : Nat) (X : List Turn), X.length = n → mrg A (sortT X) = mrg A X := by
  intro n
  induction n with
  | zero => intro X hX; obtain rfl := List.eq_nil_of_length_eq_zero hX; rfl
  | succ n ih =>
    intro X hX
    have he : X ≠ [] := by intro h; rw [h] at hX; simp at hX
    obtain ⟨r, t, rfl⟩ : ∃ r t, X = r ++ [t] := ⟨X.dropLast, X.getLast he, (List.dropLast_concat_getLast he).symm⟩
    have e1 : sortT (r ++ [t]) = insT (sortT r) t := by unfold sortT; rw [List.foldl_append]; rfl
    obtain ⟨L1, L2, hL, h1, h2⟩ := up_split (up_sort r) t.at'
    rw [e1, hL, insT_split L2 L1 t h1 h2]
    have e2 : mrg A (L1 ++ t :: L2) = mrg (insT (mrg A L1) t) L2 := by
      show (L1 ++ t :: L2).foldl insT A = _
      rw [List.foldl_append]; rfl
    rw [e2, mrg_snoc_late L2 _ t (up_mrg L1 A hA) h2]
    have e3 : mrg (mrg A L1) L2 = mrg A (L1 ++ L2) := by
      show _ = (L1 ++ L2).foldl insT A
      rw [List.foldl_append]; rfl
    rw [e3, ← hL, ih r (by simpa using hX)]
    show insT (mrg A r) t = (r ++ [t]).foldl insT A
    rw [List.foldl_append]; rfl
theorem mrg_sorted (X Y : List Turn) : mrg (sortT X) (sortT Y) = sortT (X ++ Y) := by
  rw [mrg_sort (up_sort X) _ Y rfl]
  show Y.foldl insT (sortT X) = _
  unfold sortT
  rw [List.foldl_append]
end Rul
open Go.Sort
/-- Two elements of a row exchanged. -/
theorem swp_mid (P M S : List Turn) (x y : Turn) (i j : Nat) (hi : i = P.length) (hj : j = P.length + 1 + M.length) : swp (P ++ x :: (M ++ y :: S)).toArray i j = (P ++ y :: (M ++ x :: S)).toArray := by
  subst hi hj
  unfold swp
  have e1 : (P ++ x :: (M ++ y :: S)).toArray[P.length]! = x := by simp
  have e2 : (P ++ x :: (M ++ y :: S)).toArray[P.length + 1 + M.length]! = y := by
    rw [getElem!_pos _ _ (by simp; omega)]
    simp only [List.getElem_toArray]
    rw [List.getElem_append_right (by omega)]
    simp only [show P.length + 1 + M.length - P.length = M.length + 1 by omega, List.getElem_cons_succ]
    rw [List.getElem_append_right (by omega)]
    simp
  rw [e1, e2]
  apply Array.ext_getElem?
  intro k
  simp only [Array.getElem?_setIfInBounds, Array.size_setIfInBounds, List.size_toArray, List.length_append, List.length_cons, List.getElem?_toArray]
  rcases Nat.lt_trichotomy k P.length with h | h | h
  · rw [if_neg (by omega), if_neg (by omega), List.getElem?_append_left h, List.getElem?_append_left h]
  · subst h
    rw [if_neg (by omega), if_pos rfl, if_pos (by omega)]
    simp
  · obtain ⟨q, rfl⟩ : ∃ q, k = P.length + 1 + q := ⟨k - (P.length + 1), by omega⟩
    rw [List.getElem?_append_right (by omega), List.getElem?_append_right (by omega), show P.length + 1 + q - P.length = q + 1 by omega, List.getElem?_cons_succ, List.getElem?_cons_succ]
    rcases Nat.lt_trichotomy q M.length with g | g | g
    · rw [if_neg (by omega), if_neg (by omega), List.getElem?_append_left g, List.getElem?_append_left g]
    · subst g
      rw [if_pos rfl, if_pos (by omega)]
      simp
    · obtain ⟨r, rfl⟩ : ∃ r, q = M.length + 1 + r := ⟨q - (M.length + 1), by omega⟩
      rw [if_neg (by omega), if_neg (by omega), List.getElem?_append_right (by omega), List.getElem?_append_right (by omega), show M.length + 1 + r - M.length = r + 1 by omega, List.getElem?_cons_succ, List.getElem?_cons_succ]
/-- The insertion sort of a part of a row. -/
theorem ins_inner_at (lt : Turn → Turn → Bool) (hlt : ∀ x y, lt x y = decide (x.at' < y.at')) (Q : List Turn) : ∀ (j : Nat) (P R : List Turn) (t : Turn), Q.length + P.length = j → insInner lt Q.length j (Q ++ P ++ t :: R).toArray = (Q ++ Rul.insT P t ++ R).toArray := by
  intro j
  induction j with
  | zero =>
    intro P R t h
    obtain rfl := List.eq_nil_of_length_eq_zero (show Q.length = 0 by omega)
    obtain rfl := List.eq_nil_of_length_eq_zero (show P.length = 0 by simpa using h)
    rfl
  | succ j ih =>
    intro P R t h
    by_cases hne : P = []
    · subst hne
      rw [insInner_stop _ _ _ _ (.inl (by simp at h; omega))]
      simp [Rul.insT_nil]
    · obtain ⟨P', p, rfl⟩ : ∃ P' p, P = P' ++ [p] := ⟨P.dropLast, P.getLast hne, (List.dropLast_concat_getLast hne).symm⟩
      have hP : Q.length + P'.length = j := by simp at h; omega
      have e0 : (Q ++ (P' ++ [p]) ++ t :: R).toArray = ((Q ++ P') ++ p :: t :: R).toArray := by simp
      rw [e0]
      have hl0 : (Q ++ P').length = j := by simp; omega
      have e1 : ((Q ++ P') ++ p :: t :: R).toArray[j]! = p := by rw [← hl0]; simp
      have e2 : ((Q ++ P') ++ p :: t :: R).toArray[j + 1]! = t := by
        rw [← hl0, getElem!_pos _ _ (by simp; omega)]; simp only [List.getElem_toArray]; rw [List.getElem_append_right (by omega)]; simp
      unfold insInner
      rw [e1, e2, hlt]
      by_cases hl : t.at' < p.at'
      · rw [if_pos (by simp [hl]; omega)]
        have := swp_lists (Q ++ P') R p t
        rw [hl0] at this
        rw [this, List.append_assoc Q P', ← List.append_assoc Q P', ih P' (p :: R) t hP, Rul.insT_lt hl]
        simp
      · rw [if_neg (by simp; omega), Rul.insT_ge hl]
        simp
theorem ins_outer_at (lt : Turn → Turn → Bool) (hlt : ∀ x y, lt x y = decide (x.at' < y.at')) (Q T : List Turn) : ∀ (R P : List Turn) (i b : Nat), Q.length + P.length = i → b = i + R.length → insOuter lt Q.length b i (Q ++ P ++ (R ++ T)).toArray = (Q ++ R.foldl Rul.insT P ++ T).toArray := by
  intro R
  induction R with
  | nil =>
    intro P i b h hb
    rw [insOuter_stop _ _ _ _ _ (by simp at hb; omega)]
    simp
  | cons t R ih =>
    intro P i b h hb
    rw [insOuter_go _ _ _ _ _ (by simp at hb; omega), List.cons_append, ins_inner_at lt hlt Q i P (R ++ T) t h]
    have := ih (Rul.insT P t) (i + 1) b (by rw [Rul.insT_length]; omega) (by simp at hb; omega)
    rw [this]; rfl
theorem ins_part (lt : Turn → Turn → Bool) (hlt : ∀ x y, lt x y = decide (x.at' < y.at')) (Q X T : List Turn) : insertionSort lt (Q ++ X ++ T).toArray Q.length (Q.length + X.length) = (Q ++ Rul.sortT X ++ T).toArray := by
  unfold insertionSort
  cases X with
  | nil => rw [insOuter_stop _ _ _ _ _ (by simp)]; rfl
  | cons t l =>
    have := ins_outer_at lt hlt Q T l [t] (Q.length + 1) (Q.length + (t :: l).length) (by simp) (by simp; omega)
    have e0 : Q ++ t :: l ++ T = Q ++ [t] ++ (l ++ T) := by simp
    rw [e0, this]
    unfold Rul.sortT
    rw [List.foldl_cons, Rul.insT_nil]
end Go.Proofs.Ytodcgalcpnckaaa
