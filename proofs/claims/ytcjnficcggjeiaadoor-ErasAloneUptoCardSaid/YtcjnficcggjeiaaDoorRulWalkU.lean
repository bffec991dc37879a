/- Plain laws of rules: turns laid in order, one by one. -/
import Derived.Test.YtcjnficcggjeiaaDoorRulPlainB
import Derived.Sort.WalkA
import Derived.Test.YtcjnficcggjeiaaDoorRulWalkD
import Derived.Test.YtcjnficcggjeiaaDoorCivWalkJ
import Derived.Shelf.SlSortCmp.InsertionK
import Derived.Lib.OwnBridge
import Derived.Test.YtcjnficcggjeiaaDoorOwns
set_option linter.unusedVariables false
set_option linter.unusedSimpArgs false
namespace Go.Proofs.YtcjnficcggjeiaaDoor
instance : Inhabited Turn := ⟨⟨0, 0, 0, ⟨#[]⟩⟩⟩
namespace Rul
/-- Where a time belongs in a row: behind the last one that is no later. -/
def cutT (l : List Turn) (a : Int) : Nat → Nat
  | 0 => 0
  | k + 1 => if a < (l.getD k default).at' then cutT l a k else k + 1
def insT (l : List Turn) (t : Turn) : List Turn := l.take (cutT l t.at' l.length) ++ t :: l.drop (cutT l t.at' l.length)
def sortT (l : List Turn) : List Turn := l.foldl insT []
theorem cutT_le (l : List Turn) (a : Int) : ∀ k, cutT l a k ≤ k := by
  intro k
  induction k with
  | zero => exact Nat.le_refl _
  | succ k ih => unfold cutT; split <;> omega
theorem cutT_app (P R : List Turn) (a : Int) : ∀ k, k ≤ P.length → cutT (P ++ R) a k = cutT P a k := by
  intro k
  induction k with
  | zero => intro _; rfl
  | succ k ih =>
    intro h
    unfold cutT
    rw [ih (by omega)]
    rw [show (P ++ R).getD k default = P.getD k default by simp [List.getD_eq_getElem?_getD, List.getElem?_append_left (show k < P.length by omega)]]
theorem insT_nil (t : Turn) : insT [] t = [t] := rfl
theorem insT_lt {P : List Turn} {p t : Turn} (h : t.at' < p.at') : insT (P ++ [p]) t = insT P t ++ [p] := by
  have e : cutT (P ++ [p]) t.at' (P ++ [p]).length = cutT P t.at' P.length := by
    rw [List.length_append, List.length_singleton, cutT]
    rw [show (P ++ [p]).getD P.length default = p by simp [List.getD_eq_getElem?_getD], if_pos h, cutT_app _ _ _ _ (Nat.le_refl _)]
  have hle := cutT_le P t.at' P.length
  unfold insT
  rw [e, List.take_append_of_le_length hle, List.drop_append_of_le_length hle]
  simp
theorem insT_ge {P : List Turn} {p t : Turn} (h : ¬ t.at' < p.at') : insT (P ++ [p]) t = (P ++ [p]) ++ [t] := by
  have e : cutT (P ++ [p]) t.at' (P ++ [p]).length = (P ++ [p]).length := by
    rw [List.length_append, List.length_singleton, cutT]
    rw [show (P ++ [p]).getD P.length default = p by simp [List.getD_eq_getElem?_getD], if_neg h]
  unfold insT
  rw [e, List.take_length, List.drop_length]
theorem insT_length (l : List Turn) (t : Turn) : (insT l t).length = l.length + 1 := by
  have := cutT_le l t.at' l.length
  unfold insT; simp; omega
theorem foldT_length (l : List Turn) : ∀ r, (l.foldl insT r).length = r.length + l.length := by
  induction l with
  | nil => intro r; rfl
  | cons t l ih => intro r; rw [List.foldl_cons, ih, insT_length, List.length_cons]; omega
theorem sortT_length (l : List Turn) : (sortT l).length = l.length := by unfold sortT; rw [foldT_length]; simp
theorem insT_perm (l : List Turn) (t : Turn) : (insT l t).Perm (t :: l) := by
  unfold insT
  refine List.perm_middle.trans (List.Perm.cons t ?_)
  rw [List.take_append_drop]
theorem foldT_perm (l : List Turn) : ∀ r, (l.foldl insT r).Perm (r ++ l) := by
  induction l with
  | nil => intro r; simp
  | cons t l ih =>
    intro r
    rw [List.foldl_cons]
    refine (ih _).trans ?_
    refine ((insT_perm r t).append_right l).trans ?_
    exact List.perm_middle.symm
theorem sortT_perm (l : List Turn) : (sortT l).Perm l := by unfold sortT; simpa using foldT_perm l []
end Rul
open Go.Sort
theorem swp_lists (P R : List Turn) (p t : Turn) : swp (P ++ p :: t :: R).toArray (P.length + 1) P.length = (P ++ t :: p :: R).toArray := by
  unfold swp
  have e1 : (P ++ p :: t :: R).toArray[P.length]! = p := by simp
  have e2 : (P ++ p :: t :: R).toArray[P.length + 1]! = t := by
    rw [getElem!_pos _ _ (by simp)]; simp [List.getElem_append_right]
  rw [e1, e2]
  apply Array.ext_getElem?
  intro i
  simp only [Array.getElem?_setIfInBounds, List.size_toArray, List.length_append, List.length_cons, List.getElem?_toArray]
  rcases Nat.lt_trichotomy i P.length with h | h | h
  · rw [if_neg (by omega), if_neg (by omega), List.getElem?_append_left h, List.getElem?_append_left h]
  · subst h
    simp
  · obtain ⟨k, rfl⟩ : ∃ k, i = P.length + 1 + k := ⟨i - (P.length + 1), by omega⟩
    rw [if_neg (by omega), List.getElem?_append_right (by omega), List.getElem?_append_right (by omega)]
    rw [show P.length + 1 + k - P.length = k + 1 by omega]
    cases k with
    | zero => simp
    | succ k => rw [if_neg (by omega)]; simp
theorem ins_inner (lt : Turn → Turn → Bool) (hlt : ∀ x y, lt x y = decide (x.at' < y.at')) : ∀ (j : Nat) (P R : List Turn) (t : Turn), P.length = j → insInner lt 0 j (P ++ t :: R).toArray = (Rul.insT P t ++ R).toArray := by
  intro j
  induction j with
  | zero =>
    intro P R t h
    obtain rfl := List.eq_nil_of_length_eq_zero h
    rfl
  | succ j ih =>
    intro P R t h
    have hne : P ≠ [] := by intro h0; rw [h0] at h; simp at h
    obtain ⟨P', p, rfl⟩ : ∃ P' p, P = P' ++ [p] := ⟨P.dropLast, P.getLast hne, (List.dropLast_concat_getLast hne).symm⟩
    have hP : P'.length = j := by simpa using h
    subst hP
    have e0 : (P' ++ [p] ++ t :: R).toArray = (P' ++ p :: t :: R).toArray := by simp
    rw [e0]
    have e1 : (P' ++ p :: t :: R).toArray[P'.length]! = p := by simp
    have e2 : (P' ++ p :: t :: R).toArray[P'.length + 1]! = t := by
      rw [getElem!_pos _ _ (by simp)]; simp [List.getElem_append_right]
    unfold insInner
    rw [e1, e2, hlt]
    by_cases hl : t.at' < p.at'
    · rw [if_pos (by simp [hl]), swp_lists, ih P' (p :: R) t rfl, Rul.insT_lt hl]
      simp
    · rw [if_neg (by simp; omega), Rul.insT_ge hl]
      simp
theorem ins_outer (lt : Turn → Turn → Bool) (hlt : ∀ x y, lt x y = decide (x.at' < y.at')) : ∀ (R P : List Turn) (i b : Nat), P.length = i → b = i + R.length → insOuter lt 0 b i (P ++ R).toArray = (R.foldl Rul.insT P).toArray := by
  intro R
  induction R with
  | nil =>
    intro P i b h hb
    rw [insOuter_stop _ _ _ _ _ (by simp at hb; omega)]
    simp
  | cons t R ih =>
    intro P i b h hb
    rw [insOuter_go _ _ _ _ _ (by simp at hb; omega), ins_inner lt hlt i P R t h]
    have := ih (Rul.insT P t) (i + 1) b (by rw [Rul.insT_length]; omega) (by simp at hb; omega)
    rw [this]; rfl
theorem ins_all (lt : Turn → Turn → Bool) (hlt : ∀ x y, lt x y = decide (x.at' < y.at')) (l : List Turn) : insertionSort lt l.toArray 0 l.length = (Rul.sortT l).toArray := by
  unfold insertionSort
  cases l with
  | nil => rw [insOuter_stop _ _ _ _ _ (by simp)]; rfl
  | cons t l =>
    have := ins_outer lt hlt l [t] 1 (t :: l).length rfl (by simp; omega)
    unfold Rul.sortT
    rw [List.foldl_cons, Rul.insT_nil]
    exact this
end Go.Proofs.YtcjnficcggjeiaaDoor
set_option linter.unusedVariables false
set_option linter.unusedSimpArgs false
namespace Go.Proofs.YtcjnficcggjeiaaDoor
open Go.RowKit

/-- The cells of some turns. -/
def turnRow : List Turn → List Value
  | [] => []
  | x :: l => turnCells x ++ turnRow l
theorem turnRow_at (l : List Turn) : ∀ (i : Nat) (h : i < l.length) (c : Nat) (u : Value), (turnCells l[i])[c]? = some u → (turnRow l)[i * 4 + c]? = some u := by
  induction l with
  | nil => intro i h; simp at h
  | cons x l ih =>
    intro i h c u hu
    cases i with
    | zero =>
      have hc : c < (turnCells x).length := (List.getElem?_eq_some_iff.1 hu).1
      simp only [Nat.zero_mul, Nat.zero_add, turnRow]
      rw [List.getElem?_append_left hc]; exact hu
    | succ i =>
      have := ih i (by simpa using h) c u hu
      simp only [turnRow]
      rw [List.getElem?_append_right (by simp; omega)]
      rw [show (i + 1) * 4 + c - (turnCells x).length = i * 4 + c by simp; omega]
      exact this
/-- What a slice of turns holds at a place. -/
theorem turn_at {w : World} {b o : Nat} {l : List Turn} (hc : ∀ i u, (turnRow l)[i]? = some u → w.cell? ⟨b, o + i, none⟩ = some u) (j : Nat) (h : j < l.length) :
    w.cell? ⟨b, o + j * 4, none⟩ = some (.int .i64 l[j].at') ∧ w.cell? ⟨b, o + j * 4 + 1, none⟩ = some (.int .i64 l[j].r) ∧ w.cell? ⟨b, o + j * 4 + 2, none⟩ = some (.int .i64 l[j].s) ∧ w.cell? ⟨b, o + j * 4 + 3, none⟩ = some (.string l[j].l) := by
  have k := fun c u hu => hc _ _ (turnRow_at l j h c u hu)
  simp only [← Nat.add_assoc] at k
  exact ⟨k 0 _ rfl, k 1 _ rfl, k 2 _ rfl, k 3 _ rfl⟩
end Go.Proofs.YtcjnficcggjeiaaDoor
set_option linter.unusedVariables false
set_option linter.unusedSimpArgs false
namespace Go.Proofs.YtcjnficcggjeiaaDoor
open Go.RowKit Go.Sort Go.Shelf

theorem lt_turn (x y : Turn) : ltOf (fun x y : Turn => cmpI x.at' y.at') x y = decide (x.at' < y.at') := by
  unfold ltOf
  by_cases h1 : x.at' < y.at'
  · simp [cmpI_lt h1, h1]
  · by_cases h2 : y.at' < x.at'
    · simp [cmpI_gt h2, h1]
    · simp [cmpI_eq h1 h2, h1]
end Go.Proofs.YtcjnficcggjeiaaDoor
set_option linter.unusedVariables false
set_option linter.unusedSimpArgs false
namespace Go.Proofs.YtcjnficcggjeiaaDoor
open Go.RowKit Go.Sort Go.Shelf

theorem turnRow_length (l : List Turn) : (turnRow l).length = l.length * 4 := by
  induction l with
  | nil => rfl
  | cons x l ih => simp only [turnRow, List.length_append, ih, List.length_cons]; simp; omega
theorem turnRow_snoc (l : List Turn) (t : Turn) : turnRow (l ++ [t]) = turnRow l ++ turnCells t := by
  induction l with
  | nil => simp [turnRow]
  | cons x l ih => simp only [List.cons_append, turnRow, ih, List.append_assoc]
theorem turnRow_append (l r : List Turn) : turnRow (l ++ r) = turnRow l ++ turnRow r := by
  induction l with
  | nil => simp [turnRow]
  | cons x l ih => simp only [List.cons_append, turnRow, ih, List.append_assoc]
theorem row_flat (l : List Turn) (j : Nat) (h : j < l.length * 4) : (turnRow l)[j]? = some (flatK turnCells 4 l.toArray)[j]! := by
  have h4 : j / 4 < l.length := by omega
  have e : j = j / 4 * 4 + j % 4 := by omega
  rw [get_flatK _ _ _ _ (by simpa using h)]
  have := turnRow_at l (j / 4) h4 (j % 4) ((turnCells l[j / 4])[j % 4]!) (by
    have h3 : j % 4 < (turnCells l[j / 4]).length := by show j % 4 < 4; omega
    rw [List.getElem?_eq_getElem h3, getElem!_pos (turnCells l[j / 4]) (j % 4) h3])
  rw [← e] at this
  rw [this]
  congr 3
  simp [h4]
theorem holdsK_of_owns {w : World} {base : Nat} {e : TypeId} {v : Value} {n : Nat} {l : List Turn} (hn : l.length = n) (h : w.ownsRow base e 4 v n (turnRow l)) :
    (v = .slice none 0 0 ∧ n = 0) ∨ ∃ g cap, v = .slice (some ⟨g, 0, none⟩) n cap ∧ base ≤ g ∧ g < w.heap.size ∧ n ≤ cap ∧ cap ≤ maxLen ∧ HoldsK turnCells 4 w g 0 l.toArray := by
  rcases h.2 with ⟨e0, e1⟩ | ⟨g, cap, cur, rfl, hb, hg, hle, hm, hs, ht⟩
  · exact .inl ⟨e0, e1⟩
  · right
    have hlt : g < w.heap.size := by
      rcases Nat.lt_or_ge g w.heap.size with h' | h'
      · exact h'
      · rw [Array.getElem?_eq_none h'] at hg; cases hg
    refine ⟨g, cap, rfl, hb, hlt, hle, hm, fun j hj => ?_⟩
    have hj' : j < l.length * 4 := by simpa using hj
    refine ⟨?_, by simp [World.frozen?, hg]⟩
    have e1 : (cur.toList.take (n * 4))[j]? = (turnRow l)[j]? := by rw [ht]
    rw [List.getElem?_take, if_pos (by omega), Array.getElem?_toList, row_flat l j hj'] at e1
    simp only [World.cell?, hg, Nat.zero_add]
    simp only [Option.isSome_none, Bool.false_eq_true, if_false]
    rw [e1]; rfl
theorem reads_of_holdsK {w : World} {g n cap : Nat} {l : List Turn} (hn : l.length = n) (h1 : n ≤ cap) (h2 : cap ≤ maxLen) (hg : g < w.heap.size) (h : HoldsK turnCells 4 w g 0 l.toArray) : Reads w (.slice (some ⟨g, 0, none⟩) n cap) n (turnRow l) := by
  refine .inr ⟨g, 0, cap, rfl, h1, h2, hg, fun i u hu => ?_⟩
  have hi : i < l.length * 4 := by rw [← turnRow_length]; exact (List.getElem?_eq_some_iff.1 hu).1
  rw [row_flat l i hi] at hu
  injection hu with hu
  have := (h i (by simpa using hi)).1
  rw [this, ← hu]; rfl
theorem below_grow {B : Nat} {w0 w : World} (h : Below B w0 w) (os : Array Obj) (hB : B ≤ w0.heap.size) : Below B w0 (grow w os) :=
  ⟨h.os, h.tape, h.output, by have := h.size; simp [grow]; omega, fun k hk => by
    rw [← h.block k hk]
    have := h.size
    simp only [grow]
    rw [Array.getElem?_append_left (by omega)]⟩
theorem ext_sorted {w0 w : World} (h : Ext w0 w) {g m : Nat} {d : Array Turn} {os : Array Obj} (hg : w0.heap.size ≤ g) : Ext w0 (sortWorldK turnCells 4 w g 0 m d os) := by
  unfold sortWorldK putRowK
  exact below_grow (Lib.below_putRow h hg) os (Nat.le_refl _)
/-- What a sort of few turns leaves. -/
def Sorted (w0 : World) (v : Value) (n : Nat) (l : List Turn) (e : Ending) (w' : World) : Prop := e = .returned (.tuple #[]) ∧ ∃ y : Past w0, w' = y.x ∧ Reads y.x v n (turnRow l)
end Go.Proofs.YtcjnficcggjeiaaDoor
set_option linter.unusedVariables false
set_option linter.unusedSimpArgs false
namespace Go.Proofs.YtcjnficcggjeiaaDoor
open Go.RowKit Go.Sort Go.Shelf

namespace Rul
/-- A year's turns as the rules stand, and in order. -/
def turnL (l : List Rule) (y : Int) : List Turn := l.filterMap fun x => if turnB x y = true then some (turnOf x y) else none
def turnsG (l : List Rule) (y : Int) : List Turn := sortT (turnL l y)
theorem turnL_no {l : List Rule} {y : Int} {j : Nat} (h : j < l.length) (hb : turnB l[j] y = false) : turnL (l.take (j + 1)) y = turnL (l.take j) y := by
  unfold turnL
  rw [List.take_succ_eq_append_getElem h, List.filterMap_append]; simp [hb]
theorem turnL_yes {l : List Rule} {y : Int} {j : Nat} (h : j < l.length) (hb : turnB l[j] y = true) : turnL (l.take (j + 1)) y = turnL (l.take j) y ++ [turnOf l[j] y] := by
  unfold turnL
  rw [List.take_succ_eq_append_getElem h, List.filterMap_append]; simp [hb]
theorem turnL_le (l : List Rule) (y : Int) : (turnL l y).length ≤ l.length := List.length_filterMap_le _ _
theorem turnsG_length (l : List Rule) (y : Int) : (turnsG l y).length = (turnL l y).length := sortT_length _
end Rul
/-- A call that returns some turns. -/
def TurnsEnd (w : World) (l : List Turn) (e : Ending) (w' : World) : Prop := ∃ v, ∃ y : Past w, e = .returned v ∧ Reads y.x v l.length (turnRow l) ∧ w' = y.x
theorem Tryd.infoTurn : (Tryd.prog.info? 96).map (fun i => (i.zero, i.size, i.bytes)) = some (some (.agg #[.int .i64 0, .int .i64 0, .int .i64 0, .string ByteArray.empty]), 4, 40) := by kernel_rfl
theorem info_partsT {i : Option TypeInfo} {z : Option Value} {s b : Nat} (h : i.map (fun i => (i.zero, i.size, i.bytes)) = some (z, s, b)) : ∃ j, i = some j ∧ j.zero = z ∧ j.size = s ∧ j.bytes = b := by
  obtain ⟨j, h1, h2⟩ := Option.map_eq_some_iff.1 h
  simp only [Prod.mk.injEq] at h2
  exact ⟨j, h1, h2.1, h2.2.1, h2.2.2⟩
end Go.Proofs.YtcjnficcggjeiaaDoor
