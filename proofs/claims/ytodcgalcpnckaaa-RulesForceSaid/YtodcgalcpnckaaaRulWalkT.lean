/- Walks of rules: a stable sort of few turns. -/
import Derived.Test.YtodcgalcpnckaaaRulWalkS
import Derived.Lib.OwnBridge
set_option linter.unusedVariables false
set_option linter.unusedSimpArgs false
namespace Go.Proofs.Ytodcgalcpnckaaa
open Go.RowKit Go.Sort Go.Shelf

theorem turnRow_length (l : List Turn) : (turnRow l).length = l.length * 4 := by
  induction l with
  | nil => rfl
  | cons x l ih => simp only [turnRow, List.length_append, ih, List.length_cons]; simp; omega
theorem turnRow_snoc (l : List Turn) (t : Turn) : turnRow (l ++ [t]) = turnRow l ++ turnCells t := by
  induction l with
  | nil => simp [turnRow]
  | cons x l ih => simp only [List.cons_append, turnRow, ih, List.append_assoc]
theorem turnRow_append (l r : List Turn) : turnRow (l ++ r) = turnRow l ++ turnRow r := by
  induction l with
  | nil => simp [turnRow]
  | cons x l ih => simp only [List.cons_append, turnRow, ih, List.append_assoc]
theorem row_flat (l : List Turn) (j : Nat) (h : j < l.length * 4) : (turnRow l)[j]? = some (flatK turnCells 4 l.toArray)[j]! := by
  have h4 : j / 4 < l.length := by omega
  have e : j = j / 4 * 4 + j % 4 := by omega
  rw [get_flatK _ _ _ _ (by simpa using h)]
  have := turnRow_at l (j / 4) h4 (j % 4) ((turnCells l[j / 4])[j % 4]!) (by
    have h3 : j % 4 < (turnCells l[j / 4]).length := by show j % 4 < 4; omega
    rw [List.getElem?_eq_getElem h3, getElem!_pos (turnCells l[j / 4]) (j % 4) h3])
  rw [← e] at this
  rw [this]
  congr 3
  simp [h4]
theorem holdsK_of_owns {w : World} {base : Nat} {e : TypeId} {v : Value} {n : Nat} {l : List Turn} (hn : l.length = n) (h : w.ownsRow base e 4 v n (turnRow l)) :
    (v = .slice none 0 0 ∧ n = 0) ∨ ∃ g cap, v = .slice (some ⟨g, 0, none⟩) n cap ∧ base ≤ g ∧ g < w.heap.size ∧ n ≤ cap ∧ cap ≤ maxLen ∧ HoldsK turnCells 4 w g 0 l.toArray := by
  rcases h.2 with ⟨e0, e1⟩ | ⟨g, cap, cur, rfl, hb, hg, hle, hm, hs, ht⟩
  · exact .inl ⟨e0, e1⟩
  · right
    have hlt : g < w.heap.size := by
      rcases Nat.lt_or_ge g w.heap.size with h' | h'
      · exact h'
      · rw [Array.getElem?_eq_none h'] at hg; cases hg
    refine ⟨g, cap, rfl, hb, hlt, hle, hm, fun j hj => ?_⟩
    have hj' : j < l.length * 4 := by simpa using hj
    refine ⟨?_, by simp [World.frozen?, hg]⟩
    have e1 : (cur.toList.take (n * 4))[j]? = (turnRow l)[j]? := by rw [ht]
    rw [List.getElem?_take, if_pos (by omega), Array.getElem?_toList, row_flat l j hj'] at e1
    simp only [World.cell?, hg, Nat.zero_add]
    simp only [Option.isSome_none, Bool.false_eq_true, if_false]
    rw [e1]; rfl
theorem reads_of_holdsK {w : World} {g n cap : Nat} {l : List Turn} (hn : l.length = n) (h1 : n ≤ cap) (h2 : cap ≤ maxLen) (hg : g < w.heap.size) (h : HoldsK turnCells 4 w g 0 l.toArray) : Reads w (.slice (some ⟨g, 0, none⟩) n cap) n (turnRow l) := by
  refine .inr ⟨g, 0, cap, rfl, h1, h2, hg, fun i u hu => ?_⟩
  have hi : i < l.length * 4 := by rw [← turnRow_length]; exact (List.getElem?_eq_some_iff.1 hu).1
  rw [row_flat l i hi] at hu
  injection hu with hu
  have := (h i (by simpa using hi)).1
  rw [this, ← hu]; rfl
theorem below_grow {B : Nat} {w0 w : World} (h : Below B w0 w) (os : Array Obj) (hB : B ≤ w0.heap.size) : Below B w0 (grow w os) :=
  ⟨h.os, h.tape, h.output, by have := h.size; simp [grow]; omega, fun k hk => by
    rw [← h.block k hk]
    have := h.size
    simp only [grow]
    rw [Array.getElem?_append_left (by omega)]⟩
theorem ext_sorted {w0 w : World} (h : Ext w0 w) {g m : Nat} {d : Array Turn} {os : Array Obj} (hg : w0.heap.size ≤ g) : Ext w0 (sortWorldK turnCells 4 w g 0 m d os) := by
  unfold sortWorldK putRowK
  exact below_grow (Lib.below_putRow h hg) os (Nat.le_refl _)
set_option maxHeartbeats 1000000 in
theorem insort_none (w : World) : Calls Try.prog 58 #[.slice none 0 0, .int .i64 0, .int .i64 0, .func (.func 27) #[] #[]] w fun e w' => e = .returned (.tuple #[]) ∧ w = w' := by
  go_enter Try.func58, Try.ntmps58
  go_wp2
  refine wp_loop_rounds 1 ?_
  simp only [rounds_succ]
  go_wp2
  go_end0
  exact ⟨rfl, rfl⟩
/-- What a sort of few turns leaves. -/
def Sorted (w0 : World) (v : Value) (n : Nat) (l : List Turn) (e : Ending) (w' : World) : Prop := e = .returned (.tuple #[]) ∧ ∃ y : Past w0, w' = y.x ∧ Reads y.x v n (turnRow l)
set_option maxRecDepth 100000 in
set_option maxHeartbeats 2000000 in
theorem stable_none (w0 w : World) (hx : Ext w0 w) : Calls Try.prog 45 #[.slice none 0 0, .int .i64 0, .func (.func 27) #[] #[]] w (Sorted w0 (.slice none 0 0) 0 []) := by
  haveI : ExtC w0 w := ⟨hx⟩
  go_enter Try.func45, Try.ntmps45
  go_wp2
  refine wp_loop_rounds 1 ?_
  simp only [rounds_succ]
  go_wp2_with (go_at_call 58; refine (insort_none _).mono ?_; rintro e w' ⟨rfl, rfl⟩)
  refine wp_loop_rounds 1 ?_
  simp only [rounds_succ]
  go_wp2
  go_end0
  obtain ⟨y, hy⟩ := done (w := w0) (w' := w)
  exact ⟨rfl, y, hy, Reads.nil _⟩
set_option maxRecDepth 100000 in
set_option maxHeartbeats 2000000 in
theorem stable_few (l : List Turn) (n g cap : Nat) (w0 w : World) (hn : l.length = n) (hx : Ext w0 w) (hH : HoldsK turnCells 4 w g 0 l.toArray) (hb : w0.heap.size ≤ g) (hg : g < w.heap.size) (h1 : n ≤ cap) (h2 : cap ≤ maxLen) (hl : n < 20) :
    Calls Try.prog 45 #[.slice (some ⟨g, 0, none⟩) n cap, .int .i64 n, .func (.func 27) #[] #[]] w (Sorted w0 (.slice (some ⟨g, 0, none⟩) n cap) n (Rul.sortT l)) := by
  have H := Lib.hid (insort_any l n g cap w hn hH hg (by omega))
  have HE : ∀ m os, Hid (∃ y : Past w0, sortWorldK turnCells 4 w g 0 m (Rul.sortT l).toArray os = y.x ∧ Reads y.x (.slice (some ⟨g, 0, none⟩) n cap) n (turnRow (Rul.sortT l))) := fun m os => by
    have hs : (Rul.sortT l).toArray.size = l.toArray.size := by simp [Rul.sortT_length]
    refine ⟨⟨_, ext_sorted hx hb⟩, rfl, ?_⟩
    exact reads_of_holdsK (by rw [Rul.sortT_length]; exact hn) h1 h2 (Nat.lt_of_lt_of_le hg (size_sortWorldK_c _ _ _ _ _ _ _ _)) (holdsK_sortWorldK_c turnCells 4 w g 0 l.toArray _ _ _ hH hg hs)
  generalize Rul.sortT l = sl at *
  clear hH hn
  go_enter Try.func45, Try.ntmps45
  go_wp2
  refine wp_loop_rounds 1 ?_
  simp only [rounds_succ]
  go_wp2_with (go_at_call 58; refine H.out.mono ?_; rintro e w' ⟨rfl, m, os, rfl⟩)
  refine wp_loop_rounds 1 ?_
  simp only [rounds_succ]
  go_wp2
  go_end0
  exact ⟨rfl, (HE _ _).out⟩
set_option maxRecDepth 100000 in
set_option maxHeartbeats 2000000 in
theorem sorts_few (l : List Turn) (n : Nat) (hn : l.length = n) (v : Value) (w0 w : World) (hx : Ext w0 w) (ho : w.ownsRow w0.heap.size 30 4 v n (turnRow l)) (hl : n < 20) :
    Calls Try.prog 26 #[v, .func (.func 27) #[] #[]] w (Sorted w0 v n (Rul.sortT l)) := by
  rcases holdsK_of_owns hn ho with ⟨rfl, rfl⟩ | ⟨g, cap, rfl, hb, hg, h1, h2, hH⟩
  · obtain rfl := List.eq_nil_of_length_eq_zero hn
    have H := Lib.hid (stable_none w0 w hx)
    clear ho hn
    show Calls _ _ _ _ (Sorted w0 _ 0 [])
    go_enter Try.func26, Try.ntmps26
    go_wp2_with (go_at_call 45; refine H.out.mono ?_; rintro e w' ⟨rfl, y, rfl, hy⟩)
    go_end0
    exact ⟨rfl, y, rfl, hy⟩
  · have H := Lib.hid (stable_few l n g cap w0 w hn hx hH hb hg h1 h2 hl)
    clear ho hn hH
    generalize Rul.sortT l = sl at *
    go_enter Try.func26, Try.ntmps26
    go_wp2_with (go_at_call 45; refine H.out.mono ?_; rintro e w' ⟨rfl, y, rfl, hy⟩)
    go_end0
    exact ⟨rfl, y, rfl, hy⟩
end Go.Proofs.Ytodcgalcpnckaaa
