/- Walks of rules: two rows of turns held against each other. -/
import Derived.Test.YtodcgalcpnckaaaRulWalkD
import Derived.Test.YtodcgalcpnckaaaRulPlainC
import Derived.Test.YtodcgalcpnckaaaCivWalkJ
import Derived.Shelf.SlSortCmp.InsertionK
import Derived.Lib.OwnBridge
set_option linter.unusedVariables false
set_option linter.unusedSimpArgs false
namespace Go.Proofs.Ytodcgalcpnckaaa
open Go.RowKit

/-- The cells of some turns. -/
def turnRow : List Turn → List Value
  | [] => []
  | x :: l => turnCells x ++ turnRow l
theorem turnRow_at (l : List Turn) : ∀ (i : Nat) (h : i < l.length) (c : Nat) (u : Value), (turnCells l[i])[c]? = some u → (turnRow l)[i * 4 + c]? = some u := by
  induction l with
  | nil => intro i h; simp at h
  | cons x l ih =>
    intro i h c u hu
    cases i with
    | zero =>
      have hc : c < (turnCells x).length := (List.getElem?_eq_some_iff.1 hu).1
      simp only [Nat.zero_mul, Nat.zero_add, turnRow]
      rw [List.getElem?_append_left hc]; exact hu
    | succ i =>
      have := ih i (by simpa using h) c u hu
      simp only [turnRow]
      rw [List.getElem?_append_right (by simp; omega)]
      rw [show (i + 1) * 4 + c - (turnCells x).length = i * 4 + c by simp; omega]
      exact this
/-- What a slice of turns holds at a place. -/
theorem turn_at {w : World} {b o : Nat} {l : List Turn} (hc : ∀ i u, (turnRow l)[i]? = some u → w.cell? ⟨b, o + i, none⟩ = some u) (j : Nat) (h : j < l.length) :
    w.cell? ⟨b, o + j * 4, none⟩ = some (.int .i64 l[j].at') ∧ w.cell? ⟨b, o + j * 4 + 1, none⟩ = some (.int .i64 l[j].r) ∧ w.cell? ⟨b, o + j * 4 + 2, none⟩ = some (.int .i64 l[j].s) ∧ w.cell? ⟨b, o + j * 4 + 3, none⟩ = some (.string l[j].l) := by
  have k := fun c u hu => hc _ _ (turnRow_at l j h c u hu)
  simp only [← Nat.add_assoc] at k
  exact ⟨k 0 _ rfl, k 1 _ rfl, k 2 _ rfl, k 3 _ rfl⟩
set_option maxRecDepth 100000 in
set_option maxHeartbeats 2000000 in
theorem turns_same (l : List Turn) (n : Nat) (hn : l.length = n) (va vb : Value) (w : World) (ha : Reads w va n (turnRow l)) (hb : Reads w vb n (turnRow l)) :
    Rets Try.prog 13 #[va, vb] w (.bool true) := by
  by_cases h0 : n = 0
  · subst h0
    rcases ha with ⟨x1, y1, rfl, _, _⟩ | ⟨b1, o1, c1, rfl, _⟩ <;> rcases hb with ⟨x2, y2, rfl, _, _⟩ | ⟨b2, o2, c2, rfl, _⟩
    all_goals
      clear hn
      unfold Rets
      go_enter Try.func13, Try.ntmps13
      go_wp2
      refine wp_loop_rounds 1 ?_
      simp only [rounds_succ]
      go_wp2
      go_ret
      exact ⟨rfl, done⟩
  · rcases ha with ⟨_, _, rfl, h1, _⟩ | ⟨b1, o1, c1, rfl, k1, k2, m1, hc1⟩
    · exact absurd h1 h0
    rcases hb with ⟨_, _, rfl, h1, _⟩ | ⟨b2, o2, c2, rfl, k3, k4, m2, hc2⟩
    · exact absurd h1 h0
    haveI : InW b1 w := ⟨m1⟩
    haveI : InW b2 w := ⟨m2⟩
    have hl : n ≤ 9223372036854775807 := by unfold maxLen at k2; omega
    have H1 := Lib.hid hc1
    have H2 := Lib.hid hc2
    have Hn := Lib.hid hn
    clear hc1 hc2 hn
    unfold Rets
    go_enter Try.func13, Try.ntmps13
    go_wp2
    go_loopw [5] (fun i wr => ∃ j : Nat, j ≤ n ∧ i = .int .i64 j ∧ Ext w wr) (fun i _ => n - (intOf i).toNat)
    case atStart => exact ⟨0, by omega, rfl, isext⟩
    case round =>
      obtain ⟨j, j2, rfl, hx⟩ := hrel
      obtain ⟨yr, rfl⟩ := fin hx
      clear hx
      by_cases hlt : j < n
      · obtain ⟨p0, p1, p2, p3⟩ := turn_at H1.out j (by rw [Hn.out]; exact hlt)
        obtain ⟨q0, q1, q2, q3⟩ := turn_at H2.out j (by rw [Hn.out]; exact hlt)
        generalize l[j]'(by rw [Hn.out]; exact hlt) = t at *
        obtain ⟨ta, tr, ts, tl⟩ := t
        simp only at p0 p1 p2 p3 q0 q1 q2 q3
        go_wp2
        refine wp_region_past1 (by kernel_rfl) (by kernel_rfl) ?_
        repeat (go_big_quiet_step (fail))
        refine wpQuiet_nil ?_
        intro _
        go_wp2
        go_roundw
        case rel => exact ⟨j + 1, by omega, by go_num, isext⟩
        case measure => simp [intOf]; omega
      · go_wp2
        go_ret
        exact ⟨rfl, done⟩
end Go.Proofs.Ytodcgalcpnckaaa
set_option linter.unusedVariables false
set_option linter.unusedSimpArgs false
namespace Go.Proofs.Ytodcgalcpnckaaa
open Go.RowKit Go.Sort Go.Shelf

set_option maxHeartbeats 1000000 in
theorem nan64_any (a : Int) (w : World) : Calls Try.prog 46 #[.int .i64 a] w fun e w' => e = .returned (.bool false) ∧ w = w' := by
  go_enter Try.func46, Try.ntmps46
  go_wp2
  go_ret
  exact ⟨ret_bool (by simp), rfl⟩
set_option maxHeartbeats 1000000 in
theorem compare64_any (a b : Int) (w : World) : Calls Try.prog 28 #[.int .i64 a, .int .i64 b] w fun e w' => e = .returned (.int .i64 (cmpI a b)) ∧ w = w' := by
  by_cases h1 : a < b
  · have e := Lib.hid (cmpI_lt h1)
    go_enter Try.func28, Try.ntmps28
    go_wp2_with (go_at_call 46; refine (nan64_any _ _).mono ?_; rintro e w' ⟨rfl, rfl⟩)
    go_ret
    exact ⟨ret_int e.out.symm, rfl⟩
  by_cases h2 : b < a
  · have e := Lib.hid (cmpI_gt h2)
    go_enter Try.func28, Try.ntmps28
    go_wp2_with (go_at_call 46; refine (nan64_any _ _).mono ?_; rintro e w' ⟨rfl, rfl⟩)
    go_ret
    exact ⟨ret_int e.out.symm, rfl⟩
  have e := Lib.hid (cmpI_eq h1 h2)
  go_enter Try.func28, Try.ntmps28
  go_wp2_with (go_at_call 46; refine (nan64_any _ _).mono ?_; rintro e w' ⟨rfl, rfl⟩)
  go_ret
  exact ⟨ret_int e.out.symm, rfl⟩
set_option maxHeartbeats 1000000 in
theorem cmpturn_any (a b : Turn) (w : World) : Calls Try.prog 27 #[turnV a, turnV b] w fun e w' => e = .returned (.int .i64 (cmpI a.at' b.at')) ∧ ∃ q os', w' = grow (w.drewN q) os' := by
  have H := fun w => Lib.hid (compare64_any a.at' b.at' w)
  generalize cmpI a.at' b.at' = r at *
  obtain ⟨aa, ar, a3, al⟩ := a
  obtain ⟨ba, br, bs, bl⟩ := b
  go_enter Try.func27, Try.ntmps27
  go_wp2_with (go_at_call 28; refine ((H _).out).mono ?_; rintro e w' ⟨rfl, rfl⟩)
  go_ret
  exact ⟨rfl, 0, _, by rw [alloc_eq_grow, alloc_eq_grow, grow_grow]; rfl⟩
theorem cmp_lays (blk off size : Nat) (w : World) : CmpLays Try.prog 27 #[] turnCells 4 (fun x y => cmpI x.at' y.at') blk off size w := fun _ _ _ _ x y => cmpturn_any x y _
theorem lt_turn (x y : Turn) : ltOf (fun x y : Turn => cmpI x.at' y.at') x y = decide (x.at' < y.at') := by
  unfold ltOf
  by_cases h1 : x.at' < y.at'
  · simp [cmpI_lt h1, h1]
  · by_cases h2 : y.at' < x.at'
    · simp [cmpI_gt h2, h1]
    · simp [cmpI_eq h1 h2, h1]
/-- The library's insertion sort at turns. -/
def Try.lays20_ren : Go.Shelf.Ren := ⟨fun | 20 => 58 | n => n, fun | 0 => 0 | 3 => 3 | 4 => 4 | 22 => 24 | 24 => 30 | 25 => 48 | n => n, fun | n => n⟩
theorem Try.lays20 : SlLaysF0.n20 Try.prog Try.lays20_ren := {
  mixed := by kernel_rfl
  f20 := ⟨Try.f58.name, by decide, Try.func58.trans (congrArg some (by kernel_rfl))⟩
  t0 := Try.underlying0
  a0 := Try.isAgg0
  z0 := Try.sizeOf0
  v0 := Try.zeroValue0
  t3 := Try.underlying3
  a3 := Try.isAgg3
  z3 := Try.sizeOf3
  v3 := Try.zeroValue3
  t4 := Try.underlying4
  a4 := Try.isAgg4
  z4 := Try.sizeOf4
  v4 := Try.zeroValue4
  t22 := Try.underlying24
  a22 := Try.isAgg24
  z22 := Try.sizeOf24
  v22 := Try.zeroValue24
  t25 := Try.underlying48
  a25 := Try.isAgg48
  z25 := Try.sizeOf48
  v25 := Try.zeroValue48 }
theorem insort_any (l : List Turn) (n g cap : Nat) (w : World) (hn : l.length = n) (hH : HoldsK turnCells 4 w g 0 l.toArray) (hg : g < w.heap.size) (hl : n < 4611686018427387904) :
    Calls Try.prog 58 #[.slice (some ⟨g, 0, none⟩) n cap, .int .i64 0, .int .i64 n, .func (.func 27) #[] #[]] w fun e w' =>
      e = .returned (.tuple #[]) ∧ ∃ m os, w' = sortWorldK turnCells 4 w g 0 m (Rul.sortT l).toArray os := by
  subst hn
  have := AnyQ.insertionSortCmpFunc Try.lays20 4 Try.isAgg30 Try.sizeOf30 turnCells (fun _ => rfl) (fun x v hv => by simp [turnCells] at hv; rcases hv with rfl | rfl | rfl | rfl <;> rfl) (fun x y => cmpI x.at' y.at') 27 #[] g 0 cap 0 l.length l.toArray w
    (enters_of Try.func27 (by kernel_rfl) rfl) (cmp_lays g 0 _ w) hH hg (Nat.zero_le _) (by simp) (by simpa using hl)
  rw [ins_all _ lt_turn] at this
  exact this
end Go.Proofs.Ytodcgalcpnckaaa
set_option linter.unusedVariables false
set_option linter.unusedSimpArgs false
namespace Go.Proofs.Ytodcgalcpnckaaa
open Go.RowKit Go.Sort Go.Shelf

theorem turnRow_length (l : List Turn) : (turnRow l).length = l.length * 4 := by
  induction l with
  | nil => rfl
  | cons x l ih => simp only [turnRow, List.length_append, ih, List.length_cons]; simp; omega
theorem turnRow_snoc (l : List Turn) (t : Turn) : turnRow (l ++ [t]) = turnRow l ++ turnCells t := by
  induction l with
  | nil => simp [turnRow]
  | cons x l ih => simp only [List.cons_append, turnRow, ih, List.append_assoc]
theorem turnRow_append (l r : List Turn) : turnRow (l ++ r) = turnRow l ++ turnRow r := by
  induction l with
  | nil => simp [turnRow]
  | cons x l ih => simp only [List.cons_append, turnRow, ih, List.append_assoc]
theorem row_flat (l : List Turn) (j : Nat) (h : j < l.length * 4) : (turnRow l)[j]? = some (flatK turnCells 4 l.toArray)[j]! := by
  have h4 : j / 4 < l.length := by omega
  have e : j = j / 4 * 4 + j % 4 := by omega
  rw [get_flatK _ _ _ _ (by simpa using h)]
  have := turnRow_at l (j / 4) h4 (j % 4) ((turnCells l[j / 4])[j % 4]!) (by
    have h3 : j % 4 < (turnCells l[j / 4]).length := by show j % 4 < 4; omega
    rw [List.getElem?_eq_getElem h3, getElem!_pos (turnCells l[j / 4]) (j % 4) h3])
  rw [← e] at this
  rw [this]
  congr 3
  simp [h4]
theorem holdsK_of_owns {w : World} {base : Nat} {e : TypeId} {v : Value} {n : Nat} {l : List Turn} (hn : l.length = n) (h : w.ownsRow base e 4 v n (turnRow l)) :
    (v = .slice none 0 0 ∧ n = 0) ∨ ∃ g cap, v = .slice (some ⟨g, 0, none⟩) n cap ∧ base ≤ g ∧ g < w.heap.size ∧ n ≤ cap ∧ cap ≤ maxLen ∧ HoldsK turnCells 4 w g 0 l.toArray := by
  rcases h.2 with ⟨e0, e1⟩ | ⟨g, cap, cur, rfl, hb, hg, hle, hm, hs, ht⟩
  · exact .inl ⟨e0, e1⟩
  · right
    have hlt : g < w.heap.size := by
      rcases Nat.lt_or_ge g w.heap.size with h' | h'
      · exact h'
      · rw [Array.getElem?_eq_none h'] at hg; cases hg
    refine ⟨g, cap, rfl, hb, hlt, hle, hm, fun j hj => ?_⟩
    have hj' : j < l.length * 4 := by simpa using hj
    refine ⟨?_, by simp [World.frozen?, hg]⟩
    have e1 : (cur.toList.take (n * 4))[j]? = (turnRow l)[j]? := by rw [ht]
    rw [List.getElem?_take, if_pos (by omega), Array.getElem?_toList, row_flat l j hj'] at e1
    simp only [World.cell?, hg, Nat.zero_add]
    simp only [Option.isSome_none, Bool.false_eq_true, if_false]
    rw [e1]; rfl
theorem reads_of_holdsK {w : World} {g n cap : Nat} {l : List Turn} (hn : l.length = n) (h1 : n ≤ cap) (h2 : cap ≤ maxLen) (hg : g < w.heap.size) (h : HoldsK turnCells 4 w g 0 l.toArray) : Reads w (.slice (some ⟨g, 0, none⟩) n cap) n (turnRow l) := by
  refine .inr ⟨g, 0, cap, rfl, h1, h2, hg, fun i u hu => ?_⟩
  have hi : i < l.length * 4 := by rw [← turnRow_length]; exact (List.getElem?_eq_some_iff.1 hu).1
  rw [row_flat l i hi] at hu
  injection hu with hu
  have := (h i (by simpa using hi)).1
  rw [this, ← hu]; rfl
theorem below_grow {B : Nat} {w0 w : World} (h : Below B w0 w) (os : Array Obj) (hB : B ≤ w0.heap.size) : Below B w0 (grow w os) :=
  ⟨h.os, h.tape, h.output, by have := h.size; simp [grow]; omega, fun k hk => by
    rw [← h.block k hk]
    have := h.size
    simp only [grow]
    rw [Array.getElem?_append_left (by omega)]⟩
theorem ext_sorted {w0 w : World} (h : Ext w0 w) {g m : Nat} {d : Array Turn} {os : Array Obj} (hg : w0.heap.size ≤ g) : Ext w0 (sortWorldK turnCells 4 w g 0 m d os) := by
  unfold sortWorldK putRowK
  exact below_grow (Lib.below_putRow h hg) os (Nat.le_refl _)
set_option maxHeartbeats 1000000 in
theorem insort_none (w : World) : Calls Try.prog 58 #[.slice none 0 0, .int .i64 0, .int .i64 0, .func (.func 27) #[] #[]] w fun e w' => e = .returned (.tuple #[]) ∧ w = w' := by
  go_enter Try.func58, Try.ntmps58
  go_wp2
  refine wp_loop_rounds 1 ?_
  simp only [rounds_succ]
  go_wp2
  go_end0
  exact ⟨rfl, rfl⟩
/-- What a sort of few turns leaves. -/
def Sorted (w0 : World) (v : Value) (n : Nat) (l : List Turn) (e : Ending) (w' : World) : Prop := e = .returned (.tuple #[]) ∧ ∃ y : Past w0, w' = y.x ∧ Reads y.x v n (turnRow l)
set_option maxRecDepth 100000 in
set_option maxHeartbeats 2000000 in
theorem stable_none (w0 w : World) (hx : Ext w0 w) : Calls Try.prog 45 #[.slice none 0 0, .int .i64 0, .func (.func 27) #[] #[]] w (Sorted w0 (.slice none 0 0) 0 []) := by
  haveI : ExtC w0 w := ⟨hx⟩
  go_enter Try.func45, Try.ntmps45
  go_wp2
  refine wp_loop_rounds 1 ?_
  simp only [rounds_succ]
  go_wp2_with (go_at_call 58; refine (insort_none _).mono ?_; rintro e w' ⟨rfl, rfl⟩)
  refine wp_loop_rounds 1 ?_
  simp only [rounds_succ]
  go_wp2
  go_end0
  obtain ⟨y, hy⟩ := done (w := w0) (w' := w)
  exact ⟨rfl, y, hy, Reads.nil _⟩
set_option maxRecDepth 100000 in
set_option maxHeartbeats 2000000 in
theorem stable_few (l : List Turn) (n g cap : Nat) (w0 w : World) (hn : l.length = n) (hx : Ext w0 w) (hH : HoldsK turnCells 4 w g 0 l.toArray) (hb : w0.heap.size ≤ g) (hg : g < w.heap.size) (h1 : n ≤ cap) (h2 : cap ≤ maxLen) (hl : n < 20) :
    Calls Try.prog 45 #[.slice (some ⟨g, 0, none⟩) n cap, .int .i64 n, .func (.func 27) #[] #[]] w (Sorted w0 (.slice (some ⟨g, 0, none⟩) n cap) n (Rul.sortT l)) := by
  have H := Lib.hid (insort_any l n g cap w hn hH hg (by omega))
  have HE : ∀ m os, Hid (∃ y : Past w0, sortWorldK turnCells 4 w g 0 m (Rul.sortT l).toArray os = y.x ∧ Reads y.x (.slice (some ⟨g, 0, none⟩) n cap) n (turnRow (Rul.sortT l))) := fun m os => by
    have hs : (Rul.sortT l).toArray.size = l.toArray.size := by simp [Rul.sortT_length]
    refine ⟨⟨_, ext_sorted hx hb⟩, rfl, ?_⟩
    exact reads_of_holdsK (by rw [Rul.sortT_length]; exact hn) h1 h2 (Nat.lt_of_lt_of_le hg (size_sortWorldK_c _ _ _ _ _ _ _ _)) (holdsK_sortWorldK_c turnCells 4 w g 0 l.toArray _ _ _ hH hg hs)
  generalize Rul.sortT l = sl at *
  clear hH hn
  go_enter Try.func45, Try.ntmps45
  go_wp2
  refine wp_loop_rounds 1 ?_
  simp only [rounds_succ]
  go_wp2_with (go_at_call 58; refine H.out.mono ?_; rintro e w' ⟨rfl, m, os, rfl⟩)
  refine wp_loop_rounds 1 ?_
  simp only [rounds_succ]
  go_wp2
  go_end0
  exact ⟨rfl, (HE _ _).out⟩
set_option maxRecDepth 100000 in
set_option maxHeartbeats 2000000 in
theorem sorts_few (l : List Turn) (n : Nat) (hn : l.length = n) (v : Value) (w0 w : World) (hx : Ext w0 w) (ho : w.ownsRow w0.heap.size 30 4 v n (turnRow l)) (hl : n < 20) :
    Calls Try.prog 26 #[v, .func (.func 27) #[] #[]] w (Sorted w0 v n (Rul.sortT l)) := by
  rcases holdsK_of_owns hn ho with ⟨rfl, rfl⟩ | ⟨g, cap, rfl, hb, hg, h1, h2, hH⟩
  · obtain rfl := List.eq_nil_of_length_eq_zero hn
    have H := Lib.hid (stable_none w0 w hx)
    clear ho hn
    show Calls _ _ _ _ (Sorted w0 _ 0 [])
    go_enter Try.func26, Try.ntmps26
    go_wp2_with (go_at_call 45; refine H.out.mono ?_; rintro e w' ⟨rfl, y, rfl, hy⟩)
    go_end0
    exact ⟨rfl, y, rfl, hy⟩
  · have H := Lib.hid (stable_few l n g cap w0 w hn hx hH hb hg h1 h2 hl)
    clear ho hn hH
    generalize Rul.sortT l = sl at *
    go_enter Try.func26, Try.ntmps26
    go_wp2_with (go_at_call 45; refine H.out.mono ?_; rintro e w' ⟨rfl, y, rfl, hy⟩)
    go_end0
    exact ⟨rfl, y, rfl, hy⟩
end Go.Proofs.Ytodcgalcpnckaaa
