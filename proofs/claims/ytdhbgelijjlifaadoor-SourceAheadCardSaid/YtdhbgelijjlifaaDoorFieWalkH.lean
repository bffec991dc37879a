/- Plain law: how long a join may be. -/
import Derived.Lib.Join
import Derived.Test.YtdhbgelijjlifaaDoorFieWalkE
import Derived.Test.YtdhbgelijjlifaaDoorFiePlainE
set_option linter.unusedVariables false
set_option linter.unusedSimpArgs false
namespace Go.Proofs.YtdhbgelijjlifaaDoor
theorem join_len (M : Nat) (sep : List UInt8) : ∀ xs : List (List UInt8), (∀ x ∈ xs, x.length ≤ M) → (Lib.join xs sep).length ≤ xs.length * (M + sep.length)
  | [], _ => by simp [Lib.join]
  | [x], h => by
    have := h x (by simp)
    rw [Lib.join_one]; simp; omega
  | x :: y :: r, h => by
    have h1 := h x (by simp)
    have ih := join_len M sep (y :: r) (fun z hz => h z (by simp [hz]))
    have e : Lib.join (x :: y :: r) sep = x ++ sep ++ Lib.join (y :: r) sep := by
      simp [Lib.join, List.intercalate, List.intersperse]
    rw [e]
    simp only [List.length_append, List.length_cons] at *
    rw [Nat.add_mul _ 1]
    omega
end Go.Proofs.YtdhbgelijjlifaaDoor
set_option linter.unusedVariables false
set_option linter.unusedSimpArgs false
namespace Go.Proofs.YtdhbgelijjlifaaDoor
open Go.RowKit

/-- A text may be a field; may stand bare; how it is written. -/
def fieldOk (s : ByteArray) : Bool := decide (Fie.stop Fie.within s 0 = s.size)
def plain (s : ByteArray) : Bool := decide (s.size ≠ 0 ∧ Fie.stop Fie.bare s 0 = s.size)
def fieldOut (s : ByteArray) : ByteArray := if plain s = true then s else ⟨#[34]⟩ ++ s ++ ⟨#[34]⟩
theorem Tryd.infoText : (Tryd.prog.info? 9).map (fun i => (i.zero, i.size, i.bytes)) = some (some (.string ByteArray.empty), 1, 16) := by kernel_rfl

/-- All of them may be fields. -/
def allOk (l : List ByteArray) : Bool := l.all fieldOk
def joined (l : List ByteArray) : ByteArray := ⟨(Lib.join ((l.map fieldOut).map (·.data.toList)) [32]).toArray⟩
/-- The line of some texts, the error's number. -/
def joinR (l : List ByteArray) : ByteArray × Int := if allOk l = true then (if 16 < l.length ∨ 500 < (joined l).size then (ByteArray.empty, 12) else (joined l, 0)) else (ByteArray.empty, 6)
theorem joinR_ok (l : List ByteArray) (k : Nat) (hk : l.length = k) (h : allOk l = true) : joinR l = if 16 < k ∨ 500 < (Lib.join (List.map ((fun x => x.data.toList) ∘ fieldOut) l) [32]).length then (ByteArray.empty, 12) else (⟨(Lib.join (List.map ((fun x => x.data.toList) ∘ fieldOut) l) [32]).toArray⟩, 0) := by
  have e : joined l = ⟨(Lib.join (List.map ((fun x => x.data.toList) ∘ fieldOut) l) [32]).toArray⟩ := by unfold joined; rw [List.map_map]
  unfold joinR
  rw [if_pos h, e, hk]
  rfl
theorem allOk_no {l : List ByteArray} {s : ByteArray} (h : s ∈ l) (hs : fieldOk s = false) : allOk l = false := by
  unfold allOk; rw [List.all_eq_false]; exact ⟨s, h, by simp [hs]⟩
theorem out_quoted {s : ByteArray} (h : plain s = false) : fieldOut s = ⟨#[34]⟩ ++ s ++ ⟨#[34]⟩ := by simp [fieldOut, h]
theorem out_plain {s : ByteArray} (h : plain s = true) : fieldOut s = s := by simp [fieldOut, h]
theorem take_out (l : List ByteArray) (k : Nat) (h : k < l.length) : ((l.take (k + 1)).map fun s => Value.string (fieldOut s)) = ((l.take k).map fun s => Value.string (fieldOut s)) ++ [.string (fieldOut l[k])] := by
  rw [List.take_succ_eq_append_getElem h, List.map_append]; rfl
theorem take_ok (l : List ByteArray) (k : Nat) (h : k < l.length) (ha : allOk (l.take k) = true) (hk : fieldOk l[k] = true) : allOk (l.take (k + 1)) = true := by
  unfold allOk at *; rw [List.take_succ_eq_append_getElem h, List.all_append, ha]; simp [hk]

theorem empty_list {s : ByteArray} (h : s.size = 0) : s.toList = [] := by
  rw [ByteArray.toList_eq]; exact List.eq_nil_of_length_eq_zero (by simpa using h)
theorem full_list {s : ByteArray} (h : ¬ s.size = 0) : s.toList.isEmpty = false ∧ ¬ s.toList = [] := by
  have : ¬ s.toList = [] := by
    rw [ByteArray.toList_eq]; intro e
    exact h (by have := congrArg List.length e; simpa using this)
  exact ⟨by simpa using this, this⟩

end Go.Proofs.YtdhbgelijjlifaaDoor
set_option linter.unusedVariables false
set_option linter.unusedSimpArgs false
namespace Go.Proofs.YtdhbgelijjlifaaDoor
open Go.RowKit

theorem stop_mid (p : UInt8 → Bool) (s : ByteArray) : ∀ (d j k : Nat), k - j = d → j ≤ k → k ≤ Fie.stop p s j → Fie.stop p s j = Fie.stop p s k
  | 0, j, k, hd, h1, _ => by rw [show k = j by omega]
  | d + 1, j, k, hd, h1, h2 => by
    have hj : j < s.size := by
      rcases Nat.lt_or_ge j s.size with h | h
      · exact h
      · rw [Fie.stop_end p s j h] at h2; omega
    cases hp : p s[j]
    · rw [Fie.stop_no p s j hj hp] at h2; omega
    · have e := Fie.stop_yes p s j hj hp
      rw [e] at h2 ⊢
      exact stop_mid p s d (j + 1) k (by omega) (by omega) h2
theorem stop_yes0 {p : UInt8 → Bool} {s : ByteArray} {k : Nat} (h : k ≤ Fie.stop p s 0) (hk : k < s.size) (hp : p s[k] = true) : k + 1 ≤ Fie.stop p s 0 := by
  rw [stop_mid p s _ 0 k rfl (by omega) h, Fie.stop_yes p s k hk hp]
  exact (Fie.stop_le p s (k + 1) (by omega)).1
theorem stop_no0 {p : UInt8 → Bool} {s : ByteArray} {k : Nat} (h : k ≤ Fie.stop p s 0) (hk : k < s.size) (hp : p s[k] = false) : Fie.stop p s 0 = k := by
  rw [stop_mid p s _ 0 k rfl (by omega) h, Fie.stop_no p s k hk hp]
/-- Bare as far as it has been looked at. -/
def barePre (s : ByteArray) (k : Nat) : Bool := decide (s.size ≠ 0 ∧ k ≤ Fie.stop Fie.bare s 0)
theorem barePre_yes {s : ByteArray} {k : Nat} (hk : k < s.size) (h : barePre s k = true) : barePre s (k + 1) = Fie.bare s[k] := by
  simp only [barePre, decide_eq_true_eq] at h
  cases hp : Fie.bare s[k]
  · have := stop_no0 h.2 hk hp
    exact decide_eq_false (by omega)
  · have := stop_yes0 h.2 hk hp
    exact decide_eq_true (by omega)
theorem barePre_start (s : ByteArray) : decide (0 < s.size) = barePre s 0 := by
  unfold barePre; exact decide_eq_decide.2 (by omega)
theorem barePre_no {s : ByteArray} {k : Nat} (hk : k < s.size) (h : barePre s k = false) : barePre s (k + 1) = false := by
  simp only [barePre, decide_eq_false_iff_not] at *; omega
theorem barePre_end (s : ByteArray) : barePre s s.size = plain s := by
  have := Fie.stop_le Fie.bare s 0 (by omega)
  unfold barePre plain
  rw [Bool.eq_iff_iff]; simp; omega
theorem within_no3 {c : UInt8} (h : Fie.within c = false) : (c.toNat : Int) < 32 ∨ (decide ((c.toNat : Int) < 32) = false ∧ 126 < (c.toNat : Int)) ∨ (decide ((c.toNat : Int) < 32) = false ∧ decide (126 < (c.toNat : Int)) = false ∧ ((c.toNat : Int) == 34) = true) := by
  simp [Fie.within] at h
  by_cases g : (c.toNat : Int) < 32
  · exact .inl g
  · by_cases g2 : 126 < (c.toNat : Int)
    · exact .inr (.inl ⟨decide_eq_false g, g2⟩)
    · exact .inr (.inr ⟨decide_eq_false g, decide_eq_false g2, beq_iff_eq.2 (by omega)⟩)
theorem within_yes3 {c : UInt8} (h : Fie.within c = true) : decide ((c.toNat : Int) < 32) = false ∧ decide (126 < (c.toNat : Int)) = false ∧ ((c.toNat : Int) == 34) = false := by
  simp [Fie.within] at h; refine ⟨?_, ?_, ?_⟩ <;> simp <;> omega

theorem join_snoc (xs : List (List UInt8)) (x sep : List UInt8) : Lib.join (xs ++ [x]) sep = if xs = [] then x else Lib.join xs sep ++ (sep ++ x) := by
  induction xs with
  | nil => simp [Lib.join_one]
  | cons a r ih =>
    rw [if_neg (by simp)]
    cases r with
    | nil => simp [Lib.join, List.intercalate, List.intersperse]
    | cons b r =>
      rw [if_neg (by simp)] at ih
      have e1 : Lib.join (a :: b :: r) sep = a ++ sep ++ Lib.join (b :: r) sep := by simp [Lib.join, List.intercalate, List.intersperse]
      have e2 : Lib.join ((a :: b :: r) ++ [x]) sep = a ++ sep ++ Lib.join ((b :: r) ++ [x]) sep := by simp [Lib.join, List.intercalate, List.intersperse]
      rw [e2, ih, e1]; simp
theorem joined_nil : joined [] = ByteArray.empty := rfl
theorem ba_ext {a b : ByteArray} (h : a.data.toList = b.data.toList) : a = b := by
  cases a; cases b; congr 1; exact Array.toList_inj.1 h
theorem joined_first (x : ByteArray) : joined [x] = fieldOut x := by
  apply ba_ext; simp [joined, Lib.join_one]
theorem joined_more (l : List ByteArray) (x : ByteArray) (h : l ≠ []) : joined (l ++ [x]) = joined l ++ ⟨#[32]⟩ ++ fieldOut x := by
  apply ba_ext
  unfold joined
  rw [List.map_append, List.map_append, List.map_cons, List.map_nil, List.map_cons, List.map_nil, join_snoc, if_neg (by simpa using h)]
  simp [ByteArray.data_append]
theorem out_size (s : ByteArray) : (fieldOut s).size ≤ s.size + 2 := by
  have h1 : (⟨#[34]⟩ : ByteArray).size = 1 := rfl
  unfold fieldOut; split <;> simp [ByteArray.size_append, h1] <;> omega
theorem joined_size (l : List ByteArray) (hl : ∀ s ∈ l, s.size ≤ 2000) (k : Nat) : (joined (l.take k)).size ≤ k * 2003 := by
  have h1 := join_len 2002 [32] (((l.take k).map fieldOut).map (·.data.toList)) (by
    intro x hx
    simp only [List.mem_map] at hx
    obtain ⟨u, ⟨v, hv, rfl⟩, rfl⟩ := hx
    have h1 := hl v (List.mem_of_mem_take hv)
    have h2 := out_size v
    simp; omega)
  have h2 : (((l.take k).map fieldOut).map (·.data.toList)).length ≤ k := by
    rw [List.length_map, List.length_map]; exact List.length_take_le _ _
  have h3 := Nat.mul_le_mul_right (2002 + [(32 : UInt8)].length) h2
  have e : (joined (l.take k)).size = (Lib.join (((l.take k).map fieldOut).map (·.data.toList)) [32]).length := by unfold joined; show Array.size _ = _; rw [List.size_toArray]
  rw [e]
  exact Nat.le_trans h1 h3
theorem joinR_all (l : List ByteArray) (k : Nat) (hk : l.length = k) (h : allOk l = true) : joinR l = if 16 < k ∨ 500 < (joined l).size then (ByteArray.empty, 12) else (joined l, 0) := by
  unfold joinR
  rw [if_pos h, hk]

/-- A call that returns a text and an error's number. -/
abbrev JoinSays (f : FuncId) (v : Value) (w : World) (l : List ByteArray) : Prop := Rets Tryd.prog f #[v] w (.tuple #[.string (joinR l).1, .int .i64 (joinR l).2])

end Go.Proofs.YtdhbgelijjlifaaDoor
set_option linter.unusedVariables false
set_option linter.unusedSimpArgs false
namespace Go.Proofs.YtdhbgelijjlifaaDoor
open Go.RowKit

/-- A call that returns a list of texts. -/
def TextsEnd (w : World) (l : List ByteArray) (e : Ending) (w' : World) : Prop := ∃ v, ∃ y : Past w, e = .returned v ∧ y.x.ownsRow w.heap.size 9 1 v l.length (l.map Value.string) ∧ w' = y.x
theorem texts_end {w w' : World} [h : ExtC w w'] {l ls : List ByteArray} {v : Value} {n : Nat} (hn : ls.length = n) [k : OwnsC w' w.heap.size 9 1 v n (ls.map Value.string)] (he : l = ls) : TextsEnd w l (.returned v) w' := by
  subst he; subst hn
  exact ⟨_, ⟨w', h.ext⟩, rfl, k.own, rfl⟩

set_option maxRecDepth 100000 in
set_option maxHeartbeats 4000000 in
theorem rlines_any (s : ByteArray) (w : World) (hs : s.size ≤ 1048576) : Calls Tryd.prog 6 #[.string s] w (TextsEnd w (Fie.lines s 0)) := by
  obtain ⟨i0, hi, hz0, hz1, hz2⟩ := info_parts Tryd.infoText
  go_enter Tryd.func6, Tryd.ntmps6
  go_wp2
  go_loopw [3, 4, 5] (fun v a i wr => ∃ (k from' n : Nat) (ls : List ByteArray), k ≤ s.size ∧ from' ≤ k ∧ n ≤ from' ∧ k ≤ Fie.stop Fie.nolf s from' ∧ i = .int .i64 k ∧ a = .int .i64 from' ∧ Hid (ls.length = n) ∧ Hid (Fie.lines s 0 = ls ++ Fie.lines s from') ∧ OwnsC wr w.heap.size 9 1 v n (ls.map Value.string) ∧ Ext w wr) (fun _ _ i _ => s.size - (intOf i).toNat)
  case atStart => exact ⟨0, 0, 0, [], by omega, by omega, by omega, by omega, rfl, rfl, rfl, rfl, ⟨World.ownsRow_nil _ _ _ _⟩, isext⟩
  case round =>
    obtain ⟨k, a, n, ls, k1, a1, n1, s1, rfl, rfl, Hn, Hl, hown, hx⟩ := hrel
    obtain ⟨yr, rfl⟩ := fin hx
    clear hx
    obtain ⟨av, cap, rfl⟩ := owns_shape hown.own
    by_cases c0 : k < s.size
    · cases c1 : Fie.nolf s[k]
      · have q1 := Fie.nolf_no c1
        have E : Hid (Fie.lines s 0 = (ls ++ [s.extract a k]) ++ Fie.lines s (k + 1)) := by
          show _ = _
          have e0 : Fie.stop Fie.nolf s a = k := by rw [Fie.stop_mid _ _ _ a k rfl a1 s1, Fie.stop_no _ _ _ c0 c1]
          rw [Hl.out, Fie.lines_more s a (by omega), e0]; simp
        have s2 : k + 1 ≤ Fie.stop Fie.nolf s (k + 1) := (Fie.stop_le Fie.nolf s (k + 1) (by omega)).1
        clear c1 s1
        go_wp2_with (first | (at_builtin; refine wpList_append_own _ rfl _ _ 33 rfl w.heap.size 9 i0 (.string ByteArray.empty) 1 16 Tryd.underlying33 hi hz0 hz1 hz2 rfl (by decide) (.slice av n cap) n (ls.map Value.string) rfl (OwnsC.own) _ 1 1 [.string (s.extract a k)] rfl rfl (new_cells' _ _ _ _ (by simp)) (by simp [Value.oneCell']) (by unfold maxLen; omega) (by omega) (GeW.ge) ?_; intro v' w1 hown1 hgrow1 _; obtain ⟨av', cap', rfl⟩ := owns_shape hown1; obtain ⟨y1, rfl⟩ := fin (Ext.grown (a := w) isext (OwnsC.own (e := 9) (size := 1) (n := n) (xs := ls.map Value.string)) hgrow1); clear hgrow1; have hO : OwnsC y1.x w.heap.size 9 1 (.slice av' (n + 1) cap') (n + 1) (ls.map Value.string ++ [.string (s.extract a k)]) := ⟨hown1⟩))
        go_roundw
        case rel => exact ⟨k + 1, k + 1, n + 1, ls ++ [s.extract a k], by omega, by omega, by omega, s2, by go_num, by go_num, by show _ = _; rw [List.length_append, Hn.out]; rfl, E, by rw [List.map_append]; exact hO, isext⟩
        case measure => simp [intOf]; omega
      · have q1 := Fie.nolf_yes c1
        have s2 : k + 1 ≤ Fie.stop Fie.nolf s a := by rw [Fie.stop_mid _ _ _ a k rfl a1 s1, Fie.stop_yes _ _ _ c0 c1]; exact (Fie.stop_le Fie.nolf s (k + 1) (by omega)).1
        clear c1 s1
        go_wp2
        go_roundw
        case rel => exact ⟨k + 1, a, n, ls, by omega, by omega, by omega, s2, by go_num, rfl, Hn, Hl, hown, isext⟩
        case measure => simp [intOf]; omega
    · obtain rfl : k = s.size := by omega
      by_cases c1 : a < s.size
      · have E : Hid (Fie.lines s 0 = ls ++ [s.extract a s.size]) := by
          show _ = _
          have hb := Fie.stop_le Fie.nolf s a (by omega)
          have e0 : Fie.stop Fie.nolf s a = s.size := by omega
          rw [Hl.out, Fie.lines_more s a c1, e0, Fie.lines_end _ _ (by omega)]
        clear s1
        go_wp2_with (first | (at_builtin; refine wpList_append_own _ rfl _ _ 33 rfl w.heap.size 9 i0 (.string ByteArray.empty) 1 16 Tryd.underlying33 hi hz0 hz1 hz2 rfl (by decide) (.slice av n cap) n (ls.map Value.string) rfl (OwnsC.own) _ 1 1 [.string (s.extract a s.size)] rfl rfl (new_cells' _ _ _ _ (by simp)) (by simp [Value.oneCell']) (by unfold maxLen; omega) (by omega) (GeW.ge) ?_; intro v' w1 hown1 hgrow1 _; obtain ⟨av', cap', rfl⟩ := owns_shape hown1; obtain ⟨y1, rfl⟩ := fin (Ext.grown (a := w) isext (OwnsC.own (e := 9) (size := 1) (n := n) (xs := ls.map Value.string)) hgrow1); clear hgrow1; have hO : OwnsC y1.x w.heap.size 9 1 (.slice av' (n + 1) cap') (n + 1) ((ls ++ [s.extract a s.size]).map Value.string) := ⟨by rw [List.map_append]; exact hown1⟩))
        go_ret
        exact texts_end (v := .slice av' (n + 1) cap') (n := n + 1) (ls := ls ++ [s.extract a s.size]) (by rw [List.length_append, Hn.out]; rfl) E.out
      · have E : Hid (Fie.lines s 0 = ls) := by
          show _ = _
          rw [Hl.out, Fie.lines_end _ _ (by omega), List.append_nil]
        clear s1
        go_wp2
        go_ret
        exact texts_end (v := .slice av n cap) Hn.out E.out
end Go.Proofs.YtdhbgelijjlifaaDoor
