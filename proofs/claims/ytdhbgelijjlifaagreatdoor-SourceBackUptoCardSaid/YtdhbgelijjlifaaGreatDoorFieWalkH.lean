/- Plain law: how long a join may be. -/
import Derived.Lib.Join
import Derived.Test.YtdhbgelijjlifaaGreatDoorFieWalkE
import Derived.Test.YtdhbgelijjlifaaGreatDoorFiePlainE
set_option linter.unusedVariables false
set_option linter.unusedSimpArgs false
namespace Go.Proofs.YtdhbgelijjlifaaGreatDoor
end Go.Proofs.YtdhbgelijjlifaaGreatDoor
namespace Go.Proofs.YtdhbgelijjlifaaGreatDoor
open Go.RowKit
def plain (s : ByteArray) : Bool := decide (s.size ≠ 0 ∧ Fie.stop Fie.bare s 0 = s.size)
theorem Tryz.infoText : (Tryz.prog.info? 9).map (fun i => (i.zero, i.size, i.bytes)) = some (some (.string ByteArray.empty), 1, 16) := by kernel_rfl
theorem full_list {s : ByteArray} (h : ¬ s.size = 0) : s.toList.isEmpty = false ∧ ¬ s.toList = [] := by
 have : ¬ s.toList = [] := by
  rw [ByteArray.toList_eq]; intro e
  exact h (by have := congrArg List.length e; simpa using this)
 exact ⟨by simpa using this, this⟩
end Go.Proofs.YtdhbgelijjlifaaGreatDoor
namespace Go.Proofs.YtdhbgelijjlifaaGreatDoor
open Go.RowKit
theorem stop_mid (p : UInt8 → Bool) (s : ByteArray) : ∀ (d j k : Nat), k - j = d → j ≤ k → k ≤ Fie.stop p s j → Fie.stop p s j = Fie.stop p s k
 | 0, j, k, hd, h1, _ => by rw [show k = j by omega]
 | d + 1, j, k, hd, h1, h2 => by
   have hj : j < s.size := by
    rcases Nat.lt_or_ge j s.size with h | h
    · exact h
    · rw [Fie.stop_end p s j h] at h2; omega
   cases hp : p s[j]
   · rw [Fie.stop_no p s j hj hp] at h2; omega
   · have e := Fie.stop_yes p s j hj hp
     rw [e] at h2 ⊢
     exact stop_mid p s d (j + 1) k (by omega) (by omega) h2
end Go.Proofs.YtdhbgelijjlifaaGreatDoor
namespace Go.Proofs.YtdhbgelijjlifaaGreatDoor
open Go.RowKit
def TextsEnd (w : World) (l : List ByteArray) (e : Ending) (w' : World) : Prop := ∃ v, ∃ y : Past w, e = .returned v ∧ y.x.ownsRow w.heap.size 9 1 v l.length (l.map Value.string) ∧ w' = y.x
theorem texts_end {w w' : World} [h : ExtC w w'] {l ls : List ByteArray} {v : Value} {n : Nat} (hn : ls.length = n) [k : OwnsC w' w.heap.size 9 1 v n (ls.map Value.string)] (he : l = ls) : TextsEnd w l (.returned v) w' := by
 subst he; subst hn
 exact ⟨_, ⟨w', h.ext⟩, rfl, k.own, rfl⟩
set_option maxRecDepth 100000 in
set_option maxHeartbeats 4000000 in
theorem rlines_any (s : ByteArray) (w : World) (hs : s.size ≤ 1048576) : Calls Tryz.prog 16 #[.string s] w (TextsEnd w (Fie.lines s 0)) := by
 obtain ⟨i0, hi, hz0, hz1, hz2⟩ := info_parts Tryz.infoText
 go_enter Tryz.func16, Tryz.ntmps16
 go_wp2
 go_loopw [3, 4, 5] (fun v a i wr => ∃ (k from' n : Nat) (ls : List ByteArray), k ≤ s.size ∧ from' ≤ k ∧ n ≤ from' ∧ k ≤ Fie.stop Fie.nolf s from' ∧ i = .int .i64 k ∧ a = .int .i64 from' ∧ Hid (ls.length = n) ∧ Hid (Fie.lines s 0 = ls ++ Fie.lines s from') ∧ OwnsC wr w.heap.size 9 1 v n (ls.map Value.string) ∧ Ext w wr) (fun _ _ i _ => s.size - (intOf i).toNat)
 case atStart => exact ⟨0, 0, 0, [], by omega, by omega, by omega, by omega, rfl, rfl, rfl, rfl, ⟨World.ownsRow_nil _ _ _ _⟩, isext⟩
 case round =>
  obtain ⟨k, a, n, ls, k1, a1, n1, s1, rfl, rfl, Hn, Hl, hown, hx⟩ := hrel
  obtain ⟨yr, rfl⟩ := fin hx
  clear hx
  obtain ⟨av, cap, rfl⟩ := owns_shape hown.own
  by_cases c0 : k < s.size
  · cases c1 : Fie.nolf s[k]
    · have q1 := Fie.nolf_no c1
      have E : Hid (Fie.lines s 0 = (ls ++ [s.extract a k]) ++ Fie.lines s (k + 1)) := by
       show _ = _
       have e0 : Fie.stop Fie.nolf s a = k := by rw [Fie.stop_mid _ _ _ a k rfl a1 s1, Fie.stop_no _ _ _ c0 c1]
       rw [Hl.out, Fie.lines_more s a (by omega), e0]; simp
      have s2 : k + 1 ≤ Fie.stop Fie.nolf s (k + 1) := (Fie.stop_le Fie.nolf s (k + 1) (by omega)).1
      clear c1 s1
      go_wp2_with (first | (at_builtin; refine wpList_append_own _ rfl _ _ 35 rfl w.heap.size 9 i0 (.string ByteArray.empty) 1 16 Tryz.underlying35 hi hz0 hz1 hz2 rfl (by decide) (.slice av n cap) n (ls.map Value.string) rfl (OwnsC.own) _ 1 1 [.string (s.extract a k)] rfl rfl (new_cells' _ _ _ _ (by simp)) (by simp [Value.oneCell']) (by unfold maxLen; omega) (by omega) (GeW.ge) ?_; intro v' w1 hown1 hgrow1 _; obtain ⟨av', cap', rfl⟩ := owns_shape hown1; obtain ⟨y1, rfl⟩ := fin (Ext.grown (a := w) isext (OwnsC.own (e := 9) (size := 1) (n := n) (xs := ls.map Value.string)) hgrow1); clear hgrow1; have hO : OwnsC y1.x w.heap.size 9 1 (.slice av' (n + 1) cap') (n + 1) (ls.map Value.string ++ [.string (s.extract a k)]) := ⟨hown1⟩))
      go_roundw
      case rel => exact ⟨k + 1, k + 1, n + 1, ls ++ [s.extract a k], by omega, by omega, by omega, s2, by go_num, by go_num, by show _ = _; rw [List.length_append, Hn.out]; rfl, E, by rw [List.map_append]; exact hO, isext⟩
      case measure => simp [intOf]; omega
    · have q1 := Fie.nolf_yes c1
      have s2 : k + 1 ≤ Fie.stop Fie.nolf s a := by rw [Fie.stop_mid _ _ _ a k rfl a1 s1, Fie.stop_yes _ _ _ c0 c1]; exact (Fie.stop_le Fie.nolf s (k + 1) (by omega)).1
      clear c1 s1
      go_wp2
      go_roundw
      case rel => exact ⟨k + 1, a, n, ls, by omega, by omega, by omega, s2, by go_num, rfl, Hn, Hl, hown, isext⟩
      case measure => simp [intOf]; omega
  · obtain rfl : k = s.size := by omega
    by_cases c1 : a < s.size
    · have E : Hid (Fie.lines s 0 = ls ++ [s.extract a s.size]) := by
       show _ = _
       have hb := Fie.stop_le Fie.nolf s a (by omega)
       have e0 : Fie.stop Fie.nolf s a = s.size := by omega
       rw [Hl.out, Fie.lines_more s a c1, e0, Fie.lines_end _ _ (by omega)]
      clear s1
      go_wp2_with (first | (at_builtin; refine wpList_append_own _ rfl _ _ 35 rfl w.heap.size 9 i0 (.string ByteArray.empty) 1 16 Tryz.underlying35 hi hz0 hz1 hz2 rfl (by decide) (.slice av n cap) n (ls.map Value.string) rfl (OwnsC.own) _ 1 1 [.string (s.extract a s.size)] rfl rfl (new_cells' _ _ _ _ (by simp)) (by simp [Value.oneCell']) (by unfold maxLen; omega) (by omega) (GeW.ge) ?_; intro v' w1 hown1 hgrow1 _; obtain ⟨av', cap', rfl⟩ := owns_shape hown1; obtain ⟨y1, rfl⟩ := fin (Ext.grown (a := w) isext (OwnsC.own (e := 9) (size := 1) (n := n) (xs := ls.map Value.string)) hgrow1); clear hgrow1; have hO : OwnsC y1.x w.heap.size 9 1 (.slice av' (n + 1) cap') (n + 1) ((ls ++ [s.extract a s.size]).map Value.string) := ⟨by rw [List.map_append]; exact hown1⟩))
      go_ret
      exact texts_end (v := .slice av' (n + 1) cap') (n := n + 1) (ls := ls ++ [s.extract a s.size]) (by rw [List.length_append, Hn.out]; rfl) E.out
    · have E : Hid (Fie.lines s 0 = ls) := by
       show _ = _
       rw [Hl.out, Fie.lines_end _ _ (by omega), List.append_nil]
      clear s1
      go_wp2
      go_ret
      exact texts_end (v := .slice av n cap) Hn.out E.out
end Go.Proofs.YtdhbgelijjlifaaGreatDoor
