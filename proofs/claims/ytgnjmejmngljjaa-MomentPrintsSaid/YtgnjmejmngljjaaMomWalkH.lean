/- Walks of moments: the document's parts, times, clocks. -/
import Derived.Test.YtgnjmejmngljjaaMomWalkG
set_option linter.unusedVariables false
set_option linter.unusedSimpArgs false
namespace Go.Proofs.Ytgnjmejmngljjaa
open Go.RowKit

theorem Try.infoTextM : (Try.prog.info? 9).map (fun i => (i.zero, i.size, i.bytes)) = some (some (.string ByteArray.empty), 1, 16) := by kernel_rfl
theorem strs_snoc (ws : List (List UInt8)) (x : List UInt8) : strs (ws ++ [x]) = strs ws ++ [.string ⟨x.toArray⟩] := by simp [strs]
theorem drop_byte (s : ByteArray) (j : Nat) (h : j < s.size) : s.data.toList.drop j = s[j] :: s.data.toList.drop (j + 1) := by
  rw [List.drop_eq_getElem_cons (by simpa using h)]; rfl
theorem one_byte (s : ByteArray) (j : Nat) (h : j < s.size) : s.extract j (j + 1) = ⟨#[s[j]]⟩ := by
  apply ba_list
  rw [Lib.extract_data, drop_byte s j h, show j + 1 - j = 1 by omega]; rfl
theorem app_byte (cur : List UInt8) (c : UInt8) : (⟨cur.toArray⟩ : ByteArray) ++ ⟨#[c]⟩ = ⟨(cur ++ [c]).toArray⟩ := by
  apply ba_list; simp [ByteArray.data_append]
def PartsEnd (w : World) (ws : List (List UInt8)) (e : Ending) (w' : World) : Prop := ∃ v, ∃ y : Past w, e = .returned v ∧ Reads y.x v ws.length (strs ws) ∧ w' = y.x
theorem parts_end {w w' : World} [h : ExtC w w'] {l ls : List (List UInt8)} {v : Value} {n : Nat} (hn : ls.length = n) [k : OwnsC w' w.heap.size 9 1 v n (strs ls)] (he : l = ls) : PartsEnd w l (.returned v) w' := by
  subst he; subst hn
  exact ⟨_, ⟨w', h.ext⟩, rfl, owns_reads k.own (by omega), rfl⟩
set_option maxRecDepth 100000 in
set_option maxHeartbeats 4000000 in
theorem parts_any (s : ByteArray) (w : World) (hs : s.size ≤ 5000) : Calls Try.prog 70 #[.string s] w (PartsEnd w (Mom.splitC s.data.toList)) := by
  obtain ⟨i0, hi, hz0, hz1, hz2⟩ := info_parts Try.infoTextM
  go_enter Try.func70, Try.ntmps70
  go_wp2
  go_loopw [3, 4, 5] (fun v cv i wr => ∃ (k n : Nat) (dn : List (List UInt8)) (cur : List UInt8), k ≤ s.size ∧ n ≤ k ∧ cur.length ≤ k ∧ i = .int .i64 k ∧ cv = .string ⟨cur.toArray⟩ ∧ Hid (dn.length = n) ∧ Hid (Mom.splitC s.data.toList = dn ++ Mom.glue cur (Mom.splitC (s.data.toList.drop k))) ∧ OwnsC wr w.heap.size 9 1 v n (strs dn) ∧ Ext w wr) (fun _ _ i _ => s.size - (intOf i).toNat)
  case atStart => exact ⟨0, 0, [], [], by omega, by omega, by simp, rfl, rfl, rfl, by show _ = _; rw [List.drop_zero, Mom.glue_nil]; rfl, ⟨World.ownsRow_nil _ _ _ _⟩, isext⟩
  case round =>
    obtain ⟨k, n, dn, cur, k1, n1, cl, rfl, rfl, Hn, Hl, hown, hx⟩ := hrel
    obtain ⟨yr, rfl⟩ := fin hx
    clear hx
    obtain ⟨av, cap, rfl⟩ := owns_shape hown.own
    by_cases c0 : k < s.size
    · by_cases c1 : s[k] = 58
      · have q1 : ((s[k].toNat : Int) == 58) = true := by rw [c1]; rfl
        have E : Hid (Mom.splitC s.data.toList = (dn ++ [cur]) ++ Mom.glue [] (Mom.splitC (s.data.toList.drop (k + 1)))) := by
          show _ = _
          rw [Hl.out, drop_byte s k c0, c1, Mom.glue_colon, Mom.glue_nil]; simp
        clear c1
        go_wp2_with (first | (at_builtin; refine wpList_append_own _ rfl _ _ 27 rfl w.heap.size 9 i0 (.string ByteArray.empty) 1 16 Try.underlying27 hi hz0 hz1 hz2 rfl (by decide) (.slice av n cap) n (strs dn) rfl (OwnsC.own) _ 1 1 [.string ⟨cur.toArray⟩] rfl rfl (new_cells' _ _ _ _ (by simp)) (by simp [Value.oneCell']) (by unfold maxLen; omega) (by omega) (GeW.ge) ?_; intro v' w1 hown1 hgrow1 _; obtain ⟨av', cap', rfl⟩ := owns_shape hown1; obtain ⟨y1, rfl⟩ := fin (Ext.grown (a := w) isext (OwnsC.own (e := 9) (size := 1) (n := n) (xs := strs dn)) hgrow1); clear hgrow1; have hO : OwnsC y1.x w.heap.size 9 1 (.slice av' (n + 1) cap') (n + 1) (strs (dn ++ [cur])) := ⟨by rw [strs_snoc]; exact hown1⟩))
        go_roundw
        case rel => exact ⟨k + 1, n + 1, dn ++ [cur], [], by omega, by omega, by simp, by go_num, rfl, by show _ = _; rw [List.length_append, Hn.out]; rfl, E, hO, isext⟩
        case measure => simp [intOf]; omega
      · have q1 : ((s[k].toNat : Int) == 58) = false := by
          rw [beq_eq_false_iff_ne]; intro e; exact c1 (UInt8.toNat_inj.1 (by show s[k].toNat = 58; omega))
        have E : Hid (Mom.splitC s.data.toList = dn ++ Mom.glue (cur ++ [s[k]]) (Mom.splitC (s.data.toList.drop (k + 1)))) := by
          show _ = _
          rw [Hl.out, drop_byte s k c0, Mom.glue_other _ _ _ c1]
        have e1 := one_byte s k c0
        have e2 := Lib.hid (app_byte cur s[k])
        have z1 : (⟨cur.toArray⟩ : ByteArray).size ≤ 5000 := by rw [lsz]; omega
        have z2 : (⟨#[s[k]]⟩ : ByteArray).size ≤ 1 := Nat.le_refl _
        have e1' := Lib.hid e1
        clear c1 e1
        go_wp2
        go_roundw
        case rel => exact ⟨k + 1, n, dn, cur ++ [s[k]], by omega, by omega, by simp; omega, by go_num, by first | (rw [← e2.out, ← e1'.out]) | (rw [← e2.out]), Hn, E, hown, isext⟩
        case measure => simp [intOf]; omega
    · have E : Hid (Mom.splitC s.data.toList = dn ++ [cur]) := by
        show _ = _
        rw [Hl.out, List.drop_eq_nil_of_le (by simp; omega), Mom.glue_end]
      go_wp2_with (first | (at_builtin; refine wpList_append_own _ rfl _ _ 27 rfl w.heap.size 9 i0 (.string ByteArray.empty) 1 16 Try.underlying27 hi hz0 hz1 hz2 rfl (by decide) (.slice av n cap) n (strs dn) rfl (OwnsC.own) _ 1 1 [.string ⟨cur.toArray⟩] rfl rfl (new_cells' _ _ _ _ (by simp)) (by simp [Value.oneCell']) (by unfold maxLen; omega) (by omega) (GeW.ge) ?_; intro v' w1 hown1 hgrow1 _; obtain ⟨av', cap', rfl⟩ := owns_shape hown1; obtain ⟨y1, rfl⟩ := fin (Ext.grown (a := w) isext (OwnsC.own (e := 9) (size := 1) (n := n) (xs := strs dn)) hgrow1); clear hgrow1; have hO : OwnsC y1.x w.heap.size 9 1 (.slice av' (n + 1) cap') (n + 1) (strs (dn ++ [cur])) := ⟨by rw [strs_snoc]; exact hown1⟩))
      go_ret
      exact parts_end (v := .slice av' (n + 1) cap') (n := n + 1) (ls := dn ++ [cur]) (by rw [List.length_append, Hn.out]; rfl) E.out
end Go.Proofs.Ytgnjmejmngljjaa
