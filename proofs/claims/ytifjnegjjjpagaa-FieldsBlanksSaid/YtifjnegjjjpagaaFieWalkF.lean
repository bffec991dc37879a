/- Walk: fields joined. -/
import Derived.Test.YtifjnegjjjpagaaFieWalkE
import Derived.Lib.Join
import Derived.Test.YtifjnegjjjpagaaFiePlainD
set_option linter.unusedVariables false
set_option linter.unusedSimpArgs false
namespace Go.Proofs.Ytifjnegjjjpagaa
open Go.RowKit

/-- A text may be a field; may stand bare; how it is written. -/
def fieldOk (s : ByteArray) : Bool := decide (Fie.stop Fie.within s 0 = s.size)
def plain (s : ByteArray) : Bool := decide (s.size ≠ 0 ∧ Fie.stop Fie.bare s 0 = s.size)
def fieldOut (s : ByteArray) : ByteArray := if plain s = true then s else ⟨#[34]⟩ ++ s ++ ⟨#[34]⟩
theorem Try.infoText : (Try.prog.info? 9).map (fun i => (i.zero, i.size, i.bytes)) = some (some (.string ByteArray.empty), 1, 16) := by kernel_rfl

/-- All of them may be fields. -/
def allOk (l : List ByteArray) : Bool := l.all fieldOk
def joined (l : List ByteArray) : ByteArray := ⟨(Lib.join ((l.map fieldOut).map (·.data.toList)) [32]).toArray⟩
/-- The line of some texts, the error's number. -/
def joinR (l : List ByteArray) : ByteArray × Int := if allOk l = true then (if 16 < l.length ∨ 500 < (joined l).size then (ByteArray.empty, 12) else (joined l, 0)) else (ByteArray.empty, 6)
theorem joinR_ok (l : List ByteArray) (k : Nat) (hk : l.length = k) (h : allOk l = true) : joinR l = if 16 < k ∨ 500 < (Lib.join (List.map ((fun x => x.data.toList) ∘ fieldOut) l) [32]).length then (ByteArray.empty, 12) else (⟨(Lib.join (List.map ((fun x => x.data.toList) ∘ fieldOut) l) [32]).toArray⟩, 0) := by
  have e : joined l = ⟨(Lib.join (List.map ((fun x => x.data.toList) ∘ fieldOut) l) [32]).toArray⟩ := by unfold joined; rw [List.map_map]
  unfold joinR
  rw [if_pos h, e, hk]
  rfl
theorem allOk_no {l : List ByteArray} {s : ByteArray} (h : s ∈ l) (hs : fieldOk s = false) : allOk l = false := by
  unfold allOk; rw [List.all_eq_false]; exact ⟨s, h, by simp [hs]⟩
theorem out_quoted {s : ByteArray} (h : plain s = false) : fieldOut s = ⟨#[34]⟩ ++ s ++ ⟨#[34]⟩ := by simp [fieldOut, h]
theorem out_plain {s : ByteArray} (h : plain s = true) : fieldOut s = s := by simp [fieldOut, h]
theorem take_out (l : List ByteArray) (k : Nat) (h : k < l.length) : ((l.take (k + 1)).map fun s => Value.string (fieldOut s)) = ((l.take k).map fun s => Value.string (fieldOut s)) ++ [.string (fieldOut l[k])] := by
  rw [List.take_succ_eq_append_getElem h, List.map_append]; rfl
theorem take_ok (l : List ByteArray) (k : Nat) (h : k < l.length) (ha : allOk (l.take k) = true) (hk : fieldOk l[k] = true) : allOk (l.take (k + 1)) = true := by
  unfold allOk at *; rw [List.take_succ_eq_append_getElem h, List.all_append, ha]; simp [hk]

theorem empty_list {s : ByteArray} (h : s.size = 0) : s.toList = [] := by
  rw [ByteArray.toList_eq]; exact List.eq_nil_of_length_eq_zero (by simpa using h)
theorem full_list {s : ByteArray} (h : ¬ s.size = 0) : s.toList.isEmpty = false ∧ ¬ s.toList = [] := by
  have : ¬ s.toList = [] := by
    rw [ByteArray.toList_eq]; intro e
    exact h (by have := congrArg List.length e; simpa using this)
  exact ⟨by simpa using this, this⟩

set_option maxRecDepth 100000 in
set_option maxHeartbeats 4000000 in
theorem join_any (l : List ByteArray) (n : Nat) (hn : l.length = n) (b o c : Nat) (w : World) (m1 : b < w.heap.size) (n1 : n ≤ 100) (hl : ∀ s ∈ l, s.size ≤ 2000)
    (hc : ∀ i u, (l.map Value.string)[i]? = some u → w.cell? ⟨b, o + i, none⟩ = some u) :
    Calls Try.prog 16 #[.slice (some ⟨b, o, none⟩) n c] w fun e w' => e = .returned (.tuple #[.string (joinR l).1, .int .i64 (joinR l).2]) ∧ ∃ y : Past w, w' = y.x := by
  haveI : InW b w := ⟨m1⟩
  obtain ⟨i0, hi, hz0, hz1, hz2⟩ := info_parts Try.infoText
  have H1 := Lib.hid hc
  have Hn := Lib.hid hn
  have HL := Lib.hid hl
  clear hc hn hl
  go_enter Try.func16, Try.ntmps16
  go_wp2
  go_loopw [4, 10] (fun v i wr => ∃ (k : Nat), k ≤ n ∧ i = .int .i64 k ∧ Hid (allOk (l.take k) = true) ∧ OwnsC wr w.heap.size 9 1 v k ((l.take k).map fun s => .string (fieldOut s)) ∧ Ext w wr) (fun _ i _ => n - (intOf i).toNat)
  case atStart => exact ⟨0, by omega, rfl, rfl, ⟨World.ownsRow_nil _ _ _ _⟩, isext⟩
  case round =>
    obtain ⟨k, k1, rfl, hok, hown, hx⟩ := hrel
    obtain ⟨yr, rfl⟩ := fin hx
    clear hx
    obtain ⟨av, cap, rfl⟩ := owns_shape hown.own
    by_cases c0 : k < n
    · have hk : k < l.length := by rw [Hn.out]; exact c0
      have f1 := text_at H1.out k hk
      have hs := HL.out _ (List.getElem_mem hk)
      have T1 := Lib.hid (take_out l k hk)
      have T2 := Lib.hid (take_ok l k hk)
      have T3 := Lib.hid (fun h => allOk_no (List.getElem_mem hk) h)
      generalize l[k] = s at *
      have hm : s.size ≤ maxLen := by unfold maxLen; omega
      have b1 := Fie.stop_le Fie.within s 0 (by omega)
      have b2 := Fie.stop_le Fie.bare s 0 (by omega)
      by_cases c1 : Fie.stop Fie.within s 0 < s.size
      · have E : Hid (joinR l = (ByteArray.empty, 6)) := by show _ = _; unfold joinR; rw [if_neg (by rw [T3.out (decide_eq_false (by omega))]; simp)]
        clear hk
        go_wp2_with fail
        refine Rets.use (while_within s 0 _ (by omega) (by omega) hm) ?_
        intro _
        go_wp2_with fail
        go_ret2
        exact ⟨by rw [E.out]; rfl, done⟩
      have fo : Hid (fieldOk s = true) := decide_eq_true (by omega)
      by_cases c2 : s.size = 0
      · skip
        have po : Hid (fieldOut s = (⟨#[34]⟩ ++ s ++ ⟨#[34]⟩)) := out_quoted (decide_eq_false (by omega))
        have e0 : s.toList = [] := empty_list c2
        clear hk
        go_wp2_with fail
        refine Rets.use (while_within s 0 _ (by omega) (by omega) hm) ?_
        intro _
        go_wp2_with (first | (at_builtin; refine wpList_append_own _ rfl _ _ 24 rfl w.heap.size 9 i0 (.string ByteArray.empty) 1 16 Try.underlying24 hi hz0 hz1 hz2 rfl (by decide) (.slice av k cap) k ((l.take k).map fun s => .string (fieldOut s)) rfl (OwnsC.own) _ 1 1 [.string (⟨#[34]⟩ ++ s ++ ⟨#[34]⟩)] rfl rfl (new_cells' _ _ _ _ (by simp)) (by simp [Value.oneCell']) (by unfold maxLen; omega) (by omega) (GeW.ge) ?_; intro v' w1 hown1 hgrow1 _; obtain ⟨av', cap', rfl⟩ := owns_shape hown1; obtain ⟨y1, rfl⟩ := fin (Ext.grown (a := w) isext (OwnsC.own (e := 9) (size := 1) (n := k) (xs := (l.take k).map fun s => .string (fieldOut s))) hgrow1); clear hgrow1; have hO : OwnsC y1.x w.heap.size 9 1 (.slice av' (k + 1) cap') (k + 1) (((l.take k).map fun s => .string (fieldOut s)) ++ [.string (⟨#[34]⟩ ++ s ++ ⟨#[34]⟩)]) := ⟨hown1⟩))
        go_roundw
        case rel => exact ⟨k + 1, by omega, by go_num, T2.out hok.out fo.out, by rw [T1.out, po.out]; infer_instance, isext⟩
        case measure => simp [intOf]; omega
      · by_cases c3 : Fie.stop Fie.bare s 0 < s.size
        · skip
          have po : Hid (fieldOut s = (⟨#[34]⟩ ++ s ++ ⟨#[34]⟩)) := out_quoted (decide_eq_false (by omega))
          obtain ⟨e0, e1⟩ := full_list c2
          clear hk
          go_wp2_with fail
          refine Rets.use (while_within s 0 _ (by omega) (by omega) hm) ?_
          intro _
          go_wp2_with fail
          refine Rets.use (while_bare s 0 _ (by omega) (by omega) hm) ?_
          intro _
          go_wp2_with (first | (at_builtin; refine wpList_append_own _ rfl _ _ 24 rfl w.heap.size 9 i0 (.string ByteArray.empty) 1 16 Try.underlying24 hi hz0 hz1 hz2 rfl (by decide) (.slice av k cap) k ((l.take k).map fun s => .string (fieldOut s)) rfl (OwnsC.own) _ 1 1 [.string (⟨#[34]⟩ ++ s ++ ⟨#[34]⟩)] rfl rfl (new_cells' _ _ _ _ (by simp)) (by simp [Value.oneCell']) (by unfold maxLen; omega) (by omega) (GeW.ge) ?_; intro v' w1 hown1 hgrow1 _; obtain ⟨av', cap', rfl⟩ := owns_shape hown1; obtain ⟨y1, rfl⟩ := fin (Ext.grown (a := w) isext (OwnsC.own (e := 9) (size := 1) (n := k) (xs := (l.take k).map fun s => .string (fieldOut s))) hgrow1); clear hgrow1; have hO : OwnsC y1.x w.heap.size 9 1 (.slice av' (k + 1) cap') (k + 1) (((l.take k).map fun s => .string (fieldOut s)) ++ [.string (⟨#[34]⟩ ++ s ++ ⟨#[34]⟩)]) := ⟨hown1⟩))
          go_roundw
          case rel => exact ⟨k + 1, by omega, by go_num, T2.out hok.out fo.out, by rw [T1.out, po.out]; infer_instance, isext⟩
          case measure => simp [intOf]; omega
        · skip
          have po : Hid (fieldOut s = s) := out_plain (decide_eq_true (by omega))
          obtain ⟨e0, e1⟩ := full_list c2
          clear hk
          go_wp2_with fail
          refine Rets.use (while_within s 0 _ (by omega) (by omega) hm) ?_
          intro _
          go_wp2_with fail
          refine Rets.use (while_bare s 0 _ (by omega) (by omega) hm) ?_
          intro _
          go_wp2_with (first | (at_builtin; refine wpList_append_own _ rfl _ _ 24 rfl w.heap.size 9 i0 (.string ByteArray.empty) 1 16 Try.underlying24 hi hz0 hz1 hz2 rfl (by decide) (.slice av k cap) k ((l.take k).map fun s => .string (fieldOut s)) rfl (OwnsC.own) _ 1 1 [.string s] rfl rfl (new_cells' _ _ _ _ (by simp)) (by simp [Value.oneCell']) (by unfold maxLen; omega) (by omega) (GeW.ge) ?_; intro v' w1 hown1 hgrow1 _; obtain ⟨av', cap', rfl⟩ := owns_shape hown1; obtain ⟨y1, rfl⟩ := fin (Ext.grown (a := w) isext (OwnsC.own (e := 9) (size := 1) (n := k) (xs := (l.take k).map fun s => .string (fieldOut s))) hgrow1); clear hgrow1; have hO : OwnsC y1.x w.heap.size 9 1 (.slice av' (k + 1) cap') (k + 1) (((l.take k).map fun s => .string (fieldOut s)) ++ [.string s]) := ⟨hown1⟩))
          go_roundw
          case rel => exact ⟨k + 1, by omega, by go_num, T2.out hok.out fo.out, by rw [T1.out, po.out]; infer_instance, isext⟩
          case measure => simp [intOf]; omega
    · obtain rfl : k = n := by omega
      by_cases z : k = 0
      · subst z
        have ln : l = [] := List.eq_nil_of_length_eq_zero Hn.out
        have E : Hid (joinR l = (⟨#[]⟩, 0)) := by subst ln; rfl
        go_wp2_with fail
        refine (Try.strings_Join_none av cap _ _).mono ?_
        rintro e w' ⟨rfl, rfl⟩
        go_wp2
        go_ret2
        exact ⟨by rw [E.out]; rfl, done⟩
      · have hR := owns_reads hown.own (by omega)
        rcases hR with ⟨_, _, _, h0, _⟩ | ⟨g, og, cg, hv, hk1, hk2, hg, hcell⟩
        · exact absurd h0 z
        simp only [Value.slice.injEq] at hv
        obtain ⟨rfl, _, rfl⟩ := hv
        have lt : l.take k = l := List.take_of_length_le (by rw [Hn.out]; omega)
        have ok9 : allOk l = true := by rw [← lt]; exact hok.out
        have E := Lib.hid (joinR_ok l k Hn.out ok9)
        clear ok9
        rw [lt] at hcell
        have hlen : (Lib.join ((l.map fieldOut).map (·.data.toList)) [32]).length ≤ 140737488355328 := by
          have h1 := join_len 2002 [32] ((l.map fieldOut).map (·.data.toList)) (by
            intro x hx
            simp only [List.mem_map] at hx
            obtain ⟨u, ⟨v, hv, rfl⟩, rfl⟩ := hx
            have := HL.out v hv
            unfold fieldOut
            split <;> simp <;> omega)
          have h2 : ((l.map fieldOut).map (·.data.toList)).length = k := by rw [List.length_map, List.length_map, Hn.out]
          rw [h2] at h1
          have h3 : k * (2002 + [(32 : UInt8)].length) ≤ 100 * 2003 := Nat.mul_le_mul n1 (by simp)
          omega
        have hxl : (l.map fieldOut).length = k := by rw [List.length_map, Hn.out]
        have J := Try.strings_Join g og cap (l.map fieldOut) ⟨#[32]⟩ yr.x (fun j x hx => by
          rw [List.getElem?_map] at hx
          obtain ⟨s0, e1, rfl⟩ := Option.map_eq_some_iff.1 hx
          exact hcell j _ (by rw [List.getElem?_map, e1]; rfl)) hg (by rw [hxl]; omega) (by rw [hxl]; exact hk1) hlen
        rw [hxl] at J
        have HJ := Lib.hid J
        clear J hcell
        go_wp2_with fail
        refine HJ.out.mono ?_
        rintro e w' ⟨rfl, hB⟩
        obtain ⟨y2, rfl⟩ := fin hB
        go_wp2
        · go_ret2
          exact ⟨by rw [E.out.trans (if_pos (by omega))]; rfl, done⟩
        · go_ret2
          exact ⟨by rw [E.out.trans (if_neg (by omega))]; rfl, done⟩
        · go_ret2
          exact ⟨by rw [E.out.trans (if_pos (by omega))]; rfl, done⟩
end Go.Proofs.Ytifjnegjjjpagaa
