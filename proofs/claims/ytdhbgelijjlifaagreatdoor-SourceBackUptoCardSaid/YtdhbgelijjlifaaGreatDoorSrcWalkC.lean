/- Walks of sources: letters, names. -/
import Derived.Test.YtdhbgelijjlifaaGreatDoorProg
import Derived.Test.YtdhbgelijjlifaaGreatDoorOwns
import Derived.Test.YtdhbgelijjlifaaGreatDoorSrcPlainB
import Derived.Test.YtdhbgelijjlifaaGreatDoorShelf
import Derived.Deep.RegionWith
import Derived.OpenVars
set_option linter.unusedVariables false
set_option linter.unusedSimpArgs false
namespace Go.Proofs.YtdhbgelijjlifaaGreatDoor
open Go.RowKit
set_option maxHeartbeats 400000 in
theorem sletter_any (c : UInt8) (w : World) : Rets Tryz.prog 56 #[.int .u8 c.toNat] w (.bool (Src.letB c)) := by
 go_enter Tryz.func56, Tryz.ntmps56
 go_wp2
 all_goals (go_ret; refine ⟨ret_bool ?_, done⟩; rw [Bool.eq_iff_iff]; simp [Src.letB, *]; try omega)
set_option maxHeartbeats 400000 in
theorem dletter_any (c : UInt8) (w : World) : Rets Tryz.prog 31 #[.int .u8 c.toNat] w (.bool (Src.letB c)) := by
 go_enter Tryz.func31, Tryz.ntmps31
 go_wp2
 all_goals (go_ret; refine ⟨ret_bool ?_, done⟩; rw [Bool.eq_iff_iff]; simp [Src.letB, *]; try omega)
set_option maxHeartbeats 400000 in
theorem ddigit_any (c : UInt8) (w : World) : Rets Tryz.prog 30 #[.int .u8 c.toNat] w (.bool (Src.digB c)) := by
 go_enter Tryz.func30, Tryz.ntmps30
 go_wp2
 all_goals (go_ret; refine ⟨ret_bool ?_, done⟩; rw [Bool.eq_iff_iff]; simp [Src.digB, *]; try omega)
namespace Src
theorem ok_cases (o : List UInt8) (c : UInt8) : (letB c = true ∧ okB o c = true) ∨ (letB c = false ∧ decide ((c.toNat : Int) < 48) = false ∧ decide (57 < (c.toNat : Int)) = false ∧ okB o c = true) ∨
 (letB c = false ∧ ((c.toNat : Int) < 48 ∨ (decide ((c.toNat : Int) < 48) = false ∧ 57 < (c.toNat : Int))) ∧ ((0 ≤ Lib.indexByte o c ∧ okB o c = true) ∨ (Lib.indexByte o c < 0 ∧ okB o c = false))) := by
 unfold okB
 cases h1 : letB c
 · right
   cases h2 : digB c
   · right
     refine ⟨rfl, ?_, ?_⟩
     · have := of_decide_eq_false h2
       by_cases g : (c.toNat : Int) < 48
       · exact .inl g
       · exact .inr ⟨decide_eq_false g, by omega⟩
     · have := contains_one o c
       by_cases h : 0 ≤ Lib.indexByte o c
       · rw [decide_eq_true h] at this; exact .inl ⟨h, by rw [← this]; rfl⟩
       · rw [decide_eq_false h] at this; exact .inr ⟨by omega, by rw [← this]; rfl⟩
   · left
     have := of_decide_eq_true h2
     exact ⟨rfl, decide_eq_false (by omega), decide_eq_false (by omega), rfl⟩
 · exact .inl ⟨rfl, rfl⟩
theorem all_snoc (f : UInt8 → Bool) (s : ByteArray) (k : Nat) (h : k < s.size) : (s.data.toList.take (k + 1)).all f = ((s.data.toList.take k).all f && f s[k]) := by
 rw [List.take_succ_eq_append_getElem (by simpa using h), List.all_append]; simp; rfl
theorem all_no {f : UInt8 → Bool} {s : ByteArray} {k : Nat} (h : k < s.size) (hf : f s[k] = false) : s.data.toList.all f = false := by
 rw [List.all_eq_false]
 exact ⟨s[k], by rw [show s[k] = s.data.toList[k]'(by simpa using h) from rfl]; exact List.getElem_mem _, by rw [hf]; simp⟩
theorem made_no {l : List UInt8} {most : Int} {o : List UInt8} (h : l.all (okB o) = false) : madeB l most o = false := by unfold madeB; rw [h]; rfl
theorem made_yes {l : List UInt8} {most : Int} {o : List UInt8} (h : l.all (okB o) = true) : madeB l most o = (!l.isEmpty && decide ((l.length : Int) ≤ most)) := by unfold madeB; rw [h]; rfl
end Src
end Go.Proofs.YtdhbgelijjlifaaGreatDoor
namespace Go.Proofs.YtdhbgelijjlifaaGreatDoor
open Go.RowKit
theorem byte_u8 (c : UInt8) : ((c.toNat : Int)).toNat.toUInt8 = c := by
 apply UInt8.toNat_inj.1; simp
theorem sbyte_any (s : ByteArray) (c : UInt8) (w : World) : Calls Tryz.prog 57 #[.string s, .int .u8 c.toNat] w fun e w' => e = .returned (.int .i64 (Lib.indexByte s.data.toList c)) ∧ w = w' :=
 (Tryz.strings_IndexByte s c.toNat w).mono fun e w' ⟨h, hw⟩ => by rw [byte_u8] at h; exact ⟨h, hw.symm⟩
set_option maxRecDepth 100000 in
set_option maxHeartbeats 2000000 in
theorem made_any (s o : ByteArray) (most : Int) (hs : s.size ≤ maxLen) (w : World) : Rets Tryz.prog 28 #[.string s, .int .i64 most, .string o] w (.bool (Src.madeB s.data.toList most o.data.toList)) := by
 have hY := fun h => Lib.hid (Src.made_yes (l := s.data.toList) (most := most) (o := o.data.toList) h)
 have hN := fun h => Lib.hid (Src.made_no (l := s.data.toList) (most := most) (o := o.data.toList) h)
 generalize Src.madeB s.data.toList most o.data.toList = R at *
 unfold maxLen at hs
 unfold Rets
 go_enter Tryz.func28, Tryz.ntmps28
 go_wp2
 go_loopw [11] (fun i wr => ∃ j : Nat, j ≤ s.size ∧ i = .int .i64 j ∧ Hid ((s.data.toList.take j).all (Src.okB o.data.toList) = true) ∧ Ext w wr) (fun i _ => s.size - (intOf i).toNat)
 case atStart => exact ⟨0, by omega, rfl, rfl, isext⟩
 case round =>
  obtain ⟨j, j1, rfl, Ha, hx⟩ := hrel
  obtain ⟨yr, rfl⟩ := fin hx
  clear hx
  by_cases hlt : j < s.size
  · have hc := Src.ok_cases o.data.toList s[j]
    have hsn := Lib.hid (Src.all_snoc (Src.okB o.data.toList) s j hlt)
    have hno := fun h => Lib.hid (Src.all_no (f := Src.okB o.data.toList) hlt h)
    have HL := fun w => Lib.hid (sletter_any s[j] w)
    have HB := fun w => Lib.hid (sbyte_any o s[j] w)
    rcases hc with ⟨c1, c2⟩ | ⟨c1, c3, c4, c2⟩ | ⟨c1, c3, ⟨c4, c2⟩ | ⟨c4, c2⟩⟩
    · have E : Hid ((s.data.toList.take (j + 1)).all (Src.okB o.data.toList) = true) := by show _ = _; rw [hsn.out, Ha.out, c2]; rfl
      rw [c1] at HL
      clear hsn hno c1 c2 HB
      go_wp2_with (go_at_call 56; refine Rets.use1 (HL _).out ?_; intro _)
      go_roundw
      case rel => exact ⟨j + 1, by omega, by go_num, E, isext⟩
      case measure => simp [intOf]; omega
    · have E : Hid ((s.data.toList.take (j + 1)).all (Src.okB o.data.toList) = true) := by show _ = _; rw [hsn.out, Ha.out, c2]; rfl
      rw [c1] at HL
      clear hsn hno c1 c2 HB
      go_wp2_with (go_at_call 56; refine Rets.use1 (HL _).out ?_; intro _)
      go_roundw
      case rel => exact ⟨j + 1, by omega, by go_num, E, isext⟩
      case measure => simp [intOf]; omega
    · have E : Hid ((s.data.toList.take (j + 1)).all (Src.okB o.data.toList) = true) := by show _ = _; rw [hsn.out, Ha.out, c2]; rfl
      rw [c1] at HL
      generalize Lib.indexByte o.data.toList s[j] = ix at *
      clear hsn hno c1 c2
      rcases c3 with c3 | ⟨c3, c5⟩
      all_goals
       go_wp2_with (first | (go_at_call 56; refine Rets.use1 (HL _).out ?_; intro _) | (go_at_call 57; refine (HB _).out.mono ?_; rintro e w' ⟨rfl, rfl⟩))
       go_roundw
       case rel => exact ⟨j + 1, by omega, by go_num, E, isext⟩
       case measure => simp [intOf]; omega
    · have E : Hid (R = false) := (hN (hno c2).out).out
      rw [c1] at HL
      generalize Lib.indexByte o.data.toList s[j] = ix at *
      clear hsn hno c1 c2 hN hY
      rcases c3 with c3 | ⟨c3, c5⟩
      all_goals
       go_wp2_with (first | (go_at_call 56; refine Rets.use1 (HL _).out ?_; intro _) | (go_at_call 57; refine (HB _).out.mono ?_; rintro e w' ⟨rfl, rfl⟩))
       go_ret
       exact ⟨by rw [E.out]; first | done | rfl, done⟩
  · have hall : s.data.toList.all (Src.okB o.data.toList) = true := by
     have := Ha.out
     rwa [List.take_of_length_le (by simp; omega)] at this
    have E : Hid (R = (!s.data.toList.isEmpty && decide ((s.data.toList.length : Int) ≤ most))) := (hY hall).out
    clear hall hY hN
    by_cases h0 : s.size = 0
    · have hs0 : s.data.toList = [] := List.eq_nil_of_length_eq_zero (by simpa using h0)
      have e1 : s.toList.isEmpty = true := by rw [Lib.toList_data, hs0]; rfl
      have E2 : Hid (R = false) := by show _ = _; rw [E.out, hs0]; rfl
      clear E hs0
      go_wp2
      go_ret
      exact ⟨by rw [E2.out]; first | done | rfl, done⟩
    · have hs0 : s.data.toList ≠ [] := fun h => h0 (by have := congrArg List.length h; simpa using this)
      have e1 : s.toList.isEmpty = false := by rw [Lib.toList_data]; simpa using hs0
      have E2 : Hid (R = decide ((s.size : Int) ≤ most)) := by
       show _ = _
       have : s.data.toList.isEmpty = false := by simpa using hs0
       rw [E.out, this]; simp
      clear E hs0
      go_wp2
      go_ret
      exact ⟨by rw [E2.out]; first | done | rfl, done⟩
end Go.Proofs.YtdhbgelijjlifaaGreatDoor
namespace Go.Proofs.YtdhbgelijjlifaaGreatDoor
open Go.RowKit
def MaxL (w : World) : Prop := ∃ m : Int, w.cell? ⟨0, 0, none⟩ = some (.int .i64 m)
theorem MaxL.ext {w w' : World} (h : MaxL w) (hx : Ext w w') : MaxL w' := by
 obtain ⟨m, hm⟩ := h
 exact ⟨m, (Below.cell (p := ⟨0, 0, none⟩) hx (World.block_lt_of_cell? w ⟨0, 0, none⟩ hm)).trans hm⟩
theorem scontains_any (s : ByteArray) (c : UInt8) (w : World) : Calls Tryz.prog 108 #[.string s, .string ⟨#[c]⟩] w fun e w' => e = .returned (.bool (s.data.toList.contains c)) ∧ w = w' :=
 (Tryz.strings_Contains_one s c w).mono fun e w' ⟨h, hw⟩ => by rw [Src.contains_one] at h; exact ⟨h, hw.symm⟩
def cutV (x : UInt8) (l : List UInt8) : Value := .tuple #[.string ⟨(Src.cutC x l).1.toArray⟩, .string ⟨(Src.cutC x l).2.1.toArray⟩, .bool (Src.cutC x l).2.2]
theorem scut_any (s : ByteArray) (c : UInt8) (w : World) (hs : s.size < 4294967281) (hM : MaxL w) : Rets Tryz.prog 77 #[.string s, .string ⟨#[c]⟩] w (cutV c s.data.toList) := by
 obtain ⟨m, hm⟩ := hM
 refine (Tryz.strings_Cut s ⟨#[c]⟩ m w hs hm).mono ?_
 rintro e w' ⟨rfl, n, rfl⟩
 refine ⟨?_, ⟨_, (Ext.refl w).drewN n⟩, rfl⟩
 show Ending.returned (Value.tuple #[.string ⟨(Lib.cut s.data.toList [c]).1.toArray⟩, .string ⟨(Lib.cut s.data.toList [c]).2.1.toArray⟩, .bool (Lib.cut s.data.toList [c]).2.2]) = _
 rw [Src.cut_one]; rfl
theorem ssplit_any (s : ByteArray) (c : UInt8) (w : World) (hs : s.size < 4294967281) (hM : MaxL w) : Calls Tryz.prog 32 #[.string s, .string ⟨#[c]⟩] w fun e w' =>
 ∃ (v : Value) (ps : List ByteArray) (n : Nat) (y : Past w), e = .returned v ∧ ps.map (·.data.toList) = Src.splitC c s.data.toList ∧ ps.length = n ∧ Reads y.x v n (ps.map Value.string) ∧ w' = y.x := by
 obtain ⟨m, hm⟩ := hM
 refine (Tryz.strings_Split s ⟨#[c]⟩ m w hs hm (Nat.le_refl 1)).mono ?_
 rintro e w' ⟨rfl, rfl⟩
 have hlen := Src.pieces_len s c
 have hle := Lib.countB_le ⟨#[c]⟩ (by simp [ByteArray.size]) s.size s (Nat.le_refl _)
 refine ⟨_, Lib.splitB ⟨#[c]⟩ 0 (Lib.countB s ⟨#[c]⟩) s, Lib.countB s ⟨#[c]⟩ + 1, ⟨_, (Ext.refl w).alloc _⟩, rfl, Src.pieces_one s c, hlen, ?_, rfl⟩
 refine .inr ⟨w.heap.size, 0, Lib.countB s ⟨#[c]⟩ + 1, rfl, Nat.le_refl _, by unfold maxLen; omega, by simp, fun i u hu => ?_⟩
 rw [Nat.zero_add]
 simp [World.cell?_alloc_new, hu]
theorem size_of {s : ByteArray} : s.data.toList.length = s.size := Array.length_toList
theorem str_nil {s : ByteArray} (h : s.data.toList = []) : s = ⟨#[]⟩ := by
 cases s with | mk d => congr 1; exact Array.toList_inj.1 h
theorem at_zero {s : ByteArray} {c : UInt8} {r : List UInt8} (h : s.data.toList = c :: r) : ∃ hz : 0 < s.size, s[0] = c := by
 have h1 : s.size = (c :: r).length := by rw [← h]; exact size_of.symm
 refine ⟨by rw [h1]; simp, ?_⟩
 show s.data[0]'_ = c
 have : s.data.toList[0]'(by rw [h]; simp) = c := by simp [h]
 exact this
set_option maxRecDepth 100000 in
set_option maxHeartbeats 2000000 in
theorem opens_any (s : ByteArray) (hs : s.size ≤ maxLen) (w : World) : Rets Tryz.prog 29 #[.string s] w (.bool (Src.opensB s.data.toList)) := by
 unfold maxLen at hs
 cases hl : s.data.toList with
 | nil =>
   obtain rfl := str_nil hl
   unfold Rets
   go_enter Tryz.func29, Tryz.ntmps29
   go_wp2
   go_ret
   exact ⟨rfl, done⟩
 | cons c r =>
   obtain ⟨hz, e0⟩ := at_zero hl
   have e1 : s.toList.isEmpty = false := by rw [Lib.toList_data, hl]; rfl
   have HL := fun w => Lib.hid (sletter_any s[0] w)
   have E : Hid (Src.opensB (c :: r) = (Src.letB c || c == 95)) := rfl
   have hc : (Src.letB c = true) ∨ (Src.letB c = false ∧ (((s[0].toNat : Nat) : Int) == 95) = (c == 95)) := by
    cases h1 : Src.letB c
    · right
      refine ⟨rfl, ?_⟩
      rw [e0, Bool.eq_iff_iff, beq_iff_eq, beq_iff_eq, ← UInt8.toNat_inj]
      show _ ↔ c.toNat = 95
      omega
    · exact .inl rfl
   rw [show Src.letB s[0] = Src.letB c by rw [e0]] at HL
   clear hl e0
   unfold Rets
   rcases hc with h1 | ⟨h1, h2⟩
   · rw [h1] at HL E
     go_enter Tryz.func29, Tryz.ntmps29
     go_wp2_with (go_at_call 56; refine Rets.use (HL _).out ?_; intro _)
     go_ret
     exact ⟨by rw [E.out]; first | done | rfl, done⟩
   · rw [h1] at HL E
     generalize (c == 95) = q at *
     go_enter Tryz.func29, Tryz.ntmps29
     go_wp2_with (go_at_call 56; refine Rets.use (HL _).out ?_; intro _)
     go_ret
     exact ⟨by rw [E.out]; first | done | rfl | simp, done⟩
set_option maxRecDepth 100000 in
set_option maxHeartbeats 2000000 in
theorem sset_any (s : ByteArray) (hs : s.size ≤ maxLen) (w : World) : Rets Tryz.prog 12 #[.string s] w (.bool (Src.setB s.data.toList)) := by
 have HM := fun w => Lib.hid (made_any s ⟨#[95, 45]⟩ 20 hs w)
 have HO := fun w => Lib.hid (opens_any s hs w)
 have E : Hid (Src.setB s.data.toList = (Src.madeB s.data.toList 20 [95, 45] && Src.opensB s.data.toList)) := rfl
 have HM : ∀ w, Hid (Rets Tryz.prog 28 #[.string s, .int .i64 20, .string ⟨#[95, 45]⟩] w (.bool (Src.madeB s.data.toList 20 [95, 45]))) := HM
 generalize Src.madeB s.data.toList 20 [95, 45] = m at *
 generalize Src.opensB s.data.toList = o at *
 generalize Src.setB s.data.toList = R at *
 unfold Rets
 cases m
 all_goals
  go_enter Tryz.func12, Tryz.ntmps12
  go_wp2_with (first | (go_at_call 28; refine Rets.use (HM _).out ?_; intro _) | (go_at_call 29; refine Rets.use (HO _).out ?_; intro _))
  go_ret
  exact ⟨by rw [E.out]; first | done | rfl | simp, done⟩
end Go.Proofs.YtdhbgelijjlifaaGreatDoor
namespace Go.Proofs.YtdhbgelijjlifaaGreatDoor
open Go.RowKit
def okPart (p : List UInt8) : Bool := Src.madeB p 40 [95, 43, 45]
theorem all_snocP (f : List UInt8 → Bool) (ps : List (List UInt8)) (k : Nat) (h : k < ps.length) : (ps.take (k + 1)).all f = ((ps.take k).all f && f ps[k]) := by
 rw [List.take_succ_eq_append_getElem h, List.all_append]; simp
theorem all_noP {f : List UInt8 → Bool} {ps : List (List UInt8)} {k : Nat} (h : k < ps.length) (hf : f ps[k] = false) : ps.all f = false := by
 rw [List.all_eq_false]; exact ⟨ps[k], List.getElem_mem _, by rw [hf]; simp⟩
set_option maxRecDepth 100000 in
set_option maxHeartbeats 2000000 in
theorem place_any (s : ByteArray) (hs : s.size < 4294967281) (w : World) (hM : MaxL w) : Rets Tryz.prog 14 #[.string s] w (.bool (Src.placeB s.data.toList)) := by
 have HS := fun w h => Lib.hid (ssplit_any s 47 w hs h)
 have E : Hid (Src.placeB s.data.toList = ((Src.splitC 47 s.data.toList).all okPart && decide ((s.size : Int) ≤ 40))) := by
  show _ = _; unfold Src.placeB okPart; rw [size_of]
 have hle := Src.parts_le 47 s.data.toList
 rw [size_of] at hle
 generalize Src.placeB s.data.toList = R at *
 generalize Src.splitC 47 s.data.toList = PS at *
 have hs2 : s.size ≤ 9223372036854775807 := by omega
 unfold Rets
 go_enter Tryz.func14, Tryz.ntmps14
 go_wp2_with fail
 go_at_call 32
 refine (HS _ (hM.ext isext)).out.mono ?_
 rintro _ _ ⟨v, ps, n, y, rfl, hps, hn, hr, rfl⟩
 have hsz : Hid (∀ j (h : j < ps.length) (h2 : j < PS.length), ps[j].data.toList = PS[j] ∧ ps[j].size ≤ maxLen) := fun j h h2 => by
  have e : ps[j].data.toList = PS[j] := by simp [← hps]
  refine ⟨e, ?_⟩
  have := hle PS[j] (List.getElem_mem _)
  rw [← e, size_of] at this
  unfold maxLen; omega
 have Hn : Hid (PS.length = n) := by show _ = _; rw [← hps, List.length_map, hn]
 have Hn2 := Lib.hid hn
 clear hps hn hle HS
 rcases hr with ⟨a, cap, rfl, h0, hnil⟩ | ⟨b, o, cap, rfl, k1, k2, m1, hc⟩
 · obtain rfl := h0
   have E2 : Hid (R = decide ((s.size : Int) ≤ 40)) := by
    show _ = _
    have : PS = [] := List.eq_nil_of_length_eq_zero Hn.out
    rw [E.out, this]; rfl
   clear E hnil
   go_wp2_with fail
   refine wp_loop_rounds 1 ?_
   simp only [rounds_succ]
   go_wp2
   go_ret
   exact ⟨by rw [E2.out]; first | done | rfl, done⟩
 · haveI : InW b y.x := ⟨m1⟩
   have hl : n ≤ 9223372036854775807 := by unfold maxLen at k2; omega
   have HC := Lib.hid hc
   clear hc
   go_wp2_with fail
   go_loopw [8] (fun iv wr => ∃ j : Nat, j ≤ n ∧ iv = .int .i64 j ∧ Hid ((PS.take j).all okPart = true) ∧ Ext y.x wr) (fun iv _ => n - (intOf iv).toNat)
   case atStart => exact ⟨0, by omega, rfl, rfl, isext⟩
   case round =>
    obtain ⟨j, j1, rfl, Ha, hx⟩ := hrel
    obtain ⟨yr, rfl⟩ := fin hx
    clear hx
    by_cases hlt : j < n
    · have hjp : j < ps.length := by rw [Hn2.out]; exact hlt
      have hjP : j < PS.length := by rw [Hn.out]; exact hlt
      obtain ⟨e1, e2⟩ := hsz.out j hjp hjP
      have hcell := HC.out j (.string ps[j]) (by rw [List.getElem?_map, List.getElem?_eq_getElem hjp]; rfl)
      have HM := fun w => Lib.hid (made_any ps[j] ⟨#[95, 43, 45]⟩ 40 e2 w)
      have hsn := Lib.hid (all_snocP okPart PS j hjP)
      have hno := fun h => Lib.hid (all_noP (f := okPart) hjP h)
      have e3 : Src.madeB ps[j].data.toList 40 [95, 43, 45] = okPart PS[j] := by rw [e1]; rfl
      have HM : ∀ w, Hid (Rets Tryz.prog 28 #[.string ps[j], .int .i64 40, .string ⟨#[95, 43, 45]⟩] w (.bool (okPart PS[j]))) := fun w => by rw [← e3]; exact HM w
      generalize okPart PS[j] = q at *
      generalize ps[j] = p at *
      clear e1 e2 e3
      cases q
      · have E2 : Hid (R = false) := by show _ = _; rw [E.out, (hno rfl).out]; rfl
        clear E hsn hno
        go_wp2_with (go_at_call 28; refine Rets.use (HM _).out ?_; intro _)
        go_ret
        exact ⟨by rw [E2.out]; first | done | rfl, done⟩
      · have E2 : Hid ((PS.take (j + 1)).all okPart = true) := by show _ = _; rw [hsn.out, Ha.out]; rfl
        clear hsn hno
        go_wp2_with (go_at_call 28; refine Rets.use (HM _).out ?_; intro _)
        go_roundw
        case rel => exact ⟨j + 1, by omega, by go_num, E2, isext⟩
        case measure => simp [intOf]; omega
    · have hall : PS.all okPart = true := by
       have := Ha.out
       rwa [List.take_of_length_le (by rw [Hn.out]; omega)] at this
      have E2 : Hid (R = decide ((s.size : Int) ≤ 40)) := by show _ = _; rw [E.out, hall]; rfl
      clear E hall
      go_wp2
      go_ret
      exact ⟨by rw [E2.out]; first | done | rfl, done⟩
end Go.Proofs.YtdhbgelijjlifaaGreatDoor
namespace Go.Proofs.YtdhbgelijjlifaaGreatDoor
open Go.RowKit
theorem cutC_len (x : UInt8) : ∀ l : List UInt8, (Src.cutC x l).1.length ≤ l.length
 | [] => Nat.le_refl _
 | c :: l => by
   unfold Src.cutC
   have := cutC_len x l
   split
   · simp
   · simp; omega
theorem szB_at {B : List UInt8} {c : UInt8} {r : List UInt8} (h : B = c :: r) : Src.szB B = (c == 115 || c == 122) := by rw [h]; rfl
theorem u8_eq (c : UInt8) (n : Nat) (hn : n < 256) : (((c.toNat : Nat) : Int) == (n : Int)) = (c == UInt8.ofNat n) := by
 rw [Bool.eq_iff_iff, beq_iff_eq, beq_iff_eq, ← UInt8.toNat_inj, UInt8.toNat_ofNat']
 omega
set_option maxRecDepth 100000 in
set_option maxHeartbeats 4000000 in
theorem format_any (s : ByteArray) (hs : s.size ≤ maxLen) (w : World) (hM : MaxL w) : Rets Tryz.prog 72 #[.string s] w (.bool (Src.fmtB s.data.toList)) := by
 have HM := fun w => Lib.hid (made_any s ⟨#[43, 45, 37, 47]⟩ 20 hs w)
 have HM : ∀ w, Hid (Rets Tryz.prog 28 #[.string s, .int .i64 20, .string ⟨#[43, 45, 37, 47]⟩] w (.bool (Src.madeB s.data.toList 20 [43, 45, 37, 47]))) := HM
 have E : Hid (Src.fmtB s.data.toList = (Src.madeB s.data.toList 20 [43, 45, 37, 47] && Src.tailB s.data.toList)) := rfl
 have hlen : Src.madeB s.data.toList 20 [43, 45, 37, 47] = true → s.size ≤ 20 := fun h => by
  unfold Src.madeB at h
  simp only [Bool.and_eq_true, decide_eq_true_eq] at h
  have := h.2
  rw [size_of] at this; omega
 generalize Src.madeB s.data.toList 20 [43, 45, 37, 47] = m at *
 generalize Src.fmtB s.data.toList = R at *
 cases m
 · unfold Rets
   go_enter Tryz.func72, Tryz.ntmps72
   go_wp2_with (go_at_call 28; refine Rets.use (HM _).out ?_; intro _)
   go_ret
   exact ⟨by rw [E.out]; first | done | rfl, done⟩
 · have h20 := hlen rfl
   clear hlen
   have HC := fun w h => Lib.hid (scut_any s 37 w (by omega) h)
   have HS := fun w => Lib.hid (scontains_any s 47 w)
   unfold cutV at HC
   have hA := cutC_len 37 s.data.toList
   rw [size_of] at hA
   unfold Src.tailB at E
   generalize (Src.cutC 37 s.data.toList).1 = A at *
   generalize (Src.cutC 37 s.data.toList).2.1 = B at *
   generalize (Src.cutC 37 s.data.toList).2.2 = p at *
   generalize s.data.toList.contains 47 = k1 at *
   cases p
   · have HC2 := fun w h => Lib.hid (scut_any ⟨A.toArray⟩ 47 w (by simp [ByteArray.size]; omega) h)
     have HC2 : ∀ w, MaxL w → Hid (Rets Tryz.prog 77 #[.string ⟨A.toArray⟩, .string ⟨#[47]⟩] w (cutV 47 A)) := HC2
     unfold cutV at HC2
     have HR := fun w => Lib.hid (scontains_any ⟨(Src.cutC 47 A).2.1.toArray⟩ 47 w)
     have HR : ∀ w, Hid (Calls Tryz.prog 108 #[.string ⟨(Src.cutC 47 A).2.1.toArray⟩, .string ⟨#[47]⟩] w fun e w' => e = .returned (.bool ((Src.cutC 47 A).2.1.contains 47)) ∧ w = w') := HR
     have E2 : Hid (R = (!(Src.cutC 47 A).2.2 || (!(Src.cutC 47 A).1.isEmpty && !(Src.cutC 47 A).2.1.isEmpty && !(Src.cutC 47 A).2.1.contains 47))) := by
      show _ = _; rw [E.out]; simp
     clear E
     generalize (Src.cutC 47 A).1 = L at *
     generalize (Src.cutC 47 A).2.2 = q at *
     generalize (Src.cutC 47 A).2.1 = Rr at *
     generalize Rr.contains 47 = k3 at *
     have hL : (L = [] ∧ L.isEmpty = true) ∨ ((⟨L.toArray⟩ : ByteArray).toList.isEmpty = false ∧ L.isEmpty = false) := by
      cases L with
      | nil => exact .inl ⟨rfl, rfl⟩
      | cons c l => exact .inr ⟨by rw [Lib.toList_data]; rfl, rfl⟩
     have hR : (Rr = [] ∧ Rr.isEmpty = true) ∨ ((⟨Rr.toArray⟩ : ByteArray).toList.isEmpty = false ∧ Rr.isEmpty = false) := by
      cases Rr with
      | nil => exact .inl ⟨rfl, rfl⟩
      | cons c l => exact .inr ⟨by rw [Lib.toList_data]; rfl, rfl⟩
     unfold Rets
     cases q
     · have E3 : Hid (R = true) := E2.out
       clear E2 hL hR
       go_enter Tryz.func72, Tryz.ntmps72
       go_wp2_with (first | (go_at_call 28; refine Rets.use (HM _).out ?_; intro _) | (go_at_call_of 77 (Value.string s); refine Rets.use (HC _ (hM.ext isext)).out ?_; intro _) | (go_at_call 77; refine Rets.use (HC2 _ (hM.ext isext)).out ?_; intro _))
       go_ret
       exact ⟨by rw [E3.out]; first | done | rfl, done⟩
     · rcases hL with ⟨rfl, l2⟩ | ⟨l1, l2⟩
       · have E3 : Hid (R = false) := E2.out
         clear E2 hR
         go_enter Tryz.func72, Tryz.ntmps72
         go_wp2_with (first | (go_at_call 28; refine Rets.use (HM _).out ?_; intro _) | (go_at_call_of 77 (Value.string s); refine Rets.use (HC _ (hM.ext isext)).out ?_; intro _) | (go_at_call 77; refine Rets.use (HC2 _ (hM.ext isext)).out ?_; intro _))
         go_ret
         exact ⟨by rw [E3.out]; first | done | rfl, done⟩
       · rcases hR with ⟨rfl, r2⟩ | ⟨r1, r2⟩
         · have E3 : Hid (R = false) := by show _ = _; rw [E2.out]; simp
           clear E2
           go_enter Tryz.func72, Tryz.ntmps72
           go_wp2_with (first | (go_at_call 28; refine Rets.use (HM _).out ?_; intro _) | (go_at_call_of 77 (Value.string s); refine Rets.use (HC _ (hM.ext isext)).out ?_; intro _) | (go_at_call 77; refine Rets.use (HC2 _ (hM.ext isext)).out ?_; intro _))
           go_ret
           exact ⟨by rw [E3.out]; first | done | rfl, done⟩
         · have E3 : Hid (R = !k3) := by show _ = _; rw [E2.out, l2, r2]; rfl
           clear E2
           go_enter Tryz.func72, Tryz.ntmps72
           go_wp2_with (first | (go_at_call 28; refine Rets.use (HM _).out ?_; intro _) | (go_at_call_of 77 (Value.string s); refine Rets.use (HC _ (hM.ext isext)).out ?_; intro _) | (go_at_call 77; refine Rets.use (HC2 _ (hM.ext isext)).out ?_; intro _) | (go_at_call 108; refine (HR _).out.mono ?_; rintro e w' ⟨rfl, rfl⟩))
           go_ret
           exact ⟨by rw [E3.out]; first | done | rfl, done⟩
   · have HB := fun w => Lib.hid (scontains_any ⟨B.toArray⟩ 37 w)
     have HB : ∀ w, Hid (Calls Tryz.prog 108 #[.string ⟨B.toArray⟩, .string ⟨#[37]⟩] w fun e w' => e = .returned (.bool (B.contains 37)) ∧ w = w') := HB
     have E2 : Hid (R = (!k1 && !B.contains 37 && Src.szB B)) := by show _ = _; rw [E.out]; simp
     clear E
     have hB : (B = []) ∨ ∃ hz : 0 < (⟨B.toArray⟩ : ByteArray).size, (⟨B.toArray⟩ : ByteArray).toList.isEmpty = false ∧ Src.szB B = (((((⟨B.toArray⟩ : ByteArray)[0].toNat : Nat) : Int) == 115) || ((((⟨B.toArray⟩ : ByteArray)[0].toNat : Nat) : Int) == 122)) := by
      cases B with
      | nil => exact .inl rfl
      | cons c l =>
        right
        obtain ⟨hz, e0⟩ := at_zero (s := ⟨(c :: l).toArray⟩) (c := c) (r := l) rfl
        refine ⟨hz, by rw [Lib.toList_data]; rfl, ?_⟩
        rw [e0, szB_at rfl]
        have h1 : (((c.toNat : Nat) : Int) == 115) = (c == 115) := u8_eq c 115 (by omega)
        have h2 : (((c.toNat : Nat) : Int) == 122) = (c == 122) := u8_eq c 122 (by omega)
        rw [h1, h2]
     generalize B.contains 37 = k2 at *
     unfold Rets
     cases k1
     · cases k2
       · rcases hB with rfl | ⟨hz, b1, b2⟩
         · have E3 : Hid (R = false) := E2.out
           clear E2
           go_enter Tryz.func72, Tryz.ntmps72
           go_wp2_with (first | (go_at_call 28; refine Rets.use (HM _).out ?_; intro _) | (go_at_call 77; refine Rets.use (HC _ (hM.ext isext)).out ?_; intro _) | (go_at_call_of 108 (Value.string s); refine (HS _).out.mono ?_; rintro e w' ⟨rfl, rfl⟩) | (go_at_call 108; refine (HB _).out.mono ?_; rintro e w' ⟨rfl, rfl⟩))
           go_ret
           exact ⟨by rw [E3.out]; first | done | rfl, done⟩
         · have E3 : Hid (R = (((((⟨B.toArray⟩ : ByteArray)[0].toNat : Nat) : Int) == 115) || ((((⟨B.toArray⟩ : ByteArray)[0].toNat : Nat) : Int) == 122))) := by show _ = _; rw [E2.out, b2]; rfl
           clear E2 b2
           generalize (⟨B.toArray⟩ : ByteArray) = BA at *
           cases x1 : (((BA[0].toNat : Nat) : Int) == 115)
           all_goals
            rw [x1] at E3
            go_enter Tryz.func72, Tryz.ntmps72
            go_wp2_with (first | (go_at_call 28; refine Rets.use (HM _).out ?_; intro _) | (go_at_call 77; refine Rets.use (HC _ (hM.ext isext)).out ?_; intro _) | (go_at_call_of 108 (Value.string s); refine (HS _).out.mono ?_; rintro e w' ⟨rfl, rfl⟩) | (go_at_call 108; refine (HB _).out.mono ?_; rintro e w' ⟨rfl, rfl⟩))
            go_ret
            exact ⟨by rw [E3.out]; first | done | rfl | simp, done⟩
       · have E3 : Hid (R = false) := E2.out
         clear E2 hB
         go_enter Tryz.func72, Tryz.ntmps72
         go_wp2_with (first | (go_at_call 28; refine Rets.use (HM _).out ?_; intro _) | (go_at_call 77; refine Rets.use (HC _ (hM.ext isext)).out ?_; intro _) | (go_at_call_of 108 (Value.string s); refine (HS _).out.mono ?_; rintro e w' ⟨rfl, rfl⟩) | (go_at_call 108; refine (HB _).out.mono ?_; rintro e w' ⟨rfl, rfl⟩))
         go_ret
         exact ⟨by rw [E3.out]; first | done | rfl, done⟩
     · have E3 : Hid (R = false) := E2.out
       clear E2 hB
       go_enter Tryz.func72, Tryz.ntmps72
       go_wp2_with (first | (go_at_call 28; refine Rets.use (HM _).out ?_; intro _) | (go_at_call 77; refine Rets.use (HC _ (hM.ext isext)).out ?_; intro _) | (go_at_call_of 108 (Value.string s); refine (HS _).out.mono ?_; rintro e w' ⟨rfl, rfl⟩) | (go_at_call 108; refine (HB _).out.mono ?_; rintro e w' ⟨rfl, rfl⟩))
       go_ret
       exact ⟨by rw [E3.out]; first | done | rfl, done⟩
end Go.Proofs.YtdhbgelijjlifaaGreatDoor
