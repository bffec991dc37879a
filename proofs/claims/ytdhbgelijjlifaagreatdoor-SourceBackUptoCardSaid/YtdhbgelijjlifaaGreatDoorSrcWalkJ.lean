/- Walks of sources: which eras may be. -/
import Derived.Test.YtdhbgelijjlifaaGreatDoorSrcWalkD
import Derived.Test.YtdhbgelijjlifaaGreatDoorSrcWalkC
set_option linter.unusedVariables false
set_option linter.unusedSimpArgs false
namespace Go.Proofs.YtdhbgelijjlifaaGreatDoor
open Go.RowKit
end Go.Proofs.YtdhbgelijjlifaaGreatDoor
namespace Go.Proofs.YtdhbgelijjlifaaGreatDoor
open Go.RowKit
end Go.Proofs.YtdhbgelijjlifaaGreatDoor
namespace Go.Proofs.YtdhbgelijjlifaaGreatDoor
open Go.RowKit
theorem other_cases (c d : UInt8) (n : Int) (hd : (d.toNat : Int) = n) : (((c.toNat : Int) != n) = false ∧ ((c.toNat : Int) == n) = true ∧ (c == d) = true) ∨ (((c.toNat : Int) != n) = true ∧ ((c.toNat : Int) == n) = false ∧ (c == d) = false) := by
 by_cases h : c = d
 · subst h; left; subst hd; simp
 · right
   have h2 : ((c.toNat : Int) == n) = false := by
    rw [beq_eq_false_iff_ne]; intro e; exact h (UInt8.toNat_inj.1 (by omega))
   exact ⟨by unfold bne; rw [h2]; rfl, h2, beq_eq_false_iff_ne.2 h⟩
def rokS (c : UInt8) : Bool := Src.letB c || Src.digB c || c == 95 || c == 45
set_option maxRecDepth 100000 in
set_option maxHeartbeats 4000000 in
theorem dset_any (s : ByteArray) (hs : s.size ≤ maxLen) (w : World) : Rets Tryz.prog 13 #[.string s] w (.bool (Src.setB s.data.toList)) := by
 rw [← Src.set_same]
 have E : Hid (Src.rsetB s.data.toList = (decide (s.size ≤ 20) && Src.headB s.data.toList && s.data.toList.all rokS)) := by
  show _ = _; unfold Src.rsetB; rw [size_of]; rfl
 generalize Src.rsetB s.data.toList = R at *
 unfold maxLen at hs
 cases hl : s.data.toList with
 | nil =>
   obtain rfl := str_nil hl
   have E2 : Hid (R = false) := E.out
   clear E
   unfold Rets
   go_enter Tryz.func13, Tryz.ntmps13
   go_wp2
   go_ret
   exact ⟨by rw [E2.out]; first | done | rfl, done⟩
 | cons c r =>
   obtain ⟨hz, e0⟩ := at_zero hl
   have hz1 : decide ((s.size : Int) < 1) = false := decide_eq_false (by omega)
   have HL := fun (c : UInt8) w => Lib.hid (dletter_any c w)
   have HD := fun (c : UInt8) w => Lib.hid (ddigit_any c w)
   have hh : Src.headB s.data.toList = (!Src.digB s[0] && !(s[0] == 45)) := by rw [hl, e0]; rfl
   rw [hh] at E
   have HD0 := HD s[0]
   have h45 := other_cases s[0] 45 45 rfl
   clear hl e0 hh
   unfold Rets
   by_cases h20 : 20 < s.size
   · have h20' : (20 : Int) < s.size := by omega
     have E2 : Hid (R = false) := by show _ = _; rw [E.out, show decide (s.size ≤ 20) = false from decide_eq_false (by omega)]; rfl
     clear E h45
     go_enter Tryz.func13, Tryz.ntmps13
     go_wp2
     go_ret
     exact ⟨by rw [E2.out]; first | done | rfl, done⟩
   · have h20' : decide ((20 : Int) < s.size) = false := decide_eq_false (by omega)
     have E1 : Hid (R = ((!Src.digB s[0] && !(s[0] == 45)) && s.data.toList.all rokS)) := by show _ = _; rw [E.out, show decide (s.size ≤ 20) = true from decide_eq_true (by omega)]; rfl
     clear E
     cases hd : Src.digB s[0]
     · rw [hd] at HD0 E1
       rcases h45 with ⟨a1, a2, a3⟩ | ⟨a1, a2, a3⟩
       · have E2 : Hid (R = false) := by show _ = _; rw [E1.out, a3]; rfl
         clear E1 hd a3
         go_enter Tryz.func13, Tryz.ntmps13
         go_wp2_with (go_at_call 30; refine Rets.use (HD0 _).out ?_; intro _)
         go_ret
         exact ⟨by rw [E2.out]; first | done | rfl, done⟩
       · have E2 : Hid (R = s.data.toList.all rokS) := by show _ = _; rw [E1.out, a3]; rfl
         clear E1 hd a3
         go_enter Tryz.func13, Tryz.ntmps13
         go_wp2_with (go_at_call 30; refine Rets.use (HD0 _).out ?_; intro y0)
         go_loopw [3] (fun iv wr => ∃ j : Nat, j ≤ s.size ∧ iv = .int .i64 j ∧ Hid ((s.data.toList.take j).all rokS = true) ∧ Ext w wr) (fun iv _ => s.size - (intOf iv).toNat)
         case atStart => exact ⟨0, by omega, rfl, rfl, isext⟩
         case round =>
          obtain ⟨j, j1, rfl, Ha, hx⟩ := hrel
          obtain ⟨yr, rfl⟩ := fin hx
          clear hx
          by_cases hlt : j < s.size
          · have hsn := Lib.hid (Src.all_snoc rokS s j hlt)
            have hno := fun h => Lib.hid (Src.all_no (f := rokS) hlt h)
            have hk : Hid (rokS s[j] = (Src.letB s[j] || Src.digB s[j] || s[j] == 95 || s[j] == 45)) := rfl
            have q1 := other_cases s[j] 95 95 rfl
            have q2 := other_cases s[j] 45 45 rfl
            have HLj := HL s[j]
            have HDj := HD s[j]
            have h256 : s[j].toNat < 256 := s[j].toNat_lt
            generalize rokS s[j] = ok at *
            generalize Src.letB s[j] = bl at *
            generalize Src.digB s[j] = bd at *
            generalize (s[j] == 95) = b1 at *
            generalize (s[j] == 45) = b2 at *
            clear HL HD HD0
            rcases q1 with ⟨p1, p2, rfl⟩ | ⟨p1, p2, rfl⟩ <;> rcases q2 with ⟨p3, p4, rfl⟩ | ⟨p3, p4, rfl⟩ <;> cases bl <;> cases bd
            all_goals first
             | (have E3 : Hid ((s.data.toList.take (j + 1)).all rokS = true) := by
                 show _ = _
                 rw [hsn.out, Ha.out, hk.out]; rfl
                clear hsn hno hk
                go_wp2_with (first | (go_at_call 31; refine Rets.use1 (HLj _).out ?_; intro _) | (go_at_call 30; refine Rets.use1 (HDj _).out ?_; intro _))
                go_roundw
                case rel => exact ⟨j + 1, by omega, by go_num, E3, isext⟩
                case measure => simp [intOf]; omega)
             | (have E3 : Hid (R = false) := by
                 show _ = _
                 rw [E2.out, (hno (by rw [hk.out]; rfl)).out]
                clear hsn hno hk
                go_wp2_with (first | (go_at_call 31; refine Rets.use1 (HLj _).out ?_; intro _) | (go_at_call 30; refine Rets.use1 (HDj _).out ?_; intro _))
                go_ret
                exact ⟨by rw [E3.out]; first | done | rfl, done⟩)
          · have E3 : Hid (R = true) := by
             have := Ha.out
             rw [List.take_of_length_le (by rw [size_of]; omega)] at this
             exact E2.out.trans this
            clear E2 Ha
            go_wp2
            go_ret
            exact ⟨by rw [E3.out]; first | done | rfl, done⟩
     · rw [hd] at HD0 E1
       have E2 : Hid (R = false) := E1.out
       clear E1 hd h45
       go_enter Tryz.func13, Tryz.ntmps13
       go_wp2_with (go_at_call 30; refine Rets.use (HD0 _).out ?_; intro _)
       go_ret
       exact ⟨by rw [E2.out]; first | done | rfl, done⟩
end Go.Proofs.YtdhbgelijjlifaaGreatDoor
namespace Go.Proofs.YtdhbgelijjlifaaGreatDoor
open Go.RowKit
theorem drop_byte (s : ByteArray) (k : Nat) (h : k < s.size) : s.data.toList.drop k = s[k] :: s.data.toList.drop (k + 1) := by
 rw [List.drop_eq_getElem_cons (by rw [size_of]; exact h)]; rfl
theorem drop_none (s : ByteArray) (k : Nat) (h : s.size ≤ k) : s.data.toList.drop k = [] := List.drop_eq_nil_of_le (by rw [size_of]; exact h)
theorem okP_eq (c : UInt8) : Src.okP c = (Src.letB c || Src.digB c || c == 95 || c == 43 || c == 45) := by
 unfold Src.okP Src.okB; simp [List.contains, List.elem, Bool.or_assoc]
 cases c == 95 <;> cases c == 43 <;> cases c == 45 <;> simp
theorem placeD_cons (k : Nat) (c : UInt8) (l : List UInt8) : Src.placeD k (c :: l) = if c = 47 then (if k = 0 then false else Src.placeD 0 l) else if Src.okP c = true then Src.placeD (k + 1) l else false := by
 rw [Src.placeD]
set_option maxRecDepth 100000 in
set_option maxHeartbeats 8000000 in
theorem dplace_any (s : ByteArray) (hs : s.size ≤ maxLen) (w : World) : Rets Tryz.prog 15 #[.string s] w (.bool (Src.placeB s.data.toList)) := by
 rw [← Src.place_same]
 have E : Hid (Src.rplaceB s.data.toList = (Src.placeD 0 s.data.toList && decide (s.size ≤ 40))) := by
  show _ = _; unfold Src.rplaceB; rw [size_of]
 generalize Src.rplaceB s.data.toList = R at *
 unfold maxLen at hs
 have HL := fun (c : UInt8) w => Lib.hid (dletter_any c w)
 have HD := fun (c : UInt8) w => Lib.hid (ddigit_any c w)
 unfold Rets
 go_enter Tryz.func15, Tryz.ntmps15
 go_wp2_with fail
 go_loopw [3, 4] (fun pv iv wr => ∃ j k : Nat, j ≤ s.size ∧ k ≤ j ∧ iv = .int .i64 j ∧ pv = .int .i64 k ∧ Hid (Src.placeD 0 s.data.toList = Src.placeD k (s.data.toList.drop j)) ∧ Ext w wr) (fun _ iv _ => s.size - (intOf iv).toNat)
 case atStart => exact ⟨0, 0, by omega, by omega, rfl, rfl, rfl, isext⟩
 case round =>
  obtain ⟨j, k, j1, k1, rfl, rfl, Ha, hx⟩ := hrel
  obtain ⟨yr, rfl⟩ := fin hx
  clear hx
  by_cases hlt : j < s.size
  · have hd := Lib.hid (drop_byte s j hlt)
    have hk : Hid (Src.okP s[j] = (Src.letB s[j] || Src.digB s[j] || s[j] == 95 || s[j] == 43 || s[j] == 45)) := okP_eq s[j]
    have q0 := other_cases s[j] 47 47 rfl
    have q1 := other_cases s[j] 95 95 rfl
    have q2 := other_cases s[j] 43 43 rfl
    have q3 := other_cases s[j] 45 45 rfl
    have HLj := HL s[j]
    have HDj := HD s[j]
    have h256 : s[j].toNat < 256 := s[j].toNat_lt
    have hs47 : (s[j] == 47) = true → s[j] = 47 := fun h => by simpa using h
    have hn47 : (s[j] == 47) = false → s[j] ≠ 47 := fun h => by simpa using h
    rcases q0 with ⟨p1, p2, p3⟩ | ⟨p1, p2, p3⟩
    · have hc := hs47 p3
      have E1 : Hid (Src.placeD 0 s.data.toList = if k = 0 then false else Src.placeD 0 (s.data.toList.drop (j + 1))) := by
       show _ = _; rw [Ha.out, hd.out, placeD_cons, if_pos hc]
      clear hc hs47 hn47 Ha hd hk q1 q2 q3 p3
      by_cases k0 : k = 0
      · have E2 : Hid (R = false) := by show _ = _; rw [E.out, E1.out, if_pos k0]; rfl
        subst k0
        clear E E1
        go_wp2
        go_ret
        exact ⟨by rw [E2.out]; first | done | rfl, done⟩
      · have E2 : Hid (Src.placeD 0 s.data.toList = Src.placeD 0 (s.data.toList.drop (j + 1))) := by show _ = _; rw [E1.out, if_neg k0]
        have g0 : ((k : Int) == 0) = false := beq_eq_false_iff_ne.2 (by omega)
        clear E1
        go_wp2
        go_roundw
        case rel => exact ⟨j + 1, 0, by omega, by omega, by go_num, rfl, E2, isext⟩
        case measure => simp [intOf]; omega
    · have hc := hn47 p3
      have E1 : Hid (Src.placeD 0 s.data.toList = if Src.okP s[j] = true then Src.placeD (k + 1) (s.data.toList.drop (j + 1)) else false) := by
       show _ = _; rw [Ha.out, hd.out, placeD_cons, if_neg hc]
      clear hc hs47 hn47 Ha hd p3
      generalize Src.okP s[j] = ok at *
      generalize Src.letB s[j] = bl at *
      generalize Src.digB s[j] = bd at *
      generalize (s[j] == 95) = b1 at *
      generalize (s[j] == 43) = b2 at *
      generalize (s[j] == 45) = b3 at *
      clear HL HD
      rcases q1 with ⟨r1, r2, rfl⟩ | ⟨r1, r2, rfl⟩ <;> rcases q2 with ⟨r3, r4, rfl⟩ | ⟨r3, r4, rfl⟩ <;> rcases q3 with ⟨r5, r6, rfl⟩ | ⟨r5, r6, rfl⟩ <;> cases bl <;> cases bd
      all_goals first
       | (have E3 : Hid (Src.placeD 0 s.data.toList = Src.placeD (k + 1) (s.data.toList.drop (j + 1))) := by
           show _ = _
           rw [E1.out, hk.out]; exact if_pos rfl
          clear E1 hk
          go_wp2_with (first | (go_at_call 31; refine Rets.use1 (HLj _).out ?_; intro _) | (go_at_call 30; refine Rets.use1 (HDj _).out ?_; intro _))
          go_roundw
          case rel => exact ⟨j + 1, k + 1, by omega, by omega, by go_num, by go_num, E3, isext⟩
          case measure => simp [intOf]; omega)
       | (have E3 : Hid (R = false) := by
           show _ = _
           rw [E.out, E1.out, hk.out, if_neg (by decide)]; rfl
          clear E E1 hk
          go_wp2_with (first | (go_at_call 31; refine Rets.use1 (HLj _).out ?_; intro _) | (go_at_call 30; refine Rets.use1 (HDj _).out ?_; intro _))
          go_ret
          exact ⟨by rw [E3.out]; first | done | rfl, done⟩)
  · have E2 : Hid (R = (decide (0 < k) && decide (s.size ≤ 40))) := by
     show _ = _
     rw [E.out, Ha.out, drop_none s j (by omega)]; rfl
    clear E Ha
    by_cases k0 : 0 < k
    · have g0 : (0 : Int) < k := by omega
      have E3 : Hid (R = decide ((s.size : Int) ≤ 40)) := by
       show _ = _
       rw [E2.out, decide_eq_true k0, Bool.true_and]; congr 1; apply propext; omega
      clear E2
      go_wp2
      go_ret
      exact ⟨by rw [E3.out]; first | done | rfl, done⟩
    · have g0 : decide ((0 : Int) < k) = false := decide_eq_false (by omega)
      have g1 : decide (0 < k) = false := decide_eq_false k0
      have E3 : Hid (R = false) := by show _ = _; rw [E2.out, g1]; rfl
      clear E2
      go_wp2
      go_ret
      exact ⟨by rw [E3.out]; first | done | rfl, done⟩
set_option maxRecDepth 100000 in
set_option maxHeartbeats 8000000 in
theorem dletters_any (s : ByteArray) (hs : s.size ≤ maxLen) (w : World) : Rets Tryz.prog 74 #[.string s] w (.bool (Src.madeB s.data.toList 8 [43, 45])) := by
 rw [← Src.letters_same]
 have E : Hid (Src.rlettersB s.data.toList = (s.data.toList.all Src.plainB && decide (1 ≤ s.size) && decide (s.size ≤ 8))) := by
  show _ = _; unfold Src.rlettersB; rw [size_of]
 generalize Src.rlettersB s.data.toList = R at *
 unfold maxLen at hs
 have HL := fun (c : UInt8) w => Lib.hid (dletter_any c w)
 have HD := fun (c : UInt8) w => Lib.hid (ddigit_any c w)
 unfold Rets
 go_enter Tryz.func74, Tryz.ntmps74
 go_wp2_with fail
 go_loopw [3] (fun iv wr => ∃ j : Nat, j ≤ s.size ∧ iv = .int .i64 j ∧ Hid ((s.data.toList.take j).all Src.plainB = true) ∧ Ext w wr) (fun iv _ => s.size - (intOf iv).toNat)
 case atStart => exact ⟨0, by omega, rfl, rfl, isext⟩
 case round =>
  obtain ⟨j, j1, rfl, Ha, hx⟩ := hrel
  obtain ⟨yr, rfl⟩ := fin hx
  clear hx
  by_cases hlt : j < s.size
  · have hsn := Lib.hid (Src.all_snoc Src.plainB s j hlt)
    have hno := fun h => Lib.hid (Src.all_no (f := Src.plainB) hlt h)
    have hk : Hid (Src.plainB s[j] = (Src.letB s[j] || Src.digB s[j] || s[j] == 43 || s[j] == 45)) := rfl
    have q1 := other_cases s[j] 43 43 rfl
    have q2 := other_cases s[j] 45 45 rfl
    have HLj := HL s[j]
    have HDj := HD s[j]
    have h256 : s[j].toNat < 256 := s[j].toNat_lt
    generalize Src.plainB s[j] = ok at *
    generalize Src.letB s[j] = bl at *
    generalize Src.digB s[j] = bd at *
    generalize (s[j] == 43) = b1 at *
    generalize (s[j] == 45) = b2 at *
    clear HL HD
    rcases q1 with ⟨p1, p2, rfl⟩ | ⟨p1, p2, rfl⟩ <;> rcases q2 with ⟨p3, p4, rfl⟩ | ⟨p3, p4, rfl⟩ <;> cases bl <;> cases bd
    all_goals first
     | (have E3 : Hid ((s.data.toList.take (j + 1)).all Src.plainB = true) := by
         show _ = _
         rw [hsn.out, Ha.out, hk.out]; rfl
        clear hsn hno hk
        go_wp2_with (first | (go_at_call 31; refine Rets.use1 (HLj _).out ?_; intro _) | (go_at_call 30; refine Rets.use1 (HDj _).out ?_; intro _))
        go_roundw
        case rel => exact ⟨j + 1, by omega, by go_num, E3, isext⟩
        case measure => simp [intOf]; omega)
     | (have E3 : Hid (R = false) := by
         show _ = _
         rw [E.out, (hno (by rw [hk.out]; rfl)).out]; rfl
        clear hsn hno hk E
        go_wp2_with (first | (go_at_call 31; refine Rets.use1 (HLj _).out ?_; intro _) | (go_at_call 30; refine Rets.use1 (HDj _).out ?_; intro _))
        go_ret
        exact ⟨by rw [E3.out]; first | done | rfl, done⟩)
  · have E2 : Hid (R = (decide (1 ≤ s.size) && decide (s.size ≤ 8))) := by
     have := Ha.out
     rw [List.take_of_length_le (by rw [size_of]; omega)] at this
     show _ = _
     rw [E.out, this]; rfl
    clear E Ha
    by_cases k0 : 1 ≤ s.size
    · have g0 : (1 : Int) ≤ s.size := by omega
      have E3 : Hid (R = decide ((s.size : Int) ≤ 8)) := by
       show _ = _
       rw [E2.out, decide_eq_true k0, Bool.true_and]; congr 1; apply propext; omega
      clear E2
      go_wp2
      go_ret
      exact ⟨by rw [E3.out]; first | done | rfl, done⟩
    · have g0 : decide ((1 : Int) ≤ s.size) = false := decide_eq_false (by omega)
      have g1 : decide (1 ≤ s.size) = false := decide_eq_false k0
      have E3 : Hid (R = false) := by show _ = _; rw [E2.out, g1]; rfl
      clear E2
      go_wp2
      go_ret
      exact ⟨by rw [E3.out]; first | done | rfl, done⟩
end Go.Proofs.YtdhbgelijjlifaaGreatDoor
namespace Go.Proofs.YtdhbgelijjlifaaGreatDoor
open Go.RowKit
theorem fmtD_cons (f : Bool) (k : Nat) (c : UInt8) (r : List UInt8) : Src.fmtD f k (c :: r) = if c = 37 then Src.szB r && Src.fmtD false (k + 1) r else if c = 47 then !f && !r.isEmpty && Src.fmtD false (k + 1) r else Src.plainB c && Src.fmtD false k r := by
 rw [Src.fmtD]
theorem drop_emp (s : ByteArray) (k : Nat) : (s.data.toList.drop k).isEmpty = decide (s.size ≤ k) := by
 rw [Bool.eq_iff_iff, List.isEmpty_iff, decide_eq_true_eq, List.drop_eq_nil_iff, size_of]
theorem sz_at (s : ByteArray) (k : Nat) (h : k < s.size) : Src.szB (s.data.toList.drop k) = (s[k] == 115 || s[k] == 122) := by rw [drop_byte s k h]; rfl
set_option maxRecDepth 100000 in
set_option maxHeartbeats 8000000 in
theorem dformat_any (s : ByteArray) (hs : s.size ≤ maxLen) (w : World) : Rets Tryz.prog 91 #[.string s] w (.bool (Src.fmtB s.data.toList)) := by
 rw [← Src.fmt_same]
 have E : Hid (Src.rfmtB s.data.toList = (Src.fmtD true 0 s.data.toList && !decide (s.size ≤ 0) && decide (s.size ≤ 20))) := by
  show _ = _; unfold Src.rfmtB; rw [size_of, ← drop_emp s 0, List.drop_zero]
 generalize Src.rfmtB s.data.toList = R at *
 unfold maxLen at hs
 have HL := fun (c : UInt8) w => Lib.hid (dletter_any c w)
 have HD := fun (c : UInt8) w => Lib.hid (ddigit_any c w)
 unfold Rets
 go_enter Tryz.func91, Tryz.ntmps91
 go_wp2_with fail
 go_loopw [3, 4, 5] (fun pv qv iv wr => ∃ j p q : Nat, j ≤ s.size ∧ p + q ≤ j ∧ iv = .int .i64 j ∧ pv = .int .i64 p ∧ qv = .int .i64 q ∧ Hid (Src.fmtD true 0 s.data.toList = Src.fmtD (decide (j = 0)) (p + q) (s.data.toList.drop j)) ∧ Ext w wr) (fun _ _ iv _ => s.size - (intOf iv).toNat)
 case atStart => exact ⟨0, 0, 0, by omega, by omega, rfl, rfl, rfl, rfl, isext⟩
 case round =>
  obtain ⟨j, p, q, j1, k1, rfl, rfl, rfl, Ha, hx⟩ := hrel
  obtain ⟨yr, rfl⟩ := fin hx
  clear hx
  by_cases hlt : j < s.size
  · have hd := Lib.hid (drop_byte s j hlt)
    have hem := Lib.hid (drop_emp s (j + 1))
    have hsz := fun h => Lib.hid (sz_at s (j + 1) h)
    have hk : Hid (Src.plainB s[j] = (Src.letB s[j] || Src.digB s[j] || s[j] == 43 || s[j] == 45)) := rfl
    have q0 := other_cases s[j] 37 37 rfl
    have q1 := other_cases s[j] 47 47 rfl
    have q2 := other_cases s[j] 43 43 rfl
    have q3 := other_cases s[j] 45 45 rfl
    have HLj := HL s[j]
    have HDj := HD s[j]
    have h256 : s[j].toNat < 256 := s[j].toNat_lt
    have hs37 : (s[j] == 37) = true → s[j] = 37 := fun h => by simpa using h
    have hn37 : (s[j] == 37) = false → s[j] ≠ 37 := fun h => by simpa using h
    have hs47 : (s[j] == 47) = true → s[j] = 47 := fun h => by simpa using h
    have hn47 : (s[j] == 47) = false → s[j] ≠ 47 := fun h => by simpa using h
    clear HL HD
    rcases q0 with ⟨p1, p2, p3⟩ | ⟨p1, p2, p3⟩
    · have hc := hs37 p3
      have E1 : Hid (Src.fmtD true 0 s.data.toList = (Src.szB (s.data.toList.drop (j + 1)) && Src.fmtD false (p + q + 1) (s.data.toList.drop (j + 1)))) := by
       show _ = _; rw [Ha.out, hd.out, fmtD_cons, if_pos hc]
      clear hc hs37 hn37 hs47 hn47 Ha hd hk q1 q2 q3 p3 hem
      by_cases hn : j + 1 < s.size
      · have E2 : Hid (Src.fmtD true 0 s.data.toList = ((s[j + 1] == 115 || s[j + 1] == 122) && Src.fmtD false (p + q + 1) (s.data.toList.drop (j + 1)))) := by
         show _ = _; rw [E1.out, (hsz hn).out]
        have r1 := other_cases s[j + 1] 115 115 rfl
        have r2 := other_cases s[j + 1] 122 122 rfl
        have g0 : decide ((s.size : Int) ≤ (j : Int) + 1) = false := decide_eq_false (by omega)
        generalize (s[j + 1] == 115) = b1 at *
        generalize (s[j + 1] == 122) = b2 at *
        clear E1 hsz
        rcases r1 with ⟨r1, r2', rfl⟩ | ⟨r1, r2', rfl⟩ <;> rcases r2 with ⟨r3, r4, rfl⟩ | ⟨r3, r4, rfl⟩
        all_goals first
         | (have E3 : Hid (Src.fmtD true 0 s.data.toList = Src.fmtD (decide (j + 1 = 0)) (p + 1 + q) (s.data.toList.drop (j + 1))) := by
             show _ = _
             rw [E2.out, show decide (j + 1 = 0) = false from decide_eq_false (by omega), show p + 1 + q = p + q + 1 by omega]
             exact Bool.true_and _
            clear E2
            go_wp2
            go_roundw
            case rel => exact ⟨j + 1, p + 1, q, by omega, by omega, by go_num, by go_num, rfl, E3, isext⟩
            case measure => simp [intOf]; omega)
         | (have E3 : Hid (R = false) := by
             show _ = _
             rw [E.out, E2.out]; exact rfl
            clear E E2
            go_wp2
            go_ret
            exact ⟨by rw [E3.out]; first | done | rfl, done⟩)
      · have hnil := drop_none s (j + 1) (by omega)
        have E2 : Hid (R = false) := by show _ = _; rw [E.out, E1.out, hnil]; rfl
        have g0 : (s.size : Int) ≤ (j : Int) + 1 := by omega
        have g1 : s.size ≤ j + 1 := by omega
        clear E E1 hsz hnil
        go_wp2
        go_ret
        exact ⟨by rw [E2.out]; first | done | rfl, done⟩
    · have hc := hn37 p3
      rcases q1 with ⟨p4, p5, p6⟩ | ⟨p4, p5, p6⟩
      · have hc2 := hs47 p6
        have E1 : Hid (Src.fmtD true 0 s.data.toList = (!decide (j = 0) && !decide (s.size ≤ j + 1) && Src.fmtD false (p + q + 1) (s.data.toList.drop (j + 1)))) := by
         show _ = _; rw [Ha.out, hd.out, fmtD_cons, if_neg hc, if_pos hc2, hem.out]
        clear hc hc2 hs37 hn37 hs47 hn47 Ha hd hk q2 q3 p3 p6 hem hsz
        by_cases j0 : j = 0
        · have E2 : Hid (R = false) := by show _ = _; rw [E.out, E1.out, decide_eq_true j0]; rfl
          subst j0
          clear E E1
          go_wp2
          go_ret
          exact ⟨by rw [E2.out]; first | done | rfl, done⟩
        · have g0 : ((j : Int) == 0) = false := beq_eq_false_iff_ne.2 (by omega)
          by_cases hn : j + 1 < s.size
          · have g1 : ((j : Int) == (s.size : Int) - 1) = false := beq_eq_false_iff_ne.2 (by omega)
            have E2 : Hid (Src.fmtD true 0 s.data.toList = Src.fmtD (decide (j + 1 = 0)) (p + (q + 1)) (s.data.toList.drop (j + 1))) := by
             show _ = _
             rw [E1.out, decide_eq_false j0, show decide (s.size ≤ j + 1) = false from decide_eq_false (by omega), show decide (j + 1 = 0) = false from decide_eq_false (by omega), show p + (q + 1) = p + q + 1 by omega]
             exact Bool.true_and _
            clear E1
            go_wp2
            go_roundw
            case rel => exact ⟨j + 1, p, q + 1, by omega, by omega, by go_num, rfl, by go_num, E2, isext⟩
            case measure => simp [intOf]; omega
          · have g1 : ((j : Int) == (s.size : Int) - 1) = true := beq_iff_eq.2 (by omega)
            have E2 : Hid (R = false) := by
             show _ = _
             rw [E.out, E1.out, show decide (s.size ≤ j + 1) = true from decide_eq_true (by omega)]; simp
            clear E E1
            go_wp2
            go_ret
            exact ⟨by rw [E2.out]; first | done | rfl, done⟩
      · have hc2 := hn47 p6
        have E1 : Hid (Src.fmtD true 0 s.data.toList = (Src.plainB s[j] && Src.fmtD false (p + q) (s.data.toList.drop (j + 1)))) := by
         show _ = _; rw [Ha.out, hd.out, fmtD_cons, if_neg hc, if_neg hc2]
        clear hc hc2 hs37 hn37 hs47 hn47 Ha hd p3 p6 hem hsz
        generalize Src.plainB s[j] = ok at *
        generalize Src.letB s[j] = bl at *
        generalize Src.digB s[j] = bd at *
        generalize (s[j] == 43) = b1 at *
        generalize (s[j] == 45) = b2 at *
        rcases q2 with ⟨r1, r2, rfl⟩ | ⟨r1, r2, rfl⟩ <;> rcases q3 with ⟨r3, r4, rfl⟩ | ⟨r3, r4, rfl⟩ <;> cases bl <;> cases bd
        all_goals first
         | (have E3 : Hid (Src.fmtD true 0 s.data.toList = Src.fmtD (decide (j + 1 = 0)) (p + q) (s.data.toList.drop (j + 1))) := by
             show _ = _
             rw [E1.out, hk.out, show decide (j + 1 = 0) = false from decide_eq_false (by omega)]
             exact Bool.true_and _
            clear E1 hk
            go_wp2_with (first | (go_at_call 31; refine Rets.use1 (HLj _).out ?_; intro _) | (go_at_call 30; refine Rets.use1 (HDj _).out ?_; intro _))
            go_roundw
            case rel => exact ⟨j + 1, p, q, by omega, by omega, by go_num, rfl, rfl, E3, isext⟩
            case measure => simp [intOf]; omega)
         | (have E3 : Hid (R = false) := by
             show _ = _
             rw [E.out, E1.out, hk.out]; exact rfl
            clear E E1 hk
            go_wp2_with (first | (go_at_call 31; refine Rets.use1 (HLj _).out ?_; intro _) | (go_at_call 30; refine Rets.use1 (HDj _).out ?_; intro _))
            go_ret
            exact ⟨by rw [E3.out]; first | done | rfl, done⟩)
  · have E2 : Hid (R = (decide (p + q ≤ 1) && !decide (s.size ≤ 0) && decide (s.size ≤ 20))) := by
     show _ = _
     rw [E.out, Ha.out, drop_none s j (by omega)]; rfl
    have hpq : (p : Int) + q ≤ s.size := by omega
    clear E Ha
    by_cases k0 : s.size ≤ 0
    · have g0 : decide ((1 : Int) ≤ s.size) = false := decide_eq_false (by omega)
      have g1 : decide (1 ≤ s.size) = false := decide_eq_false (by omega)
      have E3 : Hid (R = false) := by show _ = _; rw [E2.out, decide_eq_true k0]; simp
      clear E2
      go_wp2
      go_ret
      exact ⟨by rw [E3.out]; first | done | rfl, done⟩
    · have g0 : (1 : Int) ≤ s.size := by omega
      have g1 : 1 ≤ s.size := by omega
      by_cases k2 : s.size ≤ 20
      · have g2 : (s.size : Int) ≤ 20 := by omega
        have E3 : Hid (R = decide ((p : Int) + q ≤ 1)) := by
         show _ = _
         rw [E2.out, decide_eq_false k0, decide_eq_true k2, Bool.not_false, Bool.and_true, Bool.and_true]; congr 1; apply propext; omega
        clear E2
        go_wp2
        go_ret
        exact ⟨by rw [E3.out]; first | done | rfl, done⟩
      · have g2 : decide ((s.size : Int) ≤ 20) = false := decide_eq_false (by omega)
        have g3 : decide (s.size ≤ 20) = false := decide_eq_false k2
        have E3 : Hid (R = false) := by show _ = _; rw [E2.out, g3]; simp
        clear E2
        go_wp2
        go_ret
        exact ⟨by rw [E3.out]; first | done | rfl, done⟩
end Go.Proofs.YtdhbgelijjlifaaGreatDoor
namespace Go.Proofs.YtdhbgelijjlifaaGreatDoor
open Go.RowKit
end Go.Proofs.YtdhbgelijjlifaaGreatDoor
