/- Walks of eras: how a phase is called, by the program and by the document. -/
import Derived.Test.YtcjnficcggjeiaaDoorErsWalkC
import Derived.Test.YtcjnficcggjeiaaDoorSrcWalkC
set_option linter.unusedVariables false
set_option linter.unusedSimpArgs false
namespace Go.Proofs.YtcjnficcggjeiaaDoor
open Go.RowKit

theorem econtains_any (s : ByteArray) (c : UInt8) (w : World) (hs : s.size ≤ 1048576) (hM : MaxL w) : Calls Tryd.prog 16 #[.string s, .string ⟨#[37, c]⟩] w fun e w' => e = .returned (.bool (decide (0 ≤ Ers.at2 s.data.toList c))) ∧ w = w' := by
  obtain ⟨m, hm⟩ := hM
  exact (Tryd.strings_Contains s ⟨#[37, c]⟩ m w (by omega) hm).mono fun e w' ⟨h, hw⟩ => ⟨h, hw.symm⟩
theorem ereplace_any (s lt : ByteArray) (c : UInt8) (i : Nat) (hi : Ers.at2 s.data.toList c = i) (w : World) (hs : s.size ≤ 1000) (hl : lt.size ≤ 1000) (hM : MaxL w) : Rets Tryd.prog 17 #[.string s, .string ⟨#[37, c]⟩, .string lt, .int .i64 1] w (.string ⟨(Ers.put s.data.toList lt.data.toList i).toArray⟩) := by
  obtain ⟨m, hm⟩ := hM
  have hroom : i + 2 ≤ s.data.toList.length := by
    rcases Ers.at2_cases s.data.toList c with ⟨h, _⟩ | ⟨j, h1, h2⟩
    · omega
    · omega
  have hc : Lib.countB s ⟨#[37, c]⟩ ≤ s.size := Lib.countB_le ⟨#[37, c]⟩ (by simp [ByteArray.size]) s.size s (Nat.le_refl _)
  have hmul : Lib.countB s ⟨#[37, c]⟩ * lt.size ≤ 1000 * 1000 := Nat.mul_le_mul (by omega) hl
  refine (Tryd.strings_Replace s ⟨#[37, c]⟩ lt 1 m w (by omega) hm (by simp [ByteArray.size]) (by omega)).mono ?_
  rintro e w' ⟨rfl, hb⟩
  refine ⟨?_, ⟨w', hb⟩, rfl⟩
  show Ending.returned (.string ⟨(Lib.replace s.data.toList [37, c] lt.data.toList 1).toArray⟩) = _
  rw [Ers.replace_one hi hroom]
theorem ecut_any (s : ByteArray) (w : World) (hs : s.size ≤ 1048576) (hM : MaxL w) : Rets Tryd.prog 19 #[.string s, .string ⟨#[47]⟩] w (.tuple #[.string ⟨(Lib.cut s.data.toList [47]).1.toArray⟩, .string ⟨(Lib.cut s.data.toList [47]).2.1.toArray⟩, .bool (Lib.cut s.data.toList [47]).2.2]) := by
  obtain ⟨m, hm⟩ := hM
  refine (Tryd.strings_Cut s ⟨#[47]⟩ m w (by omega) hm).mono ?_
  rintro e w' ⟨rfl, n, rfl⟩
  exact ⟨rfl, ⟨_, (Ext.refl w).drewN n⟩, rfl⟩
theorem cut_no {l : List UInt8} (h : Lib.index l [47] < 0) : Lib.cut l [47] = (l, [], false) := by unfold Lib.cut; rw [if_neg (by omega)]
theorem cut_yes {l : List UInt8} {i : Nat} (h : Lib.index l [47] = i) : Lib.cut l [47] = (l.take i, l.drop (i + 1), true) := by unfold Lib.cut; rw [if_pos (by omega), h]; rfl
theorem told_len (n : Int) (n1 : -9223372036854775808 ≤ n) (n2 : n ≤ 9223372036854775807) : (Ers.toldL n).length ≤ 60 := by
  unfold Ers.toldL
  have la := Ers.twoL_len (n.natAbs / 3600) (by omega)
  have lb := Ers.twoL_len (n.natAbs / 60 % 60) (by omega)
  have lc := Ers.twoL_len (n.natAbs % 60) (by omega)
  rw [List.length_cons, List.length_append, List.length_append]
  split <;> split <;> simp <;> omega
theorem emk (s : ByteArray) : (⟨s.data.toList.toArray⟩ : ByteArray) = s := by cases s; simp
set_option maxRecDepth 100000 in
set_option maxHeartbeats 4000000 in
theorem abbr_any (fm lt : ByteArray) (off save : Int) (hf : fm.size ≤ 1000) (hl : lt.size ≤ 1000) (n1 : -9223372036854775808 ≤ off) (n2 : off ≤ 9223372036854775807) (w : World) (hM : MaxL w) :
    Rets Tryd.prog 7 #[.string fm, .string lt, .int .i64 off, .int .i64 save] w (.string (Ers.abbrB fm lt off save)) := by
  have HS := fun w h => Lib.hid (econtains_any fm 115 w (by omega) h)
  have HZ := fun w h => Lib.hid (econtains_any fm 122 w (by omega) h)
  obtain ⟨R, hR⟩ : ∃ R, Hid (Ers.abbrL fm.data.toList lt.data.toList off save = R) := ⟨_, rfl⟩
  have hR' : Hid (Ers.abbrB fm lt off save = ⟨R.toArray⟩) := by show _ = _; unfold Ers.abbrB; rw [hR.out]
  rw [hR'.out]
  unfold Rets
  rcases Ers.at2_cases fm.data.toList 115 with ⟨a1, a2⟩ | ⟨i, a1, a2⟩
  · rw [decide_eq_false (show ¬ 0 ≤ Ers.at2 fm.data.toList 115 by omega)] at HS
    rcases Ers.at2_cases fm.data.toList 122 with ⟨b1, b2⟩ | ⟨i, b1, b2⟩
    · rw [decide_eq_false (show ¬ 0 ≤ Ers.at2 fm.data.toList 122 by omega)] at HZ
      have HC := fun w h => Lib.hid (ecut_any fm w (by omega) h)
      rcases Ers.slash_cases fm.data.toList with ⟨c1, c2⟩ | ⟨i, c1, c2⟩
      · have E : Hid (R = fm.data.toList) := by show _ = _; rw [← hR.out, Ers.abbr_n a1 b1 c1]
        rw [cut_no c1] at HC
        clear a1 a2 b1 b2 c1 c2 hR hR'
        go_enter Tryd.func7, Tryd.ntmps7
        go_wp2_with fail
        go_at_call 16
        refine (HS _ (hM.ext isext)).out.mono ?_
        rintro e w' ⟨rfl, rfl⟩
        go_wp2_with fail
        go_at_call 16
        refine (HZ _ (hM.ext isext)).out.mono ?_
        rintro e w' ⟨rfl, rfl⟩
        go_wp2_with (go_at_call 19; refine Rets.use (HC _ (hM.ext isext)).out ?_; intro _)
        go_ret
        exact ⟨ret_str (by rw [E.out]; first | done | rfl), done⟩
      · rw [cut_yes c1] at HC
        by_cases s0 : save = 0
        · have E : Hid (R = fm.data.toList.take i) := by show _ = _; rw [← hR.out, Ers.abbr_0 a1 b1 c1 s0]
          clear a1 a2 b1 b2 c1 c2 hR hR'
          subst s0
          go_enter Tryd.func7, Tryd.ntmps7
          go_wp2_with fail
          go_at_call 16
          refine (HS _ (hM.ext isext)).out.mono ?_
          rintro e w' ⟨rfl, rfl⟩
          go_wp2_with fail
          go_at_call 16
          refine (HZ _ (hM.ext isext)).out.mono ?_
          rintro e w' ⟨rfl, rfl⟩
          go_wp2_with (go_at_call 19; refine Rets.use (HC _ (hM.ext isext)).out ?_; intro _)
          go_ret
          exact ⟨ret_str (by rw [E.out]; first | done | rfl), done⟩
        · have E : Hid (R = fm.data.toList.drop (i + 1)) := by show _ = _; rw [← hR.out, Ers.abbr_1 a1 b1 c1 s0]
          have g0 : (save == 0) = false := beq_eq_false_iff_ne.2 s0
          have g1 : (save != 0) = true := by unfold bne; rw [g0]; rfl
          clear a1 a2 b1 b2 c1 c2 hR hR' s0
          go_enter Tryd.func7, Tryd.ntmps7
          go_wp2_with fail
          go_at_call 16
          refine (HS _ (hM.ext isext)).out.mono ?_
          rintro e w' ⟨rfl, rfl⟩
          go_wp2_with fail
          go_at_call 16
          refine (HZ _ (hM.ext isext)).out.mono ?_
          rintro e w' ⟨rfl, rfl⟩
          go_wp2_with (go_at_call 19; refine Rets.use (HC _ (hM.ext isext)).out ?_; intro _)
          go_ret
          exact ⟨ret_str (by rw [E.out]; first | done | rfl), done⟩
    · rw [decide_eq_true (show 0 ≤ Ers.at2 fm.data.toList 122 by omega)] at HZ
      have E : Hid (R = Ers.put fm.data.toList (Ers.toldL off) i) := by show _ = _; rw [← hR.out, Ers.abbr_z a1 b1]
      have HT := fun w => Lib.hid (etold_any off n1 n2 w)
      have hlen := told_len off n1 n2
      have HR : ∀ w, MaxL w → Hid (Rets Tryd.prog 17 #[.string fm, .string ⟨#[37, 122]⟩, .string ⟨(Ers.toldL off).toArray⟩, .int .i64 1] w (.string ⟨(Ers.put fm.data.toList (Ers.toldL off) i).toArray⟩)) := fun w h =>
        ereplace_any fm ⟨(Ers.toldL off).toArray⟩ 122 i b1 w hf (by simp [ByteArray.size]; omega) h
      generalize Ers.toldL off = T at *
      generalize Ers.put fm.data.toList T i = Q at *
      clear a1 a2 b1 b2 hR hR' n1 n2 hlen
      go_enter Tryd.func7, Tryd.ntmps7
      go_wp2_with fail
      go_at_call 16
      refine (HS _ (hM.ext isext)).out.mono ?_
      rintro e w' ⟨rfl, rfl⟩
      go_wp2_with fail
      go_at_call 16
      refine (HZ _ (hM.ext isext)).out.mono ?_
      rintro e w' ⟨rfl, rfl⟩
      go_wp2_with (first | (go_at_call 18; refine Rets.use (HT _).out ?_; intro _) | (go_at_call 17; refine Rets.use (HR _ (hM.ext isext)).out ?_; intro _))
      go_ret
      exact ⟨ret_str (by rw [E.out]; first | done | rfl), done⟩
  · rw [decide_eq_true (show 0 ≤ Ers.at2 fm.data.toList 115 by omega)] at HS
    have E : Hid (R = Ers.put fm.data.toList lt.data.toList i) := by show _ = _; rw [← hR.out, Ers.abbr_s a1]
    have HR := fun w h => Lib.hid (ereplace_any fm lt 115 i a1 w hf hl h)
    clear a1 a2 hR hR' HZ
    go_enter Tryd.func7, Tryd.ntmps7
    go_wp2_with (first | (go_at_call 16; refine (HS _ (hM.ext isext)).out.mono ?_; rintro e w' ⟨rfl, rfl⟩) | (go_at_call 17; refine Rets.use (HR _ (hM.ext isext)).out ?_; intro _))
    go_ret
    exact ⟨ret_str (by rw [E.out]; first | done | rfl), done⟩
end Go.Proofs.YtcjnficcggjeiaaDoor
set_option linter.unusedVariables false
set_option linter.unusedSimpArgs false
namespace Go.Proofs.YtcjnficcggjeiaaDoor
open Go.RowKit

theorem put_eq (fm : ByteArray) (T : List UInt8) (i : Nat) (h : i + 2 ≤ fm.size) : ((fm.extract 0 i ++ (⟨T.toArray⟩ : ByteArray)) ++ fm.extract (i + 2) fm.size).data.toList = Ers.put fm.data.toList T i := by
  unfold Ers.put
  rw [ByteArray.data_append, ByteArray.data_append, Array.toList_append, Array.toList_append, Lib.extract_data, Lib.extract_data]
  rw [List.drop_zero, Nat.sub_zero, List.take_of_length_le (l := List.drop (i + 2) fm.data.toList) (by rw [List.length_drop, esize]; omega)]
set_option maxRecDepth 100000 in
set_option maxHeartbeats 4000000 in
theorem dabbr_any (fm lt : ByteArray) (off save : Int) (hf : fm.size ≤ 1000) (hl : lt.size ≤ 1000) (n1 : -9223372036854775808 ≤ off) (n2 : off ≤ 9223372036854775807) (w : World) :
    Rets Tryd.prog 8 #[.string fm, .string lt, .int .i64 off, .int .i64 save] w (.string (Ers.abbrB fm lt off save)) := by
  have HS : ∀ w, Hid (Rets Tryd.prog 20 #[.string fm, .string ⟨#[37, 115]⟩] w (.int .i64 (Ers.at2 fm.data.toList 115))) := fun w => sign_any fm ⟨#[37, 115]⟩ (by omega) (by decide) (by decide) w
  have HZ : ∀ w, Hid (Rets Tryd.prog 20 #[.string fm, .string ⟨#[37, 122]⟩] w (.int .i64 (Ers.at2 fm.data.toList 122))) := fun w => sign_any fm ⟨#[37, 122]⟩ (by omega) (by decide) (by decide) w
  have HC : ∀ w, Hid (Rets Tryd.prog 20 #[.string fm, .string ⟨#[47]⟩] w (.int .i64 (Lib.index fm.data.toList [47]))) := fun w => sign_any fm ⟨#[47]⟩ (by omega) (by decide) (by decide) w
  obtain ⟨R, hR⟩ : ∃ R, Hid (Ers.abbrL fm.data.toList lt.data.toList off save = R) := ⟨_, rfl⟩
  have hR' : Hid (Ers.abbrB fm lt off save = ⟨R.toArray⟩) := by show _ = _; unfold Ers.abbrB; rw [hR.out]
  rw [hR'.out]
  unfold Rets
  rcases Ers.at2_cases fm.data.toList 115 with ⟨a1, a2⟩ | ⟨i, a1, a2⟩
  · rcases Ers.at2_cases fm.data.toList 122 with ⟨b1, b2⟩ | ⟨i, b1, b2⟩
    · rcases Ers.slash_cases fm.data.toList with ⟨c1, c2⟩ | ⟨i, c1, c2⟩
      · have E : Hid (R = fm.data.toList) := by show _ = _; rw [← hR.out, Ers.abbr_n a1 b1 c1]
        rw [a2] at HS
        rw [b2] at HZ
        rw [c2] at HC
        clear a1 a2 b1 b2 c1 c2 hR hR'
        go_enter Tryd.func8, Tryd.ntmps8
        go_wp2_with fail
        go_at_call 20
        refine Rets.use (HS _).out ?_
        intro _
        go_wp2_with fail
        go_at_call 20
        refine Rets.use (HZ _).out ?_
        intro _
        go_wp2_with fail
        go_at_call 20
        refine Rets.use (HC _).out ?_
        intro _
        go_wp2
        go_ret
        exact ⟨ret_str (by rw [E.out]; first | done | rfl), done⟩
      · rw [esize] at c2
        rw [c1] at HC
        have E0 := Lib.hid (Ers.abbr_0 (lt := lt.data.toList) (off := off) (save := save) a1 b1 c1)
        have E1 := Lib.hid (Ers.abbr_1 (lt := lt.data.toList) (off := off) (save := save) a1 b1 c1)
        rw [a2] at HS
        rw [b2] at HZ
        have hi0 : (0 : Int) ≤ i := by omega
        by_cases s0 : save = 0
        · have E : Hid (R = fm.data.toList.take i) := by show _ = _; rw [← hR.out, E0.out s0]
          clear a1 a2 b1 b2 c1 hR hR' E0 E1
          subst s0
          go_enter Tryd.func8, Tryd.ntmps8
          go_wp2_with fail
          go_at_call 20
          refine Rets.use (HS _).out ?_
          intro _
          go_wp2_with fail
          go_at_call 20
          refine Rets.use (HZ _).out ?_
          intro _
          go_wp2_with fail
          go_at_call 20
          refine Rets.use (HC _).out ?_
          intro _
          go_wp2
          go_ret
          exact ⟨ret_str (by rw [E.out]; simp [Lib.extract_data]), done⟩
        · have E : Hid (R = fm.data.toList.drop (i + 1)) := by show _ = _; rw [← hR.out, E1.out s0]
          have g0 : (save == 0) = false := beq_eq_false_iff_ne.2 s0
          clear a1 a2 b1 b2 c1 hR hR' E0 E1 s0
          go_enter Tryd.func8, Tryd.ntmps8
          go_wp2_with fail
          go_at_call 20
          refine Rets.use (HS _).out ?_
          intro _
          go_wp2_with fail
          go_at_call 20
          refine Rets.use (HZ _).out ?_
          intro _
          go_wp2_with fail
          go_at_call 20
          refine Rets.use (HC _).out ?_
          intro _
          go_wp2
          go_ret
          exact ⟨ret_str (by rw [E.out, Lib.extract_data, List.take_of_length_le (by rw [List.length_drop, esize]; omega)]; first | done | rfl), done⟩
    · have E : Hid (R = Ers.put fm.data.toList (Ers.toldL off) i) := by show _ = _; rw [← hR.out, Ers.abbr_z a1 b1]
      have HT := fun w => Lib.hid (dtold_any off n1 n2 w)
      have hlen := told_len off n1 n2
      rw [a2] at HS
      rw [b1] at HZ
      rw [esize] at b2
      generalize Ers.toldL off = T at *
      have EP := Lib.hid (put_eq fm T i b2)
      generalize Ers.put fm.data.toList T i = Q at *
      have hi0 : (0 : Int) ≤ i := by omega
      have x1 : IntKind.i64.wrap ((i : Int) + 2) = (i : Int) + 2 := by rw [IntKind.wrap_i64]; omega
      have x2 : (0 : Int) ≤ (i : Int) + 2 := by omega
      have x3 : ((i : Int) + 2).toNat = i + 2 := by omega
      clear a1 a2 b1 hR hR' n1 n2
      go_enter Tryd.func8, Tryd.ntmps8
      go_wp2_with fail
      go_at_call 20
      refine Rets.use (HS _).out ?_
      intro _
      go_wp2_with fail
      go_at_call 20
      refine Rets.use (HZ _).out ?_
      intro _
      go_wp2_with fail
      refine wp_region_past1 (by kernel_rfl) (by kernel_rfl) ?_
      repeat (go_big_quiet_step ((go_at_call 21; exact Rets.quiet (HT _).out)))
      refine wpQuiet_nil ?_
      intro _
      clear x1 x3
      go_wp2
      go_ret
      exact ⟨ret_str (by rw [E.out]; first | exact EP.out | (simp; exact EP.out)), done⟩
  · have E : Hid (R = Ers.put fm.data.toList lt.data.toList i) := by show _ = _; rw [← hR.out, Ers.abbr_s a1]
    rw [a1] at HS
    rw [esize] at a2
    have EP := Lib.hid (put_eq fm lt.data.toList i a2)
    rw [emk] at EP
    generalize Ers.put fm.data.toList lt.data.toList i = Q at *
    have hi0 : (0 : Int) ≤ i := by omega
    have x1 : IntKind.i64.wrap ((i : Int) + 2) = (i : Int) + 2 := by rw [IntKind.wrap_i64]; omega
    have x2 : (0 : Int) ≤ (i : Int) + 2 := by omega
    have x3 : ((i : Int) + 2).toNat = i + 2 := by omega
    clear a1 hR hR' HZ HC n1 n2
    go_enter Tryd.func8, Tryd.ntmps8
    go_wp2_with fail
    go_at_call 20
    refine Rets.use (HS _).out ?_
    intro _
    go_wp2_with fail
    refine wp_region_past1 (by kernel_rfl) (by kernel_rfl) ?_
    repeat (go_big_quiet_step (fail))
    refine wpQuiet_nil ?_
    intro _
    clear x1 x3
    go_wp2
    go_ret
    exact ⟨ret_str (by rw [E.out]; first | exact EP.out | (simp; exact EP.out)), done⟩
end Go.Proofs.YtcjnficcggjeiaaDoor
