/- Walks of sources: the law of remarks. -/
import Derived.Test.YtdhbgelijjlifaaGreatDoorSrcSame
import Derived.Test.YtdhbgelijjlifaaGreatDoorSrcLawB
import Derived.Test.YtdhbgelijjlifaaGreatDoorFieWalkE
import Derived.Test.YtdhbgelijjlifaaGreatDoorFieWalkH
set_option linter.unusedVariables false
set_option linter.unusedSimpArgs false
namespace Go.Proofs.YtdhbgelijjlifaaGreatDoor
open Go.RowKit Go.Shelf
theorem dsplitw_any (s : ByteArray) (hs : s.size ≤ maxLen) (w : World) : Calls Tryz.prog 17 #[.string s] w (SplitEnd w (Src.splitW s)) := by
 unfold Src.splitW
 split
 · exact rsplit_any s w ‹_›
 · exact rsplit_long s w hs (by omega)
theorem out_step {k j : Nat} {ls : List ByteArray} (hj : j < ls.length) : Src.outL k j (ls.drop j) = (if j % k = 0 then [32, 35, 32, 109, 111, 114, 101, 10, 10] else []) ++ ((Src.marked ls[j]).data.toList ++ 10 :: Src.outL k (j + 1) (ls.drop (j + 1))) := by
 rw [List.drop_eq_getElem_cons hj]; rfl
theorem marked_yes {l : ByteArray} (h : (Src.splitW l).2.2 = 0) (h2 : l.size < 400) : Src.marked l = l ++ Src.mark := by unfold Src.marked; rw [if_pos ⟨h, h2⟩]
theorem marked_no {l : ByteArray} (h : ¬ ((Src.splitW l).2.2 = 0 ∧ l.size < 400)) : Src.marked l = l := by unfold Src.marked; rw [if_neg h]
theorem out_round {k j : Nat} {ls : List ByteArray} {o T : ByteArray} {L : List UInt8} (hj : j < ls.length) (ho : o.data.toList ++ Src.outL k j (ls.drop j) = L) (hT : T.data.toList = o.data.toList ++ (if j % k = 0 then [32, 35, 32, 109, 111, 114, 101, 10, 10] else []) ++ (Src.marked ls[j]).data.toList ++ [10]) :
 T.data.toList ++ Src.outL k (j + 1) (ls.drop (j + 1)) = L := by
 rw [hT, ← ho, out_step hj]
 simp [List.append_assoc]
theorem out_room {k j : Nat} {ls : List ByteArray} {o T : ByteArray} (hj : j < ls.length) (hb : ls[j].size ≤ 20000) (ho : o.size ≤ j * 20015) (hT : T.data.toList = o.data.toList ++ (if j % k = 0 then [32, 35, 32, 109, 111, 114, 101, 10, 10] else []) ++ (Src.marked ls[j]).data.toList ++ [10]) :
 T.size ≤ (j + 1) * 20015 := by
 have h1 : T.data.toList.length = T.size := Array.length_toList
 have h2 : o.data.toList.length = o.size := Array.length_toList
 have h3 : (Src.marked ls[j]).data.toList.length = (Src.marked ls[j]).size := Array.length_toList
 have h4 := Src.marked_len ls[j]
 have h5 : (if j % k = 0 then ([32, 35, 32, 109, 111, 114, 101, 10, 10] : List UInt8) else []).length ≤ 9 := by split <;> simp
 rw [← h1, hT, List.length_append, List.length_append, List.length_append, Nat.succ_mul]
 simp only [List.length_singleton]
 omega
set_option maxRecDepth 100000 in
set_option maxHeartbeats 16000000 in
theorem remarks_any (s : ByteArray) (hs : s.size ≤ maxLen) (q : Int) (q0 : 0 ≤ q) (q1 : q ≤ 255) (w : World) (hg : GoodW w) : Rets Tryz.prog 5 #[.string s, .int .u8 q] w (.bool true) := by
 have HA := fun w h => Lib.hid (slive_any w h)
 unfold Rets
 unfold maxLen at hs
 by_cases h1 : 20000 < s.size
 · have g1 : (20000 : Int) < s.size := by omega
   go_enter Tryz.func5, Tryz.ntmps5
   go_wp2_with (go_at_call 10; refine Rets.use (HA _ (hg.ext isext)).out ?_; intro _)
   go_ret
   exact ⟨rfl, done⟩
 have g1 : decide ((20000 : Int) < s.size) = false := decide_eq_false (by omega)
 obtain ⟨k, hk⟩ : ∃ k : Nat, q % 5 + 1 = (k : Int) := ⟨(q % 5).toNat + 1, by omega⟩
 have k1 : 1 ≤ (k : Int) := by omega
 have k2 : (k : Int) ≤ 5 := by omega
 have HL := fun w => Lib.hid (rlines_any s w (by omega))
 have HT := fun o h2 h => Lib.hid (Src.text_alike (text := s) (out := o) k (by omega) h2 h)
 have HE := fun f h => Lib.hid (Src.text_line (text := s) (by omega) (f := f) h)
 have HP := fun w h => Lib.hid (sparse_any s (by unfold maxLen; omega) w h)
 have HS := fun S va vb w ha hb => Lib.hid (dsame_any S va vb w ha hb)
 have hsz : ∀ x ∈ Fie.lines s 0, x.size ≤ 20000 := by
  intro x hx
  rw [Src.lines_eq] at hx
  obtain ⟨l, hl, rfl⟩ := List.mem_map.1 hx
  have := Src.linesL_len _ l hl
  simp at this
  show l.toArray.size ≤ 20000
  simp; omega
 have hcn : (Fie.lines s 0).length ≤ 20000 := by
  rw [Src.lines_eq, List.length_map]
  have := Src.linesL_count s.data.toList
  simp at this
  omega
 generalize Fie.lines s 0 = ls at *
 obtain ⟨n, hn⟩ : ∃ n, ls.length = n := ⟨_, rfl⟩
 have Hsz := Lib.hid hsz
 clear hsz
 go_enter Tryz.func5, Tryz.ntmps5
 go_wp2_with fail
 go_at_call 16
 refine (HL _).out.mono ?_
 rintro _ _ ⟨v, y, rfl, hown, rfl⟩
 clear HL
 rw [hn] at hown hcn
 have Hnn := Lib.hid hn
 clear hn
 obtain ⟨av, cv, rfl⟩ := owns_shape hown
 have Hr := Lib.hid (owns_reads hown (by decide))
 clear hown
 go_wp2_with fail
 go_loopw [7, 8] (fun ov iv wr => ∃ (j : Nat) (o : ByteArray), j ≤ n ∧ iv = .int .i64 j ∧ ov = .string o ∧ o.size ≤ j * 20015 ∧ Hid (o.data.toList ++ Src.outL k j (ls.drop j) = Src.outL k 0 ls) ∧ Ext y.x wr) (fun _ iv _ => n - (intOf iv).toNat)
 case atStart => exact ⟨0, ⟨#[]⟩, by omega, rfl, rfl, by decide, Lib.hid (by simp), isext⟩
 case round =>
  obtain ⟨j, o, j1, rfl, rfl, ho, Ho, hx⟩ := hrel
  obtain ⟨y2, rfl⟩ := fin hx
  clear hx
  by_cases hlt : j < n
  · have hj : j < ls.length := by rw [Hnn.out]; exact hlt
    have hls := Hsz.out ls[j] (List.getElem_mem hj)
    have HR := fun (T : ByteArray) (hT : T.data.toList = o.data.toList ++ (if j % k = 0 then [32, 35, 32, 109, 111, 114, 101, 10, 10] else []) ++ (Src.marked ls[j]).data.toList ++ [10]) => Lib.hid (And.intro (out_round hj Ho.out hT) (out_room hj hls ho hT))
    have HD := fun w => Lib.hid (dsplitw_any (ls[j]'hj) (by unfold maxLen; omega) w)
    rcases Hr.out with ⟨_, _, e9, h9, _⟩ | ⟨b, o3, c9, e9, k3, k4, m1, hc⟩
    · exact absurd h9 (by omega)
    injection e9 with e9 e8 e7
    subst e9
    clear e8 e7
    haveI : InW b y.x := ⟨m1⟩
    have c0 : y.x.cell? ⟨b, o3 + j, none⟩ = some (.string ls[j]) := hc j _ (by simp [hj])
    have hmy := fun h h2 => Lib.hid (marked_yes (l := ls[j]'hj) h h2)
    have hmn := fun h => Lib.hid (marked_no (l := ls[j]'hj) h)
    clear hc Ho
    generalize Src.marked ls[j] = M at *
    generalize ls[j] = l at *
    generalize Src.splitW l = R at *
    obtain ⟨ws, p, e⟩ := R
    simp only at hmy hmn
    by_cases hm : j % k = 0
    · have g2 : ((j : Int) % (k : Int) == 0) = true := by
       have : (j : Int) % (k : Int) = 0 := by exact_mod_cast hm
       rw [this]; rfl
      rw [if_pos hm] at HR
      go_wp2_with fail
      go_at_call 17
      refine (HD _).out.mono ?_
      rintro _ _ ⟨v3, y3, rfl, hv3, rfl⟩
      clear HD
      obtain ⟨a3, c3, rfl⟩ := owns_shape hv3
      clear hv3
      simp only
      by_cases he : e = 0
      · have g3 : (e == 0) = true := by rw [he]; rfl
        by_cases hl4 : l.size < 400
        · have g4 : (l.size : Int) < 400 := by omega
          obtain ⟨e1, e2⟩ := (HR (o ++ ⟨#[32, 35, 32, 109, 111, 114, 101, 10, 10]⟩ ++ l ++ Src.mark ++ ⟨#[10]⟩) (by rw [(hmy he hl4).out]; simp [ByteArray.data_append])).out
          have E1 := Lib.hid e1
          clear HR hmy hmn e1 he
          go_wp2_with fail
          go_roundw
          case rel => exact ⟨j + 1, _, by omega, by go_num, rfl, e2, E1, isext⟩
          case measure => simp [intOf]; omega
        · have g4 : decide ((l.size : Int) < 400) = false := decide_eq_false (by omega)
          obtain ⟨e1, e2⟩ := (HR (o ++ ⟨#[32, 35, 32, 109, 111, 114, 101, 10, 10]⟩ ++ l ++ ⟨#[10]⟩) (by rw [(hmn (fun h => hl4 h.2)).out]; simp [ByteArray.data_append])).out
          have E1 := Lib.hid e1
          clear HR hmy hmn e1 he
          go_wp2_with fail
          go_roundw
          case rel => exact ⟨j + 1, _, by omega, by go_num, rfl, e2, E1, isext⟩
          case measure => simp [intOf]; omega
      · have g3 : (e == 0) = false := beq_eq_false_iff_ne.2 he
        obtain ⟨e1, e2⟩ := (HR (o ++ ⟨#[32, 35, 32, 109, 111, 114, 101, 10, 10]⟩ ++ l ++ ⟨#[10]⟩) (by rw [(hmn (fun h => he h.1)).out]; simp [ByteArray.data_append])).out
        have E1 := Lib.hid e1
        clear HR hmy hmn e1 he
        go_wp2_with fail
        go_roundw
        case rel => exact ⟨j + 1, _, by omega, by go_num, rfl, e2, E1, isext⟩
        case measure => simp [intOf]; omega
    · have g2 : ((j : Int) % (k : Int) == 0) = false := by
       refine beq_eq_false_iff_ne.2 fun h => hm ?_
       exact_mod_cast h
      rw [if_neg hm] at HR
      go_wp2_with fail
      go_at_call 17
      refine (HD _).out.mono ?_
      rintro _ _ ⟨v3, y3, rfl, hv3, rfl⟩
      clear HD
      obtain ⟨a3, c3, rfl⟩ := owns_shape hv3
      clear hv3
      simp only
      by_cases he : e = 0
      · have g3 : (e == 0) = true := by rw [he]; rfl
        by_cases hl4 : l.size < 400
        · have g4 : (l.size : Int) < 400 := by omega
          obtain ⟨e1, e2⟩ := (HR (o ++ l ++ Src.mark ++ ⟨#[10]⟩) (by rw [(hmy he hl4).out]; simp [ByteArray.data_append])).out
          have E1 := Lib.hid e1
          clear HR hmy hmn e1 he
          go_wp2_with fail
          go_roundw
          case rel => exact ⟨j + 1, _, by omega, by go_num, rfl, e2, E1, isext⟩
          case measure => simp [intOf]; omega
        · have g4 : decide ((l.size : Int) < 400) = false := decide_eq_false (by omega)
          obtain ⟨e1, e2⟩ := (HR (o ++ l ++ ⟨#[10]⟩) (by rw [(hmn (fun h => hl4 h.2)).out]; simp [ByteArray.data_append])).out
          have E1 := Lib.hid e1
          clear HR hmy hmn e1 he
          go_wp2_with fail
          go_roundw
          case rel => exact ⟨j + 1, _, by omega, by go_num, rfl, e2, E1, isext⟩
          case measure => simp [intOf]; omega
      · have g3 : (e == 0) = false := beq_eq_false_iff_ne.2 he
        obtain ⟨e1, e2⟩ := (HR (o ++ l ++ ⟨#[10]⟩) (by rw [(hmn (fun h => he h.1)).out]; simp [ByteArray.data_append])).out
        have E1 := Lib.hid e1
        clear HR hmy hmn e1 he
        go_wp2_with fail
        go_roundw
        case rel => exact ⟨j + 1, _, by omega, by go_num, rfl, e2, E1, isext⟩
        case measure => simp [intOf]; omega
  · obtain rfl : n = j := by omega
    have hO : o.data.toList = Src.outL k 0 ls := by
     rw [← Ho.out, List.drop_eq_nil_of_le (by rw [Hnn.out]; omega)]; simp [Src.outL]
    have HO := Lib.hid hO
    clear hO Ho Hsz Hr
    by_cases h2 : 100000 < o.size
    · have g2 : (100000 : Int) < o.size := by omega
      go_wp2_with (go_at_call 10; refine Rets.use (HA _ (hg.ext isext)).out ?_; intro _)
      go_ret
      exact ⟨rfl, done⟩
    have g2 : decide ((100000 : Int) < o.size) = false := decide_eq_false (by omega)
    have HP2 := fun w h => Lib.hid (sparse_any o (by unfold maxLen; omega) w h)
    have Hal := HT o (by omega) HO.out
    clear HT
    generalize Src.parseT s = P at *
    generalize Src.parseT o = Q at *
    cases P with
    | inl f =>
      cases Q with
      | inr S => exact absurd Hal.out (fun h => h)
      | inl f2 =>
        have fe := (HE f rfl).out.1
        obtain ⟨q1', q2'⟩ : f.e = f2.e ∧ (f.e = 14 ∨ f.at0 = f2.at0) := Hal.out
        clear HE Hal HS
        obtain ⟨e, l1, a1⟩ := f
        obtain ⟨e2, l2, a2⟩ := f2
        simp only at fe q1' q2'
        subst q1'
        have g3 : (e == 0) = false := beq_eq_false_iff_ne.2 fe
        have hq : ((e == 14) = true) ∨ ((e == 14) = false ∧ a1 = a2) := by
         by_cases h14 : e = 14
         · exact .inl (by rw [h14]; rfl)
         · exact .inr ⟨beq_eq_false_iff_ne.2 h14, q2'.resolve_left h14⟩
        clear q2' fe
        go_wp2_with fail
        go_at_call 8
        refine (HP _ (hg.ext isext)).out.mono ?_
        rintro _ _ ⟨rfl, y5, rfl⟩
        go_wp2_with fail
        go_at_call 8
        refine (HP2 _ (hg.ext isext)).out.mono ?_
        rintro _ _ ⟨rfl, y6, rfl⟩
        rcases hq with hq | ⟨hq, rfl⟩
        all_goals
         go_wp2_with (go_at_call 10; refine Rets.use (HA _ (hg.ext isext)).out ?_; intro _)
         go_ret
         exact ⟨ret_bool (by simp [*]), done⟩
    | inr S =>
      cases Q with
      | inl f => exact absurd Hal.out (fun h => h)
      | inr S2 =>
        obtain rfl : S = S2 := Hal.out
        clear HE Hal
        go_wp2_with fail
        go_at_call 8
        refine (HP _ (hg.ext isext)).out.mono ?_
        rintro _ _ ⟨v5, y5, rfl, hr5, rfl⟩
        have R5 := Lib.hid hr5
        obtain ⟨p1, p2, p3, rfl, x1, ⟨zp1, -, x2, -⟩, x3⟩ := hr5
        obtain ⟨i1, f1, rfl⟩ := shape_of x1
        obtain ⟨i2, f2, rfl⟩ := shape_of x2
        obtain ⟨i3, f3, rfl⟩ := shape_of x3
        clear x1 x2 x3
        go_wp2_with fail
        go_at_call 8
        refine (HP2 _ (hg.ext isext)).out.mono ?_
        rintro _ _ ⟨v6, y6, rfl, hr6, rfl⟩
        have R6 := Lib.hid hr6
        obtain ⟨p4, p5, p6, rfl, x4, ⟨zp2, -, x5, -⟩, x6⟩ := hr6
        obtain ⟨i4, f4, rfl⟩ := shape_of x4
        obtain ⟨i5, f5, rfl⟩ := shape_of x5
        obtain ⟨i6, f6, rfl⟩ := shape_of x6
        clear x4 x5 x6
        go_wp2_with (first | (go_at_call 10; refine Rets.use (HA _ (hg.ext isext)).out ?_; intro _) | (go_at_call 11; refine Rets.use (HS S _ _ _ (R5.out.ext isext) (R6.out.ext isext)).out ?_; intro _))
        go_ret
        exact ⟨rfl, done⟩
theorem u8_in {x : Int} (h : (Lit.int .u8 x).wf = true) : 0 ≤ x ∧ x ≤ 255 := by
 have h1 : IntKind.u8.min = 0 := rfl
 have h2 : IntKind.u8.max = 255 := rfl
 simp [Lit.wf, h1, h2] at h; omega
theorem remarkslaw_row (s : ByteArray) (q : Int) (hs : s.size ≤ maxLen) (hq : (Lit.int .u8 q).wf = true) (w : World) (hg : GoodW w) : Rets Tryz.prog 5 #[.string s, .int .u8 q] w (.bool true) :=
 remarks_any s hs q (u8_in hq).1 (u8_in hq).2 w hg
end Go.Proofs.YtdhbgelijjlifaaGreatDoor
