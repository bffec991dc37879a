/- Walks of sources: which sources may be, by the document. -/
import Derived.Test.YtdhbgelijjlifaaGreatDoorSrcSupA
import Derived.Test.YtdhbgelijjlifaaGreatDoorSrcSupJ
import Derived.Test.YtdhbgelijjlifaaGreatDoorSrcWalkJ
set_option linter.unusedVariables false
set_option linter.unusedSimpArgs false
namespace Go.Proofs.YtdhbgelijjlifaaGreatDoor
open Go.RowKit
theorem drule_eq (x : Rule) : Src.ruleB x = (Src.yearB x.a && ((Src.yearB x.b || x.b == 1000000) && (Rul.spotB x && (Src.saveB x.s && (Src.setB x.nm.data.toList && Src.letterB x.l.data.toList))))) := by
 rw [rule_eq]
 cases Src.setB x.nm.data.toList <;> cases Src.yearB x.a <;> cases (Src.yearB x.b || x.b == 1000000) <;> cases Rul.spotB x <;> cases Src.saveB x.s <;> rfl
theorem yr_cases (a : Int) : (a < 1 ∧ Src.yearB a = false) ∨ (decide (a < 1) = false ∧ 9999 < a ∧ Src.yearB a = false) ∨ (decide (a < 1) = false ∧ decide (9999 < a) = false ∧ Src.yearB a = true) := by
 unfold Src.yearB
 by_cases h1 : a < 1
 · exact .inl ⟨h1, decide_eq_false (by omega)⟩
 · by_cases h2 : 9999 < a
   · exact .inr (.inl ⟨decide_eq_false h1, h2, decide_eq_false (by omega)⟩)
   · exact .inr (.inr ⟨decide_eq_false h1, decide_eq_false h2, decide_eq_true (by omega)⟩)
theorem yb_cases (b : Int) : (b < 1 ∧ (Src.yearB b || b == 1000000) = false) ∨ (decide (b < 1) = false ∧ 9999 < b ∧ (b != 1000000) = true ∧ (Src.yearB b || b == 1000000) = false) ∨ (b = 1000000 ∧ (Src.yearB b || b == 1000000) = true) ∨
 (decide (b < 1) = false ∧ decide (9999 < b) = false ∧ (Src.yearB b || b == 1000000) = true) := by
 by_cases h3 : b = 1000000
 · exact .inr (.inr (.inl ⟨h3, by rw [h3]; rfl⟩))
 · have h4 : (b == 1000000) = false := beq_eq_false_iff_ne.2 h3
   rcases yr_cases b with ⟨h1, h2⟩ | ⟨h0, h1, h2⟩ | ⟨h0, h1, h2⟩
   · exact .inl ⟨h1, by rw [h2, h4]; rfl⟩
   · exact .inr (.inl ⟨h0, h1, by unfold bne; rw [h4]; rfl, by rw [h2, h4]; rfl⟩)
   · exact .inr (.inr (.inr ⟨h0, h1, by rw [h2]; rfl⟩))
theorem sv_cases (s : Int) : (43200 < s ∧ Src.saveB s = false) ∨ (decide (43200 < s) = false ∧ s < -43200 ∧ Src.saveB s = false) ∨ (decide (43200 < s) = false ∧ decide (s < -43200) = false ∧ Src.saveB s = true) := by
 unfold Src.saveB
 by_cases h1 : 43200 < s
 · exact .inl ⟨h1, decide_eq_false (by omega)⟩
 · by_cases h2 : s < -43200
   · exact .inr (.inl ⟨decide_eq_false h1, h2, decide_eq_false (by omega)⟩)
   · exact .inr (.inr ⟨decide_eq_false h1, decide_eq_false h2, decide_eq_true (by omega)⟩)
set_option maxRecDepth 100000 in
set_option maxHeartbeats 40000000 in
theorem dbounded_any (s : Source) (hf : fits s) (v : Value) (w : World) (hr : ReadsS w v s) : Rets Tryz.prog 45 #[v] w (.bool (Src.srcB s)) := by
 have E := Lib.hid (src_eq s)
 have hl := lens_cases s
 generalize Src.srcB s = R at *
 generalize Src.lensB s = L at *
 obtain ⟨rl, zl, ll⟩ := s
 obtain ⟨vr, vz, vl, rfl, hr1, hr2, hr3⟩ := hr
 simp only at hl hr1 hr2 hr3
 obtain ⟨F1, F2, F3⟩ := hf
 simp only at F1 F2 F3
 obtain ⟨nr, hnr⟩ : ∃ n, rl.length = n := ⟨_, rfl⟩
 obtain ⟨nz, hnz⟩ : ∃ n, zl.length = n := ⟨_, rfl⟩
 obtain ⟨nl, hnl⟩ : ∃ n, ll.length = n := ⟨_, rfl⟩
 obtain ⟨zp, hzp, hz2, hz3⟩ := hr2
 rw [hnr] at hl hr1
 rw [hnz] at hl hz2
 rw [hnl] at hl hr3
 obtain ⟨ar, cr, er⟩ := shape_of hr1
 obtain ⟨az, cz, ez⟩ := shape_of hz2
 obtain ⟨al, cl, el⟩ := shape_of hr3
 subst er ez el
 have b1 := len_of hr1
 have b2 := len_of hz2
 have b3 := len_of hr3
 have Hr1 := Lib.hid hr1
 have Hz2 := Lib.hid hz2
 have Hz3 := Lib.hid hz3
 have Hr3 := Lib.hid hr3
 have Hnr := Lib.hid hnr
 have Hnz := Lib.hid hnz
 have Hnl := Lib.hid hnl
 have Hzp := Lib.hid hzp
 clear hr1 hz2 hz3 hr3 hnr hnz hnl hzp
 unfold Rets
 rcases hl with ⟨-, l1, rfl⟩ | ⟨l1, l2, rfl⟩ | ⟨l1, l2, l3, rfl⟩ | ⟨l1, l2, l3, rfl⟩
 case inr.inr.inr =>
  have E1 : Hid (R = (rl.all Src.ruleB && (zl.all Src.zoneB && ll.all Src.linkB))) := E.out
  clear E
  go_enter Tryz.func45, Tryz.ntmps45
  go_wp2_with fail
  go_loopw [3] (fun iv wr => ∃ j : Nat, j ≤ nr ∧ iv = .int .i64 j ∧ Hid (rl.all Src.ruleB = (rl.drop j).all Src.ruleB) ∧ Ext (w.alloc (.cells #[.slice ar nr cr, .slice az nz cz, .slice al nl cl] 26)) wr) (fun iv _ => nr - (intOf iv).toNat)
  case atStart => exact ⟨0, by omega, rfl, rfl, isext⟩
  case round =>
   obtain ⟨j, j1, rfl, Ha, hx⟩ := hrel
   obtain ⟨y1, rfl⟩ := fin hx
   clear hx
   by_cases hlt : j < nr
   · have hj : j < rl.length := by rw [Hnr.out]; exact hlt
     rcases Hr1.out with ⟨_, _, e9, h9, _⟩ | ⟨b, o, c9, e9, k1, k2, m1, hc⟩
     · exact absurd h9 (by omega)
     injection e9 with e9 e8 e7
     subst e9
     clear e8 e7
     haveI : InW b w := ⟨m1⟩
     obtain ⟨c0, c1, c2, c3, c4, c5, c6, c7, c8, c9, c10⟩ := rule_at hc j hj
     clear hc
     have hd := Lib.hid (Src.all_drop Src.ruleB rl j hj)
     have hfx := F1 rl[j] (List.getElem_mem hj)
     have HS := fun w => Lib.hid (dset_any rl[j].nm (le_max hfx.1) w)
     have HM := fun w => Lib.hid (dletters_any rl[j].l (le_max hfx.2) w)
     have HP : ∀ w, Hid (Rets Tryz.prog 73 #[spotA rl[j].m rl[j].k rl[j].wd rl[j].d rl[j].t rl[j].r] w (.bool (Rul.spotB rl[j]))) := fun w => rright_whole _ _ _ _ _ _ w
     have EQ := Lib.hid (drule_eq rl[j])
     have ha := yr_cases rl[j].a
     have hb := yb_cases rl[j].b
     have hs := sv_cases rl[j].s
     have hc := letter_cases rl[j].l
     generalize Src.ruleB rl[j] = q at *
     generalize Rul.spotB rl[j] = P at *
     generalize Src.yearB rl[j].a = Ya at *
     generalize (Src.yearB rl[j].b || rl[j].b == 1000000) = Yb at *
     generalize Src.saveB rl[j].s = V at *
     generalize Src.setB rl[j].nm.data.toList = S at *
     generalize Src.letterB rl[j].l.data.toList = Lt at *
     generalize Src.madeB rl[j].l.data.toList 8 [43, 45] = M at *
     generalize rl[j] = x at *
     obtain ⟨nm, a, b', m, k, wd, d, t, r, s, lt⟩ := x
     simp only at c0 c1 c2 c3 c4 c5 c6 c7 c8 c9 c10 ha hb hs hc HP
     clear hfx
     rcases ha with ⟨a1, rfl⟩ | ⟨a1, a2, rfl⟩ | ⟨a1, a2, rfl⟩
     · skip
       have E9 : Hid (R = false) := by show _ = _; rw [E1.out, Ha.out, hd.out, EQ.out]; rfl
       clear E1 hd Ha EQ
       go_wp2_with (first | (go_at_call 73; refine Rets.use (HP _).out ?_; intro _) | (go_at_call 13; refine Rets.use (HS _).out ?_; intro _) | (go_at_call 74; refine Rets.use (HM _).out ?_; intro _))
       go_ret
       exact ⟨by rw [E9.out]; first | done | rfl, done⟩
     · skip
       have E9 : Hid (R = false) := by show _ = _; rw [E1.out, Ha.out, hd.out, EQ.out]; rfl
       clear E1 hd Ha EQ
       go_wp2_with (first | (go_at_call 73; refine Rets.use (HP _).out ?_; intro _) | (go_at_call 13; refine Rets.use (HS _).out ?_; intro _) | (go_at_call 74; refine Rets.use (HM _).out ?_; intro _))
       go_ret
       exact ⟨by rw [E9.out]; first | done | rfl, done⟩
     · rcases hb with ⟨b1, rfl⟩ | ⟨b1, b2, b3, rfl⟩ | ⟨rfl, rfl⟩ | ⟨b1, b2, rfl⟩
       · skip
         have E9 : Hid (R = false) := by show _ = _; rw [E1.out, Ha.out, hd.out, EQ.out]; rfl
         clear E1 hd Ha EQ
         go_wp2_with (first | (go_at_call 73; refine Rets.use (HP _).out ?_; intro _) | (go_at_call 13; refine Rets.use (HS _).out ?_; intro _) | (go_at_call 74; refine Rets.use (HM _).out ?_; intro _))
         go_ret
         exact ⟨by rw [E9.out]; first | done | rfl, done⟩
       · skip
         have E9 : Hid (R = false) := by show _ = _; rw [E1.out, Ha.out, hd.out, EQ.out]; rfl
         clear E1 hd Ha EQ
         go_wp2_with (first | (go_at_call 73; refine Rets.use (HP _).out ?_; intro _) | (go_at_call 13; refine Rets.use (HS _).out ?_; intro _) | (go_at_call 74; refine Rets.use (HM _).out ?_; intro _))
         go_ret
         exact ⟨by rw [E9.out]; first | done | rfl, done⟩
       · skip
         cases P
         · skip
           have E9 : Hid (R = false) := by show _ = _; rw [E1.out, Ha.out, hd.out, EQ.out]; rfl
           clear E1 hd Ha EQ
           go_wp2_with (first | (go_at_call 73; refine Rets.use (HP _).out ?_; intro _) | (go_at_call 13; refine Rets.use (HS _).out ?_; intro _) | (go_at_call 74; refine Rets.use (HM _).out ?_; intro _))
           go_ret
           exact ⟨by rw [E9.out]; first | done | rfl, done⟩
         · rcases hs with ⟨s1, rfl⟩ | ⟨s1, s2, rfl⟩ | ⟨s1, s2, rfl⟩
           · skip
             have E9 : Hid (R = false) := by show _ = _; rw [E1.out, Ha.out, hd.out, EQ.out]; rfl
             clear E1 hd Ha EQ
             go_wp2_with (first | (go_at_call 73; refine Rets.use (HP _).out ?_; intro _) | (go_at_call 13; refine Rets.use (HS _).out ?_; intro _) | (go_at_call 74; refine Rets.use (HM _).out ?_; intro _))
             go_ret
             exact ⟨by rw [E9.out]; first | done | rfl, done⟩
           · skip
             have E9 : Hid (R = false) := by show _ = _; rw [E1.out, Ha.out, hd.out, EQ.out]; rfl
             clear E1 hd Ha EQ
             go_wp2_with (first | (go_at_call 73; refine Rets.use (HP _).out ?_; intro _) | (go_at_call 13; refine Rets.use (HS _).out ?_; intro _) | (go_at_call 74; refine Rets.use (HM _).out ?_; intro _))
             go_ret
             exact ⟨by rw [E9.out]; first | done | rfl, done⟩
           · cases S
             · skip
               have E9 : Hid (R = false) := by show _ = _; rw [E1.out, Ha.out, hd.out, EQ.out]; rfl
               clear E1 hd Ha EQ
               go_wp2_with (first | (go_at_call 73; refine Rets.use (HP _).out ?_; intro _) | (go_at_call 13; refine Rets.use (HS _).out ?_; intro _) | (go_at_call 74; refine Rets.use (HM _).out ?_; intro _))
               go_ret
               exact ⟨by rw [E9.out]; first | done | rfl, done⟩
             · rcases hc with ⟨rfl, rfl⟩ | ⟨rfl, rfl⟩ | ⟨l1, l2, l3, rfl⟩
               · skip
                 have E9 : Hid (rl.all Src.ruleB = (rl.drop (j + 1)).all Src.ruleB) := by show _ = _; rw [Ha.out, hd.out, EQ.out]; rfl
                 clear hd Ha EQ
                 go_wp2_with (first | (go_at_call 73; refine Rets.use (HP _).out ?_; intro _) | (go_at_call 13; refine Rets.use (HS _).out ?_; intro _) | (go_at_call 74; refine Rets.use (HM _).out ?_; intro _))
                 go_roundw
                 case rel => exact ⟨j + 1, by omega, by go_num, E9, isext⟩
                 case measure => simp [intOf]; omega
               · skip
                 have E9 : Hid (R = false) := by show _ = _; rw [E1.out, Ha.out, hd.out, EQ.out]; rfl
                 clear E1 hd Ha EQ
                 go_wp2_with (first | (go_at_call 73; refine Rets.use (HP _).out ?_; intro _) | (go_at_call 13; refine Rets.use (HS _).out ?_; intro _) | (go_at_call 74; refine Rets.use (HM _).out ?_; intro _))
                 go_ret
                 exact ⟨by rw [E9.out]; first | done | rfl, done⟩
               · cases Lt
                 · skip
                   have E9 : Hid (R = false) := by show _ = _; rw [E1.out, Ha.out, hd.out, EQ.out]; rfl
                   clear E1 hd Ha EQ
                   go_wp2_with (first | (go_at_call 73; refine Rets.use (HP _).out ?_; intro _) | (go_at_call 13; refine Rets.use (HS _).out ?_; intro _) | (go_at_call 74; refine Rets.use (HM _).out ?_; intro _))
                   go_ret
                   exact ⟨by rw [E9.out]; first | done | rfl, done⟩
                 · skip
                   have E9 : Hid (rl.all Src.ruleB = (rl.drop (j + 1)).all Src.ruleB) := by show _ = _; rw [Ha.out, hd.out, EQ.out]; rfl
                   clear hd Ha EQ
                   go_wp2_with (first | (go_at_call 73; refine Rets.use (HP _).out ?_; intro _) | (go_at_call 13; refine Rets.use (HS _).out ?_; intro _) | (go_at_call 74; refine Rets.use (HM _).out ?_; intro _))
                   go_roundw
                   case rel => exact ⟨j + 1, by omega, by go_num, E9, isext⟩
                   case measure => simp [intOf]; omega
       · skip
         cases P
         · skip
           have E9 : Hid (R = false) := by show _ = _; rw [E1.out, Ha.out, hd.out, EQ.out]; rfl
           clear E1 hd Ha EQ
           go_wp2_with (first | (go_at_call 73; refine Rets.use (HP _).out ?_; intro _) | (go_at_call 13; refine Rets.use (HS _).out ?_; intro _) | (go_at_call 74; refine Rets.use (HM _).out ?_; intro _))
           go_ret
           exact ⟨by rw [E9.out]; first | done | rfl, done⟩
         · rcases hs with ⟨s1, rfl⟩ | ⟨s1, s2, rfl⟩ | ⟨s1, s2, rfl⟩
           · skip
             have E9 : Hid (R = false) := by show _ = _; rw [E1.out, Ha.out, hd.out, EQ.out]; rfl
             clear E1 hd Ha EQ
             go_wp2_with (first | (go_at_call 73; refine Rets.use (HP _).out ?_; intro _) | (go_at_call 13; refine Rets.use (HS _).out ?_; intro _) | (go_at_call 74; refine Rets.use (HM _).out ?_; intro _))
             go_ret
             exact ⟨by rw [E9.out]; first | done | rfl, done⟩
           · skip
             have E9 : Hid (R = false) := by show _ = _; rw [E1.out, Ha.out, hd.out, EQ.out]; rfl
             clear E1 hd Ha EQ
             go_wp2_with (first | (go_at_call 73; refine Rets.use (HP _).out ?_; intro _) | (go_at_call 13; refine Rets.use (HS _).out ?_; intro _) | (go_at_call 74; refine Rets.use (HM _).out ?_; intro _))
             go_ret
             exact ⟨by rw [E9.out]; first | done | rfl, done⟩
           · cases S
             · skip
               have E9 : Hid (R = false) := by show _ = _; rw [E1.out, Ha.out, hd.out, EQ.out]; rfl
               clear E1 hd Ha EQ
               go_wp2_with (first | (go_at_call 73; refine Rets.use (HP _).out ?_; intro _) | (go_at_call 13; refine Rets.use (HS _).out ?_; intro _) | (go_at_call 74; refine Rets.use (HM _).out ?_; intro _))
               go_ret
               exact ⟨by rw [E9.out]; first | done | rfl, done⟩
             · rcases hc with ⟨rfl, rfl⟩ | ⟨rfl, rfl⟩ | ⟨l1, l2, l3, rfl⟩
               · skip
                 have E9 : Hid (rl.all Src.ruleB = (rl.drop (j + 1)).all Src.ruleB) := by show _ = _; rw [Ha.out, hd.out, EQ.out]; rfl
                 clear hd Ha EQ
                 go_wp2_with (first | (go_at_call 73; refine Rets.use (HP _).out ?_; intro _) | (go_at_call 13; refine Rets.use (HS _).out ?_; intro _) | (go_at_call 74; refine Rets.use (HM _).out ?_; intro _))
                 go_roundw
                 case rel => exact ⟨j + 1, by omega, by go_num, E9, isext⟩
                 case measure => simp [intOf]; omega
               · skip
                 have E9 : Hid (R = false) := by show _ = _; rw [E1.out, Ha.out, hd.out, EQ.out]; rfl
                 clear E1 hd Ha EQ
                 go_wp2_with (first | (go_at_call 73; refine Rets.use (HP _).out ?_; intro _) | (go_at_call 13; refine Rets.use (HS _).out ?_; intro _) | (go_at_call 74; refine Rets.use (HM _).out ?_; intro _))
                 go_ret
                 exact ⟨by rw [E9.out]; first | done | rfl, done⟩
               · cases Lt
                 · skip
                   have E9 : Hid (R = false) := by show _ = _; rw [E1.out, Ha.out, hd.out, EQ.out]; rfl
                   clear E1 hd Ha EQ
                   go_wp2_with (first | (go_at_call 73; refine Rets.use (HP _).out ?_; intro _) | (go_at_call 13; refine Rets.use (HS _).out ?_; intro _) | (go_at_call 74; refine Rets.use (HM _).out ?_; intro _))
                   go_ret
                   exact ⟨by rw [E9.out]; first | done | rfl, done⟩
                 · skip
                   have E9 : Hid (rl.all Src.ruleB = (rl.drop (j + 1)).all Src.ruleB) := by show _ = _; rw [Ha.out, hd.out, EQ.out]; rfl
                   clear hd Ha EQ
                   go_wp2_with (first | (go_at_call 73; refine Rets.use (HP _).out ?_; intro _) | (go_at_call 13; refine Rets.use (HS _).out ?_; intro _) | (go_at_call 74; refine Rets.use (HM _).out ?_; intro _))
                   go_roundw
                   case rel => exact ⟨j + 1, by omega, by go_num, E9, isext⟩
                   case measure => simp [intOf]; omega
   · have E2 : Hid (R = (zl.all Src.zoneB && ll.all Src.linkB)) := by
      show _ = _
      rw [E1.out, Ha.out, List.drop_eq_nil_of_le (by rw [Hnr.out]; omega)]; rfl
     clear E1 Ha
     go_wp2_with fail
     go_loopw [5] (fun iv wr => ∃ j : Nat, j ≤ nz ∧ iv = .int .i64 j ∧ Hid (zl.all Src.zoneB = (zl.drop j).all Src.zoneB) ∧ Ext (w.alloc (.cells #[.slice ar nr cr, .slice az nz cz, .slice al nl cl] 26)) wr) (fun iv _ => nz - (intOf iv).toNat)
     case atStart => exact ⟨0, by omega, rfl, rfl, isext⟩
     case round =>
      obtain ⟨j, j1, rfl, Ha, hx⟩ := hrel
      obtain ⟨y2, rfl⟩ := fin hx
      clear hx
      by_cases hlt : j < nz
      · have hj : j < zl.length := by rw [Hnz.out]; exact hlt
        have hjp : j < zp.length := by have := congrArg List.length Hzp.out; rw [List.length_map] at this; omega
        have hz1 : zp[j].1 = zl[j] := by
         have : (zp.map (·.1))[j]'(by rw [List.length_map]; exact hjp) = zl[j] := by simp only [Hzp.out]
         rwa [List.getElem_map] at this
        rcases Hz2.out with ⟨_, _, e9, h9, _⟩ | ⟨b, o, c9, e9, k1, k2, m1, hc⟩
        · exact absurd h9 (by omega)
        injection e9 with e9 e8 e7
        subst e9
        clear e8 e7
        haveI : InW b w := ⟨m1⟩
        obtain ⟨c0, c1⟩ := zone_at hc j hjp
        clear hc
        have hd := Lib.hid (Src.all_drop Src.zoneB zl j hj)
        have hre := Hz3.out zp[j] (List.getElem_mem hjp)
        have hfz := F2 zl[j] (List.getElem_mem hj)
        rw [hz1] at c0 hre
        generalize zp[j].2 = V at *
        generalize zl[j] = z at *
        clear hz1
        obtain ⟨nm, es⟩ := z
        simp only at c0 hre
        obtain ⟨hfn, hfe⟩ := hfz
        simp only at hfn hfe
        obtain ⟨ne, hne⟩ : ∃ n, es.length = n := ⟨_, rfl⟩
        rw [hne] at hre
        obtain ⟨ae, ce, rfl⟩ := shape_of hre
        have b4 := len_of hre
        have Hre := Lib.hid hre
        have Hne := Lib.hid hne
        have HP := fun w => Lib.hid (dplace_any nm (le_max hfn) w)
        have EZ : Hid (Src.zoneB ⟨nm, es⟩ = (Src.placeB nm.data.toList && (decide (1 ≤ ne ∧ ne ≤ 40) && Src.erasB es))) := by
         show _ = _; unfold Src.zoneB; rw [hne, Bool.and_assoc]
        clear hre hne
        generalize Src.zoneB ⟨nm, es⟩ = q at *
        generalize Src.placeB nm.data.toList = pb at *
        cases pb
        · have E3 : Hid (R = false) := by show _ = _; rw [E2.out, Ha.out, hd.out, EZ.out]; rfl
          clear E2 hd Ha EZ
          go_wp2_with (go_at_call 15; refine Rets.use (HP _).out ?_; intro _)
          go_ret
          exact ⟨by rw [E3.out]; first | done | rfl, done⟩
        · by_cases n0 : ne = 0
          · have E3 : Hid (R = false) := by show _ = _; rw [E2.out, Ha.out, hd.out, EZ.out, n0]; rfl
            clear E2 hd Ha EZ
            subst n0
            go_wp2_with (go_at_call 15; refine Rets.use (HP _).out ?_; intro _)
            go_ret
            exact ⟨by rw [E3.out]; first | done | rfl, done⟩
          · have g0 : decide ((ne : Int) < 1) = false := decide_eq_false (by omega)
            by_cases n4 : 40 < ne
            · have E3 : Hid (R = false) := by show _ = _; rw [E2.out, Ha.out, hd.out, EZ.out, show decide (1 ≤ ne ∧ ne ≤ 40) = false from decide_eq_false (by omega)]; rfl
              have g1 : (40 : Int) < ne := by omega
              clear E2 hd Ha EZ
              go_wp2_with (go_at_call 15; refine Rets.use (HP _).out ?_; intro _)
              go_ret
              exact ⟨by rw [E3.out]; first | done | rfl, done⟩
            · have g1 : decide ((40 : Int) < ne) = false := decide_eq_false (by omega)
              have EQ : Hid (q = Src.erasB es) := by show _ = _; rw [EZ.out, show decide (1 ≤ ne ∧ ne ≤ 40) = true from decide_eq_true (by omega)]; rfl
              clear EZ
              rcases Hre.out with ⟨_, _, e9, h9, _⟩ | ⟨be, oe, c9, e9, k3, k4, m2, hc⟩
              · exact absurd h9 (by omega)
              injection e9 with e9 e8 e7
              subst e9
              clear e8 e7
              haveI : InW be w := ⟨m2⟩
              have HC := Lib.hid hc
              clear hc
              go_wp2_with (go_at_call 15; refine Rets.use (HP _).out ?_; intro y3)
              go_loopw [7] (fun iv wr => ∃ k : Nat, k ≤ ne ∧ iv = .int .i64 k ∧ Hid (Src.erasB es = Src.erasB (es.drop k)) ∧ Ext y3.x wr) (fun iv _ => ne - (intOf iv).toNat)
              case atStart => exact ⟨0, by omega, rfl, rfl, isext⟩
              case round =>
               obtain ⟨k, k9, rfl, He, hx⟩ := hrel
               obtain ⟨y4, rfl⟩ := fin hx
               clear hx
               by_cases hlk : k < ne
               · have hk : k < es.length := by rw [Hne.out]; exact hlk
                 obtain ⟨d0, d1, d2, d3, d4, d5, d6, d7, d8, d9, d10, d11, d12⟩ := era_at HC.out k hk
                 have hd3 := Lib.hid (Src.eras_drop es k hk)
                 have HE := fun w => Lib.hid (dera_any es[k] (hfe es[k] (List.getElem_mem hk)) w)
                 have hb2 : decide (k + 1 < es.length) = decide (k + 1 < ne) := by rw [Hne.out]
                 rw [hb2] at hd3
                 have hin : (((k : Int) == (ne : Int) - 1) = true ∧ decide (k + 1 < ne) = false) ∨ (((k : Int) == (ne : Int) - 1) = false ∧ decide (k + 1 < ne) = true) := by
                  by_cases h : k + 1 < ne
                  · exact .inr ⟨beq_eq_false_iff_ne.2 (by omega), decide_eq_true h⟩
                  · exact .inl ⟨beq_iff_eq.2 (by omega), decide_eq_false h⟩
                 have x1 : IntKind.i64.wrap ((ne : Int) - 1) = (ne : Int) - 1 := by rw [IntKind.wrap_i64]; omega
                 generalize decide (k + 1 < ne) = db at *
                 generalize es[k] = x at *
                 generalize Src.eraB x = q3 at *
                 obtain ⟨off, kd, s, rs, fm, til, y, m, kk, wd, d, t, r⟩ := x
                 simp only at d0 d1 d2 d3 d4 d5 d6 d7 d8 d9 d10 d11 d12 hd3
                 clear hb2
                 cases q3
                 · have E3 : Hid (R = false) := by show _ = _; rw [E2.out, Ha.out, hd.out, EQ.out, He.out, hd3.out]; rfl
                   clear E2 hd Ha EQ He hd3 hin
                   go_wp2_with fail
                   refine wp_region_past1 (by kernel_rfl) (by kernel_rfl) ?_
                   repeat (go_big_quiet_step ((go_at_call 75; exact Rets.quiet (HE _).out)))
                   refine wpQuiet_nil ?_
                   intro _
                   clear x1
                   go_wp2
                   go_ret
                   exact ⟨by rw [E3.out]; first | done | rfl, done⟩
                 · rcases hin with ⟨h3, rfl⟩ | ⟨h3, rfl⟩ <;> cases til
                   all_goals first
                    | (have E3 : Hid (Src.erasB es = Src.erasB (es.drop (k + 1))) := by show _ = _; rw [He.out, hd3.out]; exact Bool.true_and _
                       clear hd3 He
                       go_wp2_with fail
                       refine wp_region_past1 (by kernel_rfl) (by kernel_rfl) ?_
                       repeat (go_big_quiet_step ((go_at_call 75; exact Rets.quiet (HE _).out)))
                       refine wpQuiet_nil ?_
                       intro _
                       clear x1
                       go_wp2
                       go_roundw
                       case rel => exact ⟨k + 1, by omega, by go_num, E3, isext⟩
                       case measure => simp [intOf]; omega)
                    | (have E3 : Hid (R = false) := by show _ = _; rw [E2.out, Ha.out, hd.out, EQ.out, He.out, hd3.out]; exact rfl
                       clear hd3 He E2 hd Ha EQ
                       go_wp2_with fail
                       refine wp_region_past1 (by kernel_rfl) (by kernel_rfl) ?_
                       repeat (go_big_quiet_step ((go_at_call 75; exact Rets.quiet (HE _).out)))
                       refine wpQuiet_nil ?_
                       intro _
                       clear x1
                       go_wp2
                       go_ret
                       exact ⟨by rw [E3.out]; first | done | rfl, done⟩)
               · have E3 : Hid (zl.all Src.zoneB = (zl.drop (j + 1)).all Src.zoneB) := by
                  show _ = _
                  rw [Ha.out, hd.out, EQ.out, He.out, List.drop_eq_nil_of_le (by rw [Hne.out]; omega)]; rfl
                 clear Ha hd EQ He
                 go_wp2
                 go_roundw
                 case rel => exact ⟨j + 1, by omega, by go_num, E3, isext⟩
                 case measure => simp [intOf]; omega
      · have E3 : Hid (R = ll.all Src.linkB) := by
         show _ = _
         rw [E2.out, Ha.out, List.drop_eq_nil_of_le (by rw [Hnz.out]; omega)]; rfl
        clear E2 Ha
        go_wp2_with fail
        go_loopw [8] (fun iv wr => ∃ j : Nat, j ≤ nl ∧ iv = .int .i64 j ∧ Hid (ll.all Src.linkB = (ll.drop j).all Src.linkB) ∧ Ext (w.alloc (.cells #[.slice ar nr cr, .slice az nz cz, .slice al nl cl] 26)) wr) (fun iv _ => nl - (intOf iv).toNat)
        case atStart => exact ⟨0, by omega, rfl, rfl, isext⟩
        case round =>
         obtain ⟨j, j1, rfl, Ha, hx⟩ := hrel
         obtain ⟨y3, rfl⟩ := fin hx
         clear hx
         by_cases hlt : j < nl
         · have hj : j < ll.length := by rw [Hnl.out]; exact hlt
           rcases Hr3.out with ⟨_, _, e9, h9, _⟩ | ⟨b, o, c9, e9, k1, k2, m1, hc⟩
           · exact absurd h9 (by omega)
           injection e9 with e9 e8 e7
           subst e9
           clear e8 e7
           haveI : InW b w := ⟨m1⟩
           obtain ⟨c0, c1⟩ := link_at hc j hj
           clear hc
           have hd := Lib.hid (Src.all_drop Src.linkB ll j hj)
           have hfl := F3 ll[j] (List.getElem_mem hj)
           generalize ll[j] = x at *
           obtain ⟨tg, nm⟩ := x
           obtain ⟨hf1, hf2⟩ := hfl
           simp only at c0 c1 hf1 hf2
           have HA := fun w => Lib.hid (dplace_any tg (le_max hf1) w)
           have HB := fun w => Lib.hid (dplace_any nm (le_max hf2) w)
           have EL : Hid (Src.linkB ⟨tg, nm⟩ = (Src.placeB tg.data.toList && Src.placeB nm.data.toList)) := rfl
           generalize Src.linkB ⟨tg, nm⟩ = q at *
           generalize Src.placeB tg.data.toList = p1 at *
           generalize Src.placeB nm.data.toList = p2 at *
           cases p1
           · have E4 : Hid (R = false) := by show _ = _; rw [E3.out, Ha.out, hd.out, EL.out]; rfl
             clear E3 hd Ha EL
             go_wp2_with fail
             go_at_call 15
             refine Rets.use (HA _).out ?_
             intro _
             go_wp2
             go_ret
             exact ⟨by rw [E4.out]; first | done | rfl, done⟩
           · cases p2
             · have E4 : Hid (R = false) := by show _ = _; rw [E3.out, Ha.out, hd.out, EL.out]; rfl
               clear E3 hd Ha EL
               go_wp2_with fail
               go_at_call 15
               refine Rets.use (HA _).out ?_
               intro _
               go_wp2_with fail
               go_at_call 15
               refine Rets.use (HB _).out ?_
               intro _
               go_wp2
               go_ret
               exact ⟨by rw [E4.out]; first | done | rfl, done⟩
             · have E4 : Hid (ll.all Src.linkB = (ll.drop (j + 1)).all Src.linkB) := by show _ = _; rw [Ha.out, hd.out, EL.out]; rfl
               clear hd Ha EL
               go_wp2_with fail
               go_at_call 15
               refine Rets.use (HA _).out ?_
               intro _
               go_wp2_with fail
               go_at_call 15
               refine Rets.use (HB _).out ?_
               intro _
               go_wp2
               go_roundw
               case rel => exact ⟨j + 1, by omega, by go_num, E4, isext⟩
               case measure => simp [intOf]; omega
         · have E4 : Hid (R = true) := by
            show _ = _
            rw [E3.out, Ha.out, List.drop_eq_nil_of_le (by rw [Hnl.out]; omega)]; rfl
           clear E3 Ha
           go_wp2
           go_ret
           exact ⟨by rw [E4.out]; first | done | rfl, done⟩
 all_goals
  have E1 : Hid (R = false) := E.out
  clear E
  go_enter Tryz.func45, Tryz.ntmps45
  go_wp2
  go_ret
  exact ⟨by rw [E1.out]; first | done | rfl, done⟩
set_option maxRecDepth 100000 in
set_option maxHeartbeats 2000000 in
theorem dright_any (s : Source) (hf : fits s) (v : Value) (w : World) (hr : ReadsS w v s) : Rets Tryz.prog 22 #[v] w (.bool (Src.srcB s)) := by
 have H := fun w hr => Lib.hid (dbounded_any s hf v w hr)
 generalize Src.srcB s = R at *
 obtain ⟨vr, vz, vl, rfl, -⟩ := id hr
 unfold Rets
 go_enter Tryz.func22, Tryz.ntmps22
 go_wp2_with (go_at_call 45; refine Rets.use (H _ (hr.ext isext)).out ?_; intro _)
 go_ret
 exact ⟨rfl, done⟩
end Go.Proofs.YtdhbgelijjlifaaGreatDoor
