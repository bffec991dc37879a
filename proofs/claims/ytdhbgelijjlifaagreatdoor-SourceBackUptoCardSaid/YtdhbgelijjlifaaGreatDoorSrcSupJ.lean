/- What further laws need of a text that is built. -/
import Derived.Lib.SplitLaws
import Derived.Lib.IndexBytes
import Derived.Lib.IndexMore
import Derived.Lib.CutLaws
import Derived.Shelf.Strings.Builder1
import Derived.Shelf.Strings.Builder2
import Derived.Shelf.Strings.OnBuilder
import Derived.Shelf.Small.Strs
import Derived.Shelf.Small.Wraps
import Derived.Shelf.Strings.BuilderF
import Derived.Shelf.Strings.BuilderK
import Derived.Shelf.Strings.Builder2Cap
import Derived.Shelf.Strconv.Itoa0
import Derived.Shelf.Strconv.Itoa1
import Derived.Shelf.LaysM
import Derived.Shelf.Strconv.Itoa2
import Derived.Shelf.Strconv.Itoa3
import Derived.Shelf.Strconv.Clone
import Derived.Shelf.Strconv.SyntaxError
import Derived.Shelf.LaysC
import Derived.Shelf.Strconv.ToError
import Derived.Shelf.Strconv.Lower
import Derived.Shelf.Strconv.ParseUint10
import Derived.Shelf.Strconv.ParseUint10Empty
import Derived.Shelf.Strconv.ParseUint10Any
import Derived.Shelf.Strconv.RangeError
import Derived.Shelf.Strconv.ToErrorRange
import Derived.Shelf.Strconv.ParseUintEmpty
import Derived.Shelf.Strconv.ParseUint10b64
import Derived.Shelf.Strconv.ParseUint10b32
import Derived.Shelf.Strconv.ParseUint10b16
import Derived.Shelf.Strconv.ParseUint10b8
import Derived.Shelf.Strconv.ParseUint10At
import Derived.Ground.MpProg
import Derived.Shelf.Pu.ParseUintPublic10
import Derived.Shelf.Pu.ErrVarParseUint
import Derived.Shelf.Strings.Search1
import Derived.Shelf.Strings.Search2
import Derived.Shelf.Strings.Search3
import Derived.Shelf.Strings.Cut
import Derived.Shelf.Strings.Count
import Derived.Shelf.Strings.Shaped
import Derived.Shelf.Strings.Prefix
import Derived.Shelf.Strings.Split
import Derived.Shelf.Strings.SplitShaped
import Derived.Shelf.Unicode.DecodeSlow
import Derived.Shelf.Strings.BuilderCap
import Derived.WalkKit
import Derived.WalkSpells
import Derived.WalkLawsBesides
import Derived.Carry
import Derived.MapKept
import Derived.RangeFuncRecord
import Derived.Laws.IdiomStrings
import Derived.Deep.RegionWith
import Derived.Lib.Join
import Derived.SliceStrings
import Derived.Deep.Slices
import Derived.Deep.Fields
import Derived.ChangeSame
import Derived.Test.YtdhbgelijjlifaaGreatDoorSrcSupA
import Derived.Test.YtdhbgelijjlifaaGreatDoorSrcWalkJ
set_option linter.unusedVariables false
set_option linter.unusedSimpArgs false
namespace Go.Proofs.YtdhbgelijjlifaaGreatDoor
open Go.RowKit
theorem empty_cases (s : ByteArray) : (s = ⟨#[]⟩ ∧ s.data.toList.isEmpty = true) ∨ (s.toList.isEmpty = false ∧ s.data.toList.isEmpty = false) := by
 cases h : s.data.toList with
 | nil => exact .inl ⟨str_nil h, rfl⟩
 | cons c r => exact .inr ⟨by rw [Lib.toList_data, h]; rfl, rfl⟩
theorem era_eq (x : Era) : Src.eraB x = (Src.offB x && (Src.fmtB x.fm.data.toList && (Src.kindB x && Src.endB x))) := by
 unfold Src.eraB; simp only [Bool.and_assoc]
theorem off_cases (x : Era) : (x.off ≤ -86400 ∧ Src.offB x = false) ∨ (decide (x.off ≤ -86400) = false ∧ 86400 ≤ x.off ∧ Src.offB x = false) ∨ (decide (x.off ≤ -86400) = false ∧ decide (86400 ≤ x.off) = false ∧ Src.offB x = true) := by
 unfold Src.offB
 by_cases h1 : x.off ≤ -86400
 · exact .inl ⟨h1, decide_eq_false (by omega)⟩
 · by_cases h2 : 86400 ≤ x.off
   · exact .inr (.inl ⟨decide_eq_false h1, h2, decide_eq_false (by omega)⟩)
   · exact .inr (.inr ⟨decide_eq_false h1, decide_eq_false h2, decide_eq_true (by omega)⟩)
set_option maxRecDepth 100000 in
set_option maxHeartbeats 8000000 in
theorem sera_no (x : Era) (h1 : x.rs.size ≤ maxLen) (h2 : x.fm.size ≤ maxLen) (w : World) (hM : MaxL w) (hno : Src.offB x = false ∨ Src.fmtB x.fm.data.toList = false) : Rets Tryz.prog 44 #[eraV x] w (.bool false) := by
 have HF := fun w h => Lib.hid (format_any x.fm h2 w h)
 have ho := off_cases x
 generalize Src.fmtB x.fm.data.toList = F at *
 generalize Src.offB x = O at *
 obtain ⟨off, kd, s, rs, fm, til, y, m, k, wd, d, t, r⟩ := x
 simp only at ho
 unfold Rets
 rcases ho with ⟨o1, rfl⟩ | ⟨o1, o2, rfl⟩ | ⟨o1, o2, rfl⟩
 · go_enter Tryz.func44, Tryz.ntmps44
   go_wp2
   go_ret
   exact ⟨rfl, done⟩
 · go_enter Tryz.func44, Tryz.ntmps44
   go_wp2
   go_ret
   exact ⟨rfl, done⟩
 · obtain rfl : F = false := by rcases hno with h | h; cases h; exact h
   go_enter Tryz.func44, Tryz.ntmps44
   go_wp2_with (go_at_call 72; refine Rets.use (HF _ (hM.ext isext)).out ?_; intro _)
   go_ret
   exact ⟨rfl, done⟩
set_option maxRecDepth 100000 in
set_option maxHeartbeats 8000000 in
theorem sera_yes (x : Era) (h1 : x.rs.size ≤ maxLen) (h2 : x.fm.size ≤ maxLen) (w : World) (hM : MaxL w) (hO : Src.offB x = true) (hF : Src.fmtB x.fm.data.toList = true) : Rets Tryz.prog 44 #[eraV x] w (.bool (Src.kindB x && Src.endB x)) := by
 have HF := fun w h => Lib.hid (format_any x.fm h2 w h)
 rw [hF] at HF
 have HS := fun w => Lib.hid (sset_any x.rs h1 w)
 have HY := fun w => Lib.hid (syear_any x.y w)
 have HR : ∀ w, Hid (Rets Tryz.prog 70 #[spotA x.m x.k x.wd x.d x.t x.r] w (.bool (Mom.rightB x.m x.k x.wd x.d x.t x.r))) := fun w => right_whole x.m x.k x.wd x.d x.t x.r w
 have HV := fun w => Lib.hid (ssaving_any x.s w)
 have hr := empty_cases x.rs
 have ho := off_cases x
 have ho : decide (x.off ≤ -86400) = false ∧ decide (86400 ≤ x.off) = false := by
  rcases ho with ⟨_, h⟩ | ⟨_, _, h⟩ | ⟨a, b, _⟩
  · rw [hO] at h; cases h
  · rw [hO] at h; cases h
  · exact ⟨a, b⟩
 obtain ⟨o1, o2⟩ := ho
 have hk : (x.kd = 0 ∧ Hid (Src.kindB x = (x.s == 0 && x.rs.data.toList.isEmpty))) ∨ (x.kd = 1 ∧ Hid (Src.kindB x = (Src.saveB x.s && x.rs.data.toList.isEmpty))) ∨ (x.kd = 2 ∧ Src.setB x.rs.data.toList = true ∧ Hid (Src.kindB x = (x.s == 0))) ∨ (x.kd = 2 ∧ Src.setB x.rs.data.toList = false ∧ Hid (Src.kindB x = false)) ∨
  ((x.kd == 0) = false ∧ (x.kd == 1) = false ∧ (x.kd == 2) = false ∧ Hid (Src.kindB x = false)) := by
  unfold Src.kindB
  by_cases h0 : x.kd = 0
  · exact .inl ⟨h0, by show _ = _; rw [if_pos h0]⟩
  · by_cases h1 : x.kd = 1
    · exact .inr (.inl ⟨h1, by show _ = _; rw [if_neg h0, if_pos h1]⟩)
    · by_cases h2 : x.kd = 2
      · cases hS : Src.setB x.rs.data.toList
        · exact .inr (.inr (.inr (.inl ⟨h2, rfl, by show _ = _; rw [if_neg h0, if_neg h1, if_pos h2, Bool.and_false]⟩)))
        · exact .inr (.inr (.inl ⟨h2, rfl, by show _ = _; rw [if_neg h0, if_neg h1, if_pos h2, Bool.and_true]⟩))
      · exact .inr (.inr (.inr (.inr ⟨beq_eq_false_iff_ne.2 h0, beq_eq_false_iff_ne.2 h1, beq_eq_false_iff_ne.2 h2, by show _ = _; rw [if_neg h0, if_neg h1, if_neg h2]⟩)))
 have he : (x.til = true ∧ Hid (Src.endB x = (Src.yearB x.y && Mom.rightB x.m x.k x.wd x.d x.t x.r))) ∨ (x.til = false ∧ Hid (Src.endB x = (x.y == 0 && (x.m == 0 && x.k == 0 && x.wd == 0 && x.d == 0 && x.t == 0 && x.r == 0)))) := by
  unfold Src.endB
  cases ht : x.til
  · exact .inr ⟨rfl, by show _ = _; rw [if_neg (by simp)]⟩
  · exact .inl ⟨rfl, by show _ = _; rw [if_pos rfl]⟩
 clear hF hO
 generalize Src.kindB x = K at *
 generalize Src.endB x = En at *
 obtain ⟨Res, hRes⟩ : ∃ Res, Hid (Res = (K && En)) := ⟨_, rfl⟩
 rw [← hRes.out]
 generalize Src.setB x.rs.data.toList = S at *
 generalize Src.yearB x.y = Y at *
 generalize Mom.rightB x.m x.k x.wd x.d x.t x.r = P at *
 generalize Src.saveB x.s = V at *
 obtain ⟨off, kd, s, rs, fm, til, y, m, k, wd, d, t, r⟩ := x
 simp only at hr o1 o2 hk he ⊢
 generalize rs.data.toList.isEmpty = R at *
 unfold Rets
 rcases hk with ⟨rfl, EK⟩ | ⟨rfl, EK⟩ | ⟨rfl, rfl, EK⟩ | ⟨rfl, rfl, EK⟩ | ⟨k0, k1, k2, EK⟩ <;> rcases he with ⟨rfl, EE⟩ | ⟨rfl, EE⟩ <;> rcases hr with ⟨rfl, rfl⟩ | ⟨r1, rfl⟩
 all_goals
  go_enter Tryz.func44, Tryz.ntmps44
  go_wp2_with (first | (go_at_call 72; refine Rets.use (HF _ (hM.ext isext)).out ?_; intro _) | (go_at_call 12; refine Rets.use (HS _).out ?_; intro _) | (go_at_call 69; refine Rets.use (HY _).out ?_; intro _) | (go_at_call 70; refine Rets.use (HR _).out ?_; intro _) | (go_at_call 71; refine Rets.use (HV _).out ?_; intro _))
  all_goals (go_ret; exact ⟨ret_bool (by rw [hRes.out, EK.out, EE.out]; simp [*]), done⟩)
end Go.Proofs.YtdhbgelijjlifaaGreatDoor
namespace Go.Proofs.YtdhbgelijjlifaaGreatDoor
open Go.RowKit
theorem le_max {n : Nat} (h : n ≤ 1048576) : n ≤ maxLen := by unfold maxLen; omega
theorem sera_any (x : Era) (hf : fitsE x) (w : World) (hM : MaxL w) : Rets Tryz.prog 44 #[eraV x] w (.bool (Src.eraB x)) := by
 have E := era_eq x
 cases hO : Src.offB x
 · rw [hO] at E
   rw [E]; exact sera_no x (le_max hf.1) (le_max hf.2) w hM (.inl hO)
 · cases hF : Src.fmtB x.fm.data.toList
   · rw [hO, hF] at E
     rw [E]; exact sera_no x (le_max hf.1) (le_max hf.2) w hM (.inr hF)
   · rw [hO, hF] at E
     rw [E]; exact sera_yes x (le_max hf.1) (le_max hf.2) w hM hO hF
theorem src_eq (s : Source) : Src.srcB s = (Src.lensB s && (s.rules.all Src.ruleB && (s.zones.all Src.zoneB && s.links.all Src.linkB))) := rfl
theorem lens_cases (s : Source) : (200 < s.rules.length ∧ (200 : Int) < s.rules.length ∧ Src.lensB s = false) ∨ (decide ((200 : Int) < s.rules.length) = false ∧ (50 : Int) < s.zones.length ∧ Src.lensB s = false) ∨
 (decide ((200 : Int) < s.rules.length) = false ∧ decide ((50 : Int) < s.zones.length) = false ∧ (100 : Int) < s.links.length ∧ Src.lensB s = false) ∨
 (decide ((200 : Int) < s.rules.length) = false ∧ decide ((50 : Int) < s.zones.length) = false ∧ decide ((100 : Int) < s.links.length) = false ∧ Src.lensB s = true) := by
 unfold Src.lensB
 by_cases h1 : 200 < s.rules.length
 · exact .inl ⟨h1, by omega, decide_eq_false (by omega)⟩
 · by_cases h2 : 50 < s.zones.length
   · exact .inr (.inl ⟨decide_eq_false (by omega), by omega, decide_eq_false (by omega)⟩)
   · by_cases h3 : 100 < s.links.length
     · exact .inr (.inr (.inl ⟨decide_eq_false (by omega), decide_eq_false (by omega), by omega, decide_eq_false (by omega)⟩))
     · exact .inr (.inr (.inr ⟨decide_eq_false (by omega), decide_eq_false (by omega), decide_eq_false (by omega), decide_eq_true (by omega)⟩))
set_option maxRecDepth 100000 in
set_option maxHeartbeats 16000000 in
theorem sright_any (s : Source) (hf : fits s) (v : Value) (w : World) (hM : MaxL w) (hr : ReadsS w v s) : Rets Tryz.prog 21 #[v] w (.bool (Src.srcB s)) := by
 have E := Lib.hid (src_eq s)
 have hl := lens_cases s
 generalize Src.srcB s = R at *
 generalize Src.lensB s = L at *
 obtain ⟨rl, zl, ll⟩ := s
 obtain ⟨vr, vz, vl, rfl, hr1, hr2, hr3⟩ := hr
 simp only at hl hr1 hr2 hr3
 obtain ⟨F1, F2, F3⟩ := hf
 simp only at F1 F2 F3
 obtain ⟨nr, hnr⟩ : ∃ n, rl.length = n := ⟨_, rfl⟩
 obtain ⟨nz, hnz⟩ : ∃ n, zl.length = n := ⟨_, rfl⟩
 obtain ⟨nl, hnl⟩ : ∃ n, ll.length = n := ⟨_, rfl⟩
 obtain ⟨zp, hzp, hz2, hz3⟩ := hr2
 rw [hnr] at hl hr1
 rw [hnz] at hl hz2
 rw [hnl] at hl hr3
 obtain ⟨ar, cr, er⟩ := shape_of hr1
 obtain ⟨az, cz, ez⟩ := shape_of hz2
 obtain ⟨al, cl, el⟩ := shape_of hr3
 subst er ez el
 have b1 := len_of hr1
 have b2 := len_of hz2
 have b3 := len_of hr3
 have Hr1 := Lib.hid hr1
 have Hz2 := Lib.hid hz2
 have Hz3 := Lib.hid hz3
 have Hr3 := Lib.hid hr3
 have Hnr := Lib.hid hnr
 have Hnz := Lib.hid hnz
 have Hnl := Lib.hid hnl
 have Hzp := Lib.hid hzp
 clear hr1 hz2 hz3 hr3 hnr hnz hnl hzp
 unfold Rets
 rcases hl with ⟨-, l1, rfl⟩ | ⟨l1, l2, rfl⟩ | ⟨l1, l2, l3, rfl⟩ | ⟨l1, l2, l3, rfl⟩
 case inr.inr.inr =>
  have E1 : Hid (R = (rl.all Src.ruleB && (zl.all Src.zoneB && ll.all Src.linkB))) := E.out
  clear E
  go_enter Tryz.func21, Tryz.ntmps21
  go_wp2_with fail
  go_loopw [30] (fun iv wr => ∃ j : Nat, j ≤ nr ∧ iv = .int .i64 j ∧ Hid (rl.all Src.ruleB = (rl.drop j).all Src.ruleB) ∧ Ext (w.alloc (.cells #[.slice ar nr cr, .slice az nz cz, .slice al nl cl] 26)) wr) (fun iv _ => nr - (intOf iv).toNat)
  case atStart => exact ⟨0, by omega, rfl, rfl, isext⟩
  case round =>
   obtain ⟨j, j1, rfl, Ha, hx⟩ := hrel
   obtain ⟨y1, rfl⟩ := fin hx
   clear hx
   by_cases hlt : j < nr
   · have hj : j < rl.length := by rw [Hnr.out]; exact hlt
     rcases Hr1.out with ⟨_, _, e9, h9, _⟩ | ⟨b, o, c9, e9, k1, k2, m1, hc⟩
     · exact absurd h9 (by omega)
     injection e9 with e9 e8 e7
     subst e9
     clear e8 e7
     haveI : InW b w := ⟨m1⟩
     obtain ⟨c0, c1, c2, c3, c4, c5, c6, c7, c8, c9, c10⟩ := rule_at hc j hj
     clear hc
     have hd := Lib.hid (Src.all_drop Src.ruleB rl j hj)
     have hfx := F1 rl[j] (List.getElem_mem hj)
     have HR := fun w => Lib.hid (srule_any rl[j] (le_max hfx.1) (le_max hfx.2) w)
     generalize Src.ruleB rl[j] = q at *
     generalize rl[j] = x at *
     obtain ⟨nm, a, b', m, k, wd, d, t, r, s, lt⟩ := x
     simp only at c0 c1 c2 c3 c4 c5 c6 c7 c8 c9 c10
     clear hfx
     cases q
     · have E2 : Hid (R = false) := by show _ = _; rw [E1.out, Ha.out, hd.out]; rfl
       clear E1 hd Ha
       go_wp2_with (go_at_call 43; refine Rets.use (HR _).out ?_; intro _)
       go_ret
       exact ⟨by rw [E2.out]; first | done | rfl, done⟩
     · have E2 : Hid (rl.all Src.ruleB = (rl.drop (j + 1)).all Src.ruleB) := by show _ = _; rw [Ha.out, hd.out]; rfl
       clear hd Ha
       go_wp2_with (go_at_call 43; refine Rets.use (HR _).out ?_; intro _)
       go_roundw
       case rel => exact ⟨j + 1, by omega, by go_num, E2, isext⟩
       case measure => simp [intOf]; omega
   · have E2 : Hid (R = (zl.all Src.zoneB && ll.all Src.linkB)) := by
      show _ = _
      rw [E1.out, Ha.out, List.drop_eq_nil_of_le (by rw [Hnr.out]; omega)]; rfl
     clear E1 Ha
     go_wp2_with fail
     go_loopw [41] (fun iv wr => ∃ j : Nat, j ≤ nz ∧ iv = .int .i64 j ∧ Hid (zl.all Src.zoneB = (zl.drop j).all Src.zoneB) ∧ Ext (w.alloc (.cells #[.slice ar nr cr, .slice az nz cz, .slice al nl cl] 26)) wr) (fun iv _ => nz - (intOf iv).toNat)
     case atStart => exact ⟨0, by omega, rfl, rfl, isext⟩
     case round =>
      obtain ⟨j, j1, rfl, Ha, hx⟩ := hrel
      obtain ⟨y2, rfl⟩ := fin hx
      clear hx
      by_cases hlt : j < nz
      · have hj : j < zl.length := by rw [Hnz.out]; exact hlt
        have hjp : j < zp.length := by have := congrArg List.length Hzp.out; rw [List.length_map] at this; omega
        have hz1 : zp[j].1 = zl[j] := by
         have : (zp.map (·.1))[j]'(by rw [List.length_map]; exact hjp) = zl[j] := by simp only [Hzp.out]
         rwa [List.getElem_map] at this
        rcases Hz2.out with ⟨_, _, e9, h9, _⟩ | ⟨b, o, c9, e9, k1, k2, m1, hc⟩
        · exact absurd h9 (by omega)
        injection e9 with e9 e8 e7
        subst e9
        clear e8 e7
        haveI : InW b w := ⟨m1⟩
        obtain ⟨c0, c1⟩ := zone_at hc j hjp
        clear hc
        have hd := Lib.hid (Src.all_drop Src.zoneB zl j hj)
        have hre := Hz3.out zp[j] (List.getElem_mem hjp)
        have hfz := F2 zl[j] (List.getElem_mem hj)
        rw [hz1] at c0 hre
        generalize zp[j].2 = V at *
        generalize zl[j] = z at *
        clear hz1
        obtain ⟨nm, es⟩ := z
        simp only at c0 hre
        obtain ⟨hfn, hfe⟩ := hfz
        simp only at hfn hfe
        obtain ⟨ne, hne⟩ : ∃ n, es.length = n := ⟨_, rfl⟩
        rw [hne] at hre
        obtain ⟨ae, ce, rfl⟩ := shape_of hre
        have b4 := len_of hre
        have Hre := Lib.hid hre
        have Hne := Lib.hid hne
        have HP := fun w h => Lib.hid (place_any nm (by omega) w h)
        have EZ : Hid (Src.zoneB ⟨nm, es⟩ = (Src.placeB nm.data.toList && (decide (1 ≤ ne ∧ ne ≤ 40) && Src.erasB es))) := by
         show _ = _; unfold Src.zoneB; rw [hne, Bool.and_assoc]
        clear hre hne
        generalize Src.zoneB ⟨nm, es⟩ = q at *
        generalize Src.placeB nm.data.toList = pb at *
        cases pb
        · have E3 : Hid (R = false) := by show _ = _; rw [E2.out, Ha.out, hd.out, EZ.out]; rfl
          clear E2 hd Ha EZ
          go_wp2_with (go_at_call 14; refine Rets.use (HP _ (hM.ext isext)).out ?_; intro _)
          go_ret
          exact ⟨by rw [E3.out]; first | done | rfl, done⟩
        · by_cases n0 : ne = 0
          · have E3 : Hid (R = false) := by show _ = _; rw [E2.out, Ha.out, hd.out, EZ.out, n0]; rfl
            clear E2 hd Ha EZ
            subst n0
            go_wp2_with (go_at_call 14; refine Rets.use (HP _ (hM.ext isext)).out ?_; intro _)
            go_ret
            exact ⟨by rw [E3.out]; first | done | rfl, done⟩
          · have g0 : ((ne : Int) == 0) = false := beq_eq_false_iff_ne.2 (by omega)
            by_cases n4 : 40 < ne
            · have E3 : Hid (R = false) := by show _ = _; rw [E2.out, Ha.out, hd.out, EZ.out, show decide (1 ≤ ne ∧ ne ≤ 40) = false from decide_eq_false (by omega)]; rfl
              have g1 : (40 : Int) < ne := by omega
              clear E2 hd Ha EZ
              go_wp2_with (go_at_call 14; refine Rets.use (HP _ (hM.ext isext)).out ?_; intro _)
              go_ret
              exact ⟨by rw [E3.out]; first | done | rfl, done⟩
            · have g1 : decide ((40 : Int) < ne) = false := decide_eq_false (by omega)
              have EQ : Hid (q = Src.erasB es) := by show _ = _; rw [EZ.out, show decide (1 ≤ ne ∧ ne ≤ 40) = true from decide_eq_true (by omega)]; rfl
              clear EZ
              rcases Hre.out with ⟨_, _, e9, h9, _⟩ | ⟨be, oe, c9, e9, k3, k4, m2, hc⟩
              · exact absurd h9 (by omega)
              injection e9 with e9 e8 e7
              subst e9
              clear e8 e7
              haveI : InW be w := ⟨m2⟩
              have HC := Lib.hid hc
              clear hc
              go_wp2_with (go_at_call 14; refine Rets.use (HP _ (hM.ext isext)).out ?_; intro y3)
              go_loopw [64] (fun iv wr => ∃ k : Nat, k ≤ ne ∧ iv = .int .i64 k ∧ Hid (Src.erasB es = Src.erasB (es.drop k)) ∧ Ext y3.x wr) (fun iv _ => ne - (intOf iv).toNat)
              case atStart => exact ⟨0, by omega, rfl, rfl, isext⟩
              case round =>
               obtain ⟨k, k9, rfl, He, hx⟩ := hrel
               obtain ⟨y4, rfl⟩ := fin hx
               clear hx
               by_cases hlk : k < ne
               · have hk : k < es.length := by rw [Hne.out]; exact hlk
                 obtain ⟨d0, d1, d2, d3, d4, d5, d6, d7, d8, d9, d10, d11, d12⟩ := era_at HC.out k hk
                 have hd3 := Lib.hid (Src.eras_drop es k hk)
                 have HE := fun w h => Lib.hid (sera_any es[k] (hfe es[k] (List.getElem_mem hk)) w h)
                 have ht : (es[k].til = decide (k + 1 < es.length) ∧ (es[k].til == decide (k + 1 < es.length)) = true) ∨ (es[k].til = (!decide (k + 1 < es.length)) ∧ (es[k].til == decide (k + 1 < es.length)) = false) := by
                  cases es[k].til <;> cases decide (k + 1 < es.length) <;> simp
                 have hb2 : decide (k + 1 < es.length) = decide ((k : Int) < (ne : Int) - 1) := by
                  rw [Hne.out]; congr 1; apply propext; omega
                 rw [hb2] at hd3 ht
                 generalize es[k] = x at *
                 generalize Src.eraB x = q3 at *
                 obtain ⟨off, kd, s, rs, fm, til, y, m, kk, wd, d, t, r⟩ := x
                 simp only at d0 d1 d2 d3 d4 d5 d6 d7 d8 d9 d10 d11 d12 hd3 ht
                 have hin : (((k : Int) < (ne : Int) - 1) ∧ decide ((k : Int) < (ne : Int) - 1) = true) ∨ (decide ((k : Int) < (ne : Int) - 1) = false) := by
                  by_cases h : (k : Int) < (ne : Int) - 1
                  · exact .inl ⟨h, decide_eq_true h⟩
                  · exact .inr (decide_eq_false h)
                 have hsub : (ne : Int) - 1 ≤ 40 := by omega
                 cases q3
                 · have E3 : Hid (R = false) := by show _ = _; rw [E2.out, Ha.out, hd.out, EQ.out, He.out, hd3.out]; rfl
                   clear E2 hd Ha EQ He hd3 ht hin
                   go_wp2_with (go_at_call 44; refine Rets.use (HE _ (hM.ext isext)).out ?_; intro _)
                   go_ret
                   exact ⟨by rw [E3.out]; first | done | rfl, done⟩
                 · rcases ht with ⟨h1, h2⟩ | ⟨h1, h2⟩
                   · have E3 : Hid (Src.erasB es = Src.erasB (es.drop (k + 1))) := by show _ = _; rw [He.out, hd3.out, h2]; rfl
                     clear hd3 h2 He
                     rcases hin with ⟨h3, h4⟩ | h3
                     · rw [h4] at h1
                       subst h1
                       go_wp2_with (go_at_call 44; refine Rets.use (HE _ (hM.ext isext)).out ?_; intro _)
                       go_roundw
                       case rel => exact ⟨k + 1, by omega, by go_num, E3, isext⟩
                       case measure => simp [intOf]; omega
                     · rw [h3] at h1
                       subst h1
                       go_wp2_with (go_at_call 44; refine Rets.use (HE _ (hM.ext isext)).out ?_; intro _)
                       go_roundw
                       case rel => exact ⟨k + 1, by omega, by go_num, E3, isext⟩
                       case measure => simp [intOf]; omega
                   · have E3 : Hid (R = false) := by show _ = _; rw [E2.out, Ha.out, hd.out, EQ.out, He.out, hd3.out, h2]; rfl
                     clear hd3 h2 He E2 hd Ha EQ
                     rcases hin with ⟨h3, h4⟩ | h3
                     · rw [h4] at h1
                       subst h1
                       go_wp2_with (go_at_call 44; refine Rets.use (HE _ (hM.ext isext)).out ?_; intro _)
                       go_ret
                       exact ⟨by rw [E3.out]; first | done | rfl, done⟩
                     · rw [h3] at h1
                       subst h1
                       go_wp2_with (go_at_call 44; refine Rets.use (HE _ (hM.ext isext)).out ?_; intro _)
                       go_ret
                       exact ⟨by rw [E3.out]; first | done | rfl, done⟩
               · have E3 : Hid (zl.all Src.zoneB = (zl.drop (j + 1)).all Src.zoneB) := by
                  show _ = _
                  rw [Ha.out, hd.out, EQ.out, He.out, List.drop_eq_nil_of_le (by rw [Hne.out]; omega)]; rfl
                 clear Ha hd EQ He
                 go_wp2
                 go_roundw
                 case rel => exact ⟨j + 1, by omega, by go_num, E3, isext⟩
                 case measure => simp [intOf]; omega
      · have E3 : Hid (R = ll.all Src.linkB) := by
         show _ = _
         rw [E2.out, Ha.out, List.drop_eq_nil_of_le (by rw [Hnz.out]; omega)]; rfl
        clear E2 Ha
        go_wp2_with fail
        go_loopw [88] (fun iv wr => ∃ j : Nat, j ≤ nl ∧ iv = .int .i64 j ∧ Hid (ll.all Src.linkB = (ll.drop j).all Src.linkB) ∧ Ext (w.alloc (.cells #[.slice ar nr cr, .slice az nz cz, .slice al nl cl] 26)) wr) (fun iv _ => nl - (intOf iv).toNat)
        case atStart => exact ⟨0, by omega, rfl, rfl, isext⟩
        case round =>
         obtain ⟨j, j1, rfl, Ha, hx⟩ := hrel
         obtain ⟨y3, rfl⟩ := fin hx
         clear hx
         by_cases hlt : j < nl
         · have hj : j < ll.length := by rw [Hnl.out]; exact hlt
           rcases Hr3.out with ⟨_, _, e9, h9, _⟩ | ⟨b, o, c9, e9, k1, k2, m1, hc⟩
           · exact absurd h9 (by omega)
           injection e9 with e9 e8 e7
           subst e9
           clear e8 e7
           haveI : InW b w := ⟨m1⟩
           obtain ⟨c0, c1⟩ := link_at hc j hj
           clear hc
           have hd := Lib.hid (Src.all_drop Src.linkB ll j hj)
           have hfl := F3 ll[j] (List.getElem_mem hj)
           generalize ll[j] = x at *
           obtain ⟨tg, nm⟩ := x
           obtain ⟨hf1, hf2⟩ := hfl
           simp only at c0 c1 hf1 hf2
           have HA := fun w h => Lib.hid (place_any tg (by omega) w h)
           have HB := fun w h => Lib.hid (place_any nm (by omega) w h)
           have EL : Hid (Src.linkB ⟨tg, nm⟩ = (Src.placeB tg.data.toList && Src.placeB nm.data.toList)) := rfl
           generalize Src.linkB ⟨tg, nm⟩ = q at *
           generalize Src.placeB tg.data.toList = p1 at *
           generalize Src.placeB nm.data.toList = p2 at *
           cases p1
           · have E4 : Hid (R = false) := by show _ = _; rw [E3.out, Ha.out, hd.out, EL.out]; rfl
             clear E3 hd Ha EL
             go_wp2_with fail
             go_at_call 14
             refine Rets.use (HA _ (hM.ext isext)).out ?_
             intro _
             go_wp2
             go_ret
             exact ⟨by rw [E4.out]; first | done | rfl, done⟩
           · cases p2
             · have E4 : Hid (R = false) := by show _ = _; rw [E3.out, Ha.out, hd.out, EL.out]; rfl
               clear E3 hd Ha EL
               go_wp2_with fail
               go_at_call 14
               refine Rets.use (HA _ (hM.ext isext)).out ?_
               intro _
               go_wp2_with fail
               go_at_call 14
               refine Rets.use (HB _ (hM.ext isext)).out ?_
               intro _
               go_wp2
               go_ret
               exact ⟨by rw [E4.out]; first | done | rfl, done⟩
             · have E4 : Hid (ll.all Src.linkB = (ll.drop (j + 1)).all Src.linkB) := by show _ = _; rw [Ha.out, hd.out, EL.out]; rfl
               clear hd Ha EL
               go_wp2_with fail
               go_at_call 14
               refine Rets.use (HA _ (hM.ext isext)).out ?_
               intro _
               go_wp2_with fail
               go_at_call 14
               refine Rets.use (HB _ (hM.ext isext)).out ?_
               intro _
               go_wp2
               go_roundw
               case rel => exact ⟨j + 1, by omega, by go_num, E4, isext⟩
               case measure => simp [intOf]; omega
         · have E4 : Hid (R = true) := by
            show _ = _
            rw [E3.out, Ha.out, List.drop_eq_nil_of_le (by rw [Hnl.out]; omega)]; rfl
           clear E3 Ha
           go_wp2
           go_ret
           exact ⟨by rw [E4.out]; first | done | rfl, done⟩
 all_goals
  have E1 : Hid (R = false) := E.out
  clear E
  go_enter Tryz.func21, Tryz.ntmps21
  go_wp2
  go_ret
  exact ⟨by rw [E1.out]; first | done | rfl, done⟩
end Go.Proofs.YtdhbgelijjlifaaGreatDoor
namespace Go.Proofs.YtdhbgelijjlifaaGreatDoor
open Go.RowKit
end Go.Proofs.YtdhbgelijjlifaaGreatDoor
namespace Go.Proofs.YtdhbgelijjlifaaGreatDoor
open Go.RowKit
end Go.Proofs.YtdhbgelijjlifaaGreatDoor
namespace Go.Proofs.YtdhbgelijjlifaaGreatDoor
open Go.RowKit
end Go.Proofs.YtdhbgelijjlifaaGreatDoor
namespace Go.Proofs.YtdhbgelijjlifaaGreatDoor
open Go.RowKit
def kindR (x : Era) : Bool := decide (0 ≤ x.kd ∧ x.kd ≤ 2) && (x.kd == 1 || x.s == 0) && (x.kd == 2 || x.rs.data.toList.isEmpty) && (!(x.kd == 2) || Src.setB x.rs.data.toList)
def headR (x : Era) : Bool := Src.offB x && Src.saveB x.s && Src.fmtB x.fm.data.toList
theorem rera_eq (x : Era) : Src.eraB x = (headR x && kindR x && Src.endB x) := by
 rw [← Src.era_same]; rfl
theorem head_cases (x : Era) : (x.off ≤ -86400 ∧ headR x = false) ∨ (decide (x.off ≤ -86400) = false ∧ 86400 ≤ x.off ∧ headR x = false) ∨ (decide (x.off ≤ -86400) = false ∧ decide (86400 ≤ x.off) = false ∧ 43200 < x.s ∧ headR x = false) ∨
 (decide (x.off ≤ -86400) = false ∧ decide (86400 ≤ x.off) = false ∧ decide (43200 < x.s) = false ∧ x.s < -43200 ∧ headR x = false) ∨
 (decide (x.off ≤ -86400) = false ∧ decide (86400 ≤ x.off) = false ∧ decide (43200 < x.s) = false ∧ decide (x.s < -43200) = false ∧ headR x = Src.fmtB x.fm.data.toList) := by
 unfold headR Src.offB Src.saveB
 by_cases h1 : x.off ≤ -86400
 · exact .inl ⟨h1, by rw [show decide (-86400 < x.off ∧ x.off < 86400) = false from decide_eq_false (by omega)]; rfl⟩
 · by_cases h2 : 86400 ≤ x.off
   · exact .inr (.inl ⟨decide_eq_false h1, h2, by rw [show decide (-86400 < x.off ∧ x.off < 86400) = false from decide_eq_false (by omega)]; rfl⟩)
   · by_cases h3 : 43200 < x.s
     · exact .inr (.inr (.inl ⟨decide_eq_false h1, decide_eq_false h2, h3, by rw [show decide (-43200 ≤ x.s ∧ x.s ≤ 43200) = false from decide_eq_false (by omega)]; simp⟩))
     · by_cases h4 : x.s < -43200
       · exact .inr (.inr (.inr (.inl ⟨decide_eq_false h1, decide_eq_false h2, decide_eq_false h3, h4, by rw [show decide (-43200 ≤ x.s ∧ x.s ≤ 43200) = false from decide_eq_false (by omega)]; simp⟩)))
       · exact .inr (.inr (.inr (.inr ⟨decide_eq_false h1, decide_eq_false h2, decide_eq_false h3, decide_eq_false h4, by rw [show decide (-43200 ≤ x.s ∧ x.s ≤ 43200) = true from decide_eq_true (by omega), show decide (-86400 < x.off ∧ x.off < 86400) = true from decide_eq_true (by omega)]; rfl⟩)))
set_option maxRecDepth 100000 in
set_option maxHeartbeats 8000000 in
theorem dera_no (x : Era) (h1 : x.rs.size ≤ maxLen) (h2 : x.fm.size ≤ maxLen) (w : World) (hno : headR x = false) : Rets Tryz.prog 75 #[eraV x] w (.bool false) := by
 have HF := fun w => Lib.hid (dformat_any x.fm h2 w)
 have ho := head_cases x
 rw [hno] at ho
 generalize Src.fmtB x.fm.data.toList = F at *
 obtain ⟨off, kd, s, rs, fm, til, y, m, k, wd, d, t, r⟩ := x
 simp only at ho
 clear hno
 unfold Rets
 rcases ho with ⟨o1, -⟩ | ⟨o1, o2, -⟩ | ⟨o1, o2, o3, -⟩ | ⟨o1, o2, o3, o4, -⟩ | ⟨o1, o2, o3, o4, o5⟩
 case inr.inr.inr.inr =>
  subst o5
  go_enter Tryz.func75, Tryz.ntmps75
  go_wp2_with (go_at_call 91; refine Rets.use (HF _).out ?_; intro _)
  go_ret
  exact ⟨rfl, done⟩
 all_goals
  go_enter Tryz.func75, Tryz.ntmps75
  go_wp2
  go_ret
  exact ⟨rfl, done⟩
theorem kindR_cases (x : Era) : (x.kd < 0 ∧ kindR x = false) ∨ (decide (x.kd < 0) = false ∧ 2 < x.kd ∧ kindR x = false) ∨ (x.kd = 0 ∧ kindR x = (x.s == 0 && x.rs.data.toList.isEmpty)) ∨ (x.kd = 1 ∧ kindR x = x.rs.data.toList.isEmpty) ∨ (x.kd = 2 ∧ kindR x = (x.s == 0 && Src.setB x.rs.data.toList)) := by
 unfold kindR
 by_cases h1 : x.kd < 0
 · exact .inl ⟨h1, by rw [show decide (0 ≤ x.kd ∧ x.kd ≤ 2) = false from decide_eq_false (by omega)]; rfl⟩
 · by_cases h2 : 2 < x.kd
   · exact .inr (.inl ⟨decide_eq_false h1, h2, by rw [show decide (0 ≤ x.kd ∧ x.kd ≤ 2) = false from decide_eq_false (by omega)]; rfl⟩)
   · have : x.kd = 0 ∨ x.kd = 1 ∨ x.kd = 2 := by omega
     rcases this with h | h | h
     · exact .inr (.inr (.inl ⟨h, by rw [h]; simp⟩))
     · exact .inr (.inr (.inr (.inl ⟨h, by rw [h]; simp⟩)))
     · exact .inr (.inr (.inr (.inr ⟨h, by rw [h]; simp⟩)))
set_option maxRecDepth 100000 in
set_option maxHeartbeats 16000000 in
theorem dera_yes (x : Era) (h1 : x.rs.size ≤ maxLen) (h2 : x.fm.size ≤ maxLen) (w : World) (hyes : headR x = true) : Rets Tryz.prog 75 #[eraV x] w (.bool (kindR x && Src.endB x)) := by
 have HF := fun w => Lib.hid (dformat_any x.fm h2 w)
 have hF : Src.fmtB x.fm.data.toList = true := by
  unfold headR at hyes; simp only [Bool.and_eq_true] at hyes; exact hyes.2
 rw [hF] at HF
 have ho := head_cases x
 have ho : decide (x.off ≤ -86400) = false ∧ decide (86400 ≤ x.off) = false ∧ decide (43200 < x.s) = false ∧ decide (x.s < -43200) = false := by
  rcases ho with ⟨_, h⟩ | ⟨_, _, h⟩ | ⟨_, _, _, h⟩ | ⟨_, _, _, _, h⟩ | ⟨a, b, c, d, _⟩
  · rw [hyes] at h; cases h
  · rw [hyes] at h; cases h
  · rw [hyes] at h; cases h
  · rw [hyes] at h; cases h
  · exact ⟨a, b, c, d⟩
 obtain ⟨o1, o2, o3, o4⟩ := ho
 have HS := fun w => Lib.hid (dset_any x.rs h1 w)
 have HR : ∀ w, Hid (Rets Tryz.prog 73 #[spotA x.m x.k x.wd x.d x.t x.r] w (.bool (Mom.rightB x.m x.k x.wd x.d x.t x.r))) := fun w => rright_whole x.m x.k x.wd x.d x.t x.r w
 have hr := empty_cases x.rs
 have hs : (x.s = 0) ∨ ((x.s == 0) = false ∧ (x.s != 0) = true) := by
  by_cases h : x.s = 0
  · exact .inl h
  · have : (x.s == 0) = false := beq_eq_false_iff_ne.2 h
    exact .inr ⟨this, by unfold bne; rw [this]; rfl⟩
 have hk := kindR_cases x
 have hk : (x.kd < 0 ∧ Hid (kindR x = false)) ∨ (decide (x.kd < 0) = false ∧ 2 < x.kd ∧ Hid (kindR x = false)) ∨ (x.kd = 0 ∧ Hid (kindR x = (x.s == 0 && x.rs.data.toList.isEmpty))) ∨ (x.kd = 1 ∧ Hid (kindR x = x.rs.data.toList.isEmpty)) ∨ (x.kd = 2 ∧ Hid (kindR x = (x.s == 0 && Src.setB x.rs.data.toList))) := hk
 have he : (x.til = true ∧ Hid (Src.endB x = (Src.yearB x.y && Mom.rightB x.m x.k x.wd x.d x.t x.r))) ∨ (x.til = false ∧ Hid (Src.endB x = (x.y == 0 && (x.m == 0 && x.k == 0 && x.wd == 0 && x.d == 0 && x.t == 0 && x.r == 0)))) := by
  unfold Src.endB
  cases ht : x.til
  · exact .inr ⟨rfl, by show _ = _; rw [if_neg (by simp)]⟩
  · exact .inl ⟨rfl, by show _ = _; rw [if_pos rfl]⟩
 have hy : (decide (1 ≤ x.y) = false ∧ Src.yearB x.y = false) ∨ (1 ≤ x.y ∧ decide (x.y ≤ 9999) = false ∧ Src.yearB x.y = false) ∨ (1 ≤ x.y ∧ x.y ≤ 9999 ∧ Src.yearB x.y = true) := by
  unfold Src.yearB
  by_cases h1 : 1 ≤ x.y
  · by_cases h2 : x.y ≤ 9999
    · exact .inr (.inr ⟨h1, h2, decide_eq_true ⟨h1, h2⟩⟩)
    · exact .inr (.inl ⟨h1, decide_eq_false h2, decide_eq_false (by omega)⟩)
  · exact .inl ⟨decide_eq_false h1, decide_eq_false (by omega)⟩
 clear hF hyes
 generalize kindR x = K at *
 generalize Src.endB x = En at *
 obtain ⟨Res, hRes⟩ : ∃ Res, Hid (Res = (K && En)) := ⟨_, rfl⟩
 rw [← hRes.out]
 generalize Src.setB x.rs.data.toList = S at *
 generalize Src.yearB x.y = Y at *
 generalize Mom.rightB x.m x.k x.wd x.d x.t x.r = P at *
 obtain ⟨off, kd, s, rs, fm, til, y, m, k, wd, d, t, r⟩ := x
 simp only at hr o1 o2 o3 o4 hk he hs hy ⊢
 generalize rs.data.toList.isEmpty = R at *
 unfold Rets
 rcases hk with ⟨g1, EK⟩ | ⟨g1, g2, EK⟩ | ⟨rfl, EK⟩ | ⟨rfl, EK⟩ | ⟨rfl, EK⟩
 · have E2 : Hid (Res = false) := by show _ = _; rw [hRes.out, EK.out]; rfl
   clear hRes EK hs hr he hy
   go_enter Tryz.func75, Tryz.ntmps75
   go_wp2_with (go_at_call 91; refine Rets.use (HF _).out ?_; intro _)
   go_ret
   exact ⟨by rw [E2.out]; first | done | rfl, done⟩
 · have E2 : Hid (Res = false) := by show _ = _; rw [hRes.out, EK.out]; rfl
   clear hRes EK hs hr he hy
   go_enter Tryz.func75, Tryz.ntmps75
   go_wp2_with (go_at_call 91; refine Rets.use (HF _).out ?_; intro _)
   go_ret
   exact ⟨by rw [E2.out]; first | done | rfl, done⟩
 all_goals
  cases S <;> rcases hs with rfl | ⟨s1, s2⟩ <;> rcases hr with ⟨rfl, rfl⟩ | ⟨r1, rfl⟩
 all_goals first
  | (have E2 : Hid (Res = false) := by
      show _ = _
      rw [hRes.out, EK.out]
      first | rfl | (rw [s1]; rfl)
     clear hRes EK he hy
     go_enter Tryz.func75, Tryz.ntmps75
     go_wp2_with (first | (go_at_call 91; refine Rets.use (HF _).out ?_; intro _) | (go_at_call 13; refine Rets.use (HS _).out ?_; intro _))
     go_ret
     exact ⟨by rw [E2.out]; first | done | rfl, done⟩)
  | (have E2 : Hid (Res = En) := by
      show _ = _
      rw [hRes.out, EK.out]
      exact Bool.true_and _
     clear hRes EK
     rcases he with ⟨rfl, EE⟩ | ⟨rfl, EE⟩
     · rcases hy with ⟨y1, rfl⟩ | ⟨y1, y2, rfl⟩ | ⟨y1, y2, rfl⟩
       all_goals
        go_enter Tryz.func75, Tryz.ntmps75
        go_wp2_with (first | (go_at_call 91; refine Rets.use (HF _).out ?_; intro _) | (go_at_call 13; refine Rets.use (HS _).out ?_; intro _) | (go_at_call 73; refine Rets.use (HR _).out ?_; intro _))
        go_ret
        exact ⟨ret_bool (by rw [E2.out, EE.out]; first | done | rfl | simp), done⟩
     · clear hy
       go_enter Tryz.func75, Tryz.ntmps75
       go_wp2_with (first | (go_at_call 91; refine Rets.use (HF _).out ?_; intro _) | (go_at_call 13; refine Rets.use (HS _).out ?_; intro _))
       all_goals (go_ret; exact ⟨ret_bool (by rw [E2.out, EE.out]; simp [*]), done⟩))
theorem dera_any (x : Era) (hf : fitsE x) (w : World) : Rets Tryz.prog 75 #[eraV x] w (.bool (Src.eraB x)) := by
 rw [rera_eq]
 cases hh : headR x
 · exact dera_no x (le_max hf.1) (le_max hf.2) w hh
 · exact dera_yes x (le_max hf.1) (le_max hf.2) w hh
end Go.Proofs.YtdhbgelijjlifaaGreatDoor
