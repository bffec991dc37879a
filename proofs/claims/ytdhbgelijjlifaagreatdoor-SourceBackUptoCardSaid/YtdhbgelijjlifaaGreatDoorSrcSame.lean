/- Walks of sources: what every right program answers; the law of names. -/
import Derived.Test.YtdhbgelijjlifaaGreatDoorSrcRdW
import Derived.Test.YtdhbgelijjlifaaGreatDoorSrcWalkJ
import Derived.Test.YtdhbgelijjlifaaGreatDoorSrcWalkD
import Derived.Deep.DeepCutAuto
import Derived.BigQuiet
set_option linter.unusedVariables false
set_option linter.unusedSimpArgs false
namespace Go.Proofs.YtdhbgelijjlifaaGreatDoor
open Go.RowKit Go.Shelf
abbrev liveT : ByteArray := ⟨#[82, 117, 108, 101, 32, 85, 83, 32, 49, 57, 54, 55, 32, 50, 48, 48, 54, 32, 45, 32, 79, 99, 116, 32, 108, 97, 115, 116, 83, 117, 110, 32, 50, 58, 48, 48, 32, 48, 32, 83, 10, 90, 111, 110, 101, 32, 65, 32, 49, 58, 48, 48, 32, 85, 83, 32, 67, 37, 115, 84, 10]⟩
abbrev liveU : ByteArray := ⟨#[90, 111, 110, 101, 32, 65, 32, 50, 52, 32, 45, 32, 88]⟩
theorem liveT_good : (match Src.parseT liveT with | .inl _ => none | .inr S => some (S.rules.length, S.zones.map fun z => z.es.map fun e => e.rs.data.toList)) = some (1, [[[85, 83]]]) := by decide +kernel
theorem liveU_bad : (match Src.parseT liveU with | .inl f => some (f.e, f.line, f.at0) | .inr _ => none) = some (11, 1, 7) := by decide +kernel
theorem live_parts {P : Fault ⊕ Source} (h : (match P with | .inl _ => none | .inr S => some (S.rules.length, S.zones.map fun z => z.es.map fun e => e.rs.data.toList)) = some (1, [[[85, 83]]])) : ∃ S z e, P = .inr S ∧ S.rules.length = 1 ∧ S.zones = [z] ∧ z.es = [e] ∧ e.rs = ⟨#[85, 83]⟩ := by
 cases P with
 | inl f => cases h
 | inr S =>
   simp only [Option.some.injEq, Prod.mk.injEq] at h
   obtain ⟨h1, h2⟩ := h
   obtain ⟨rs, zs, ls⟩ := S
   simp only at h1 h2
   obtain ⟨z, rfl, h3⟩ := List.map_eq_singleton_iff.1 h2
   obtain ⟨nm, es⟩ := z
   obtain ⟨e, he, h4⟩ := List.map_eq_singleton_iff.1 h3
   have he : es = [e] := he
   subst he
   refine ⟨_, _, e, rfl, h1, rfl, rfl, ?_⟩
   have : e.rs.data = #[85, 83] := by rw [← Array.toArray_toList (xs := e.rs.data), h4]
   cases hb : e.rs
   rw [hb] at this
   simp at this
   rw [this]
theorem liveT_parts : ∃ S z e, Src.parseT liveT = .inr S ∧ S.rules.length = 1 ∧ S.zones = [z] ∧ z.es = [e] ∧ e.rs = ⟨#[85, 83]⟩ := live_parts liveT_good
theorem live_fault {P : Fault ⊕ Source} (h : (match P with | .inl f => some (f.e, f.line, f.at0) | .inr _ => none) = some (11, 1, 7)) : P = .inl ⟨11, 1, 7⟩ := by
 cases P with
 | inr S => cases h
 | inl f =>
   simp only [Option.some.injEq, Prod.mk.injEq] at h
   obtain ⟨e, l, a⟩ := f
   simp only at h
   obtain ⟨rfl, rfl, rfl⟩ := h
   rfl
theorem liveU_part : Src.parseT liveU = .inl ⟨11, 1, 7⟩ := live_fault liveU_bad
def LiveEnd (w : World) (e : Ending) (w' : World) : Prop := ∃ (ar : Option Addr) (cr bz oz cz be oe ce : Nat) (al : Option Addr) (nl cl : Nat) (y : Past w), e = .returned (.tuple #[.agg #[.slice ar 1 cr, .slice (some ⟨bz, oz, none⟩) 1 cz, .slice al nl cl], faultC ⟨0, 0, 0⟩]) ∧
 bz < y.x.heap.size ∧ be < y.x.heap.size ∧ y.x.cell? ⟨bz, oz + 1, none⟩ = some (.slice (some ⟨be, oe, none⟩) 1 ce) ∧ y.x.cell? ⟨be, oe + 3, none⟩ = some (.string ⟨#[85, 83]⟩) ∧ w' = y.x
theorem live_first (w : World) (hg : GoodW w) : Calls Tryz.prog 8 #[.string liveT] w (LiveEnd w) := by
 refine (sparse_any liveT (by decide) w hg).mono fun e w' h => ?_
 obtain ⟨S, z, x, hp, h1, h2, h3, h4⟩ := liveT_parts
 rw [hp] at h
 obtain ⟨v, y, rfl, ⟨vr, vz, vl, rfl, hr, ⟨zp, hzp, hz2, hz3⟩, hl⟩, rfl⟩ := h
 rw [h1] at hr
 rw [h2] at hz2 hzp
 obtain ⟨ar, cr, rfl⟩ := shape_of hr
 obtain ⟨al, cl, rfl⟩ := shape_of hl
 match zp, hzp with
 | [p], hzp =>
   have hpz : p.1 = z := by simpa using hzp
   have he := hz3 p (by simp)
   rw [hpz, h3] at he
   rcases hz2 with ⟨_, _, _, h9, _⟩ | ⟨bz, oz, cz, rfl, _, _, m1, hc⟩
   · cases h9
   rcases he with ⟨_, _, _, h9, _⟩ | ⟨be, oe, ce, e9, _, _, m2, hc2⟩
   · cases h9
   obtain ⟨c0, c1⟩ := zone_at hc 0 (by simp)
   obtain ⟨d0, d1, d2, d3, -⟩ := era_at hc2 0 (by simp)
   simp only [Nat.zero_mul, Nat.add_zero, List.getElem_cons_zero] at c1 d3
   rw [e9] at c1
   rw [h4] at d3
   exact ⟨ar, cr, bz, oz, cz, be, oe, ce, al, _, cl, y, rfl, m1, m2, c1, d3, rfl⟩
theorem live_second (w : World) (hg : GoodW w) : Rets Tryz.prog 8 #[.string liveU] w (.tuple #[.agg #[.slice none 0 0, .slice none 0 0, .slice none 0 0], .agg #[.int .i64 11, .int .i64 1, .int .i64 7]]) := by
 refine (sparse_any liveU (by decide) w hg).mono fun e w' h => ?_
 rw [liveU_part] at h
 obtain ⟨rfl, y, rfl⟩ := h
 exact ⟨rfl, y, rfl⟩
theorem live_set : Src.setB [97] = true := by decide +kernel
theorem live_place : Src.placeB [65, 47, 66] = true := by decide +kernel
set_option maxRecDepth 100000 in
set_option maxHeartbeats 8000000 in
theorem slive_any (w : World) (hg : GoodW w) : Rets Tryz.prog 10 #[] w (.bool true) := by
 have H1 := fun w h => Lib.hid (live_first w h)
 have H2 := fun w h => Lib.hid (live_second w h)
 have H3 := fun w => Lib.hid (sset_any ⟨#[97]⟩ (by decide) w)
 have H4 := fun w h => Lib.hid (place_any ⟨#[65, 47, 66]⟩ (by decide) w h)
 rw [show (⟨#[97]⟩ : ByteArray).data.toList = [97] from rfl, live_set] at H3
 rw [show (⟨#[65, 47, 66]⟩ : ByteArray).data.toList = [65, 47, 66] from rfl, live_place] at H4
 unfold Rets
 go_enter Tryz.func10, Tryz.ntmps10
 go_wp2_with fail
 go_at_call 8
 refine (H1 _ (hg.ext isext)).out.mono ?_
 rintro _ _ ⟨ar, cr, bz, oz, cz, be, oe, ce, al, nl, cl, y1, rfl, m1, m2, c1, c2, rfl⟩
 haveI : InW bz y1.x := ⟨m1⟩
 haveI : InW be y1.x := ⟨m2⟩
 clear m1 m2
 go_wp2_with fail
 go_at_call 8
 refine Rets.use (H2 _ (hg.ext isext)).out ?_
 intro y2
 go_wp2_with (first | (go_at_call 12; refine Rets.use (H3 _).out ?_; intro _) | (go_at_call 14; refine Rets.use (H4 _ (hg.max.ext isext)).out ?_; intro _))
 go_ret
 exact ⟨rfl, done⟩
set_option maxRecDepth 100000 in
set_option maxHeartbeats 8000000 in
theorem nameslaw_row0 (s : ByteArray) (hs : s.size ≤ 1048576) (w : World) (hg : GoodW w) : Rets Tryz.prog 4 #[.string s] w (.bool true) := by
 have HA := fun w h => Lib.hid (slive_any w h)
 have H1 := fun w => Lib.hid (sset_any s (by unfold maxLen; omega) w)
 have H2 := fun w => Lib.hid (dset_any s (by unfold maxLen; omega) w)
 have H3 := fun w h => Lib.hid (place_any s (by omega) w h)
 have H4 := fun w => Lib.hid (dplace_any s (by unfold maxLen; omega) w)
 generalize Src.setB s.data.toList = A at *
 generalize Src.placeB s.data.toList = B at *
 unfold Rets
 go_enter Tryz.func4, Tryz.ntmps4
 go_wp2_with (first | (go_at_call 10; refine Rets.use (HA _ (hg.ext isext)).out ?_; intro _) | (go_at_call 12; refine Rets.use (H1 _).out ?_; intro _) | (go_at_call 13; refine Rets.use (H2 _).out ?_; intro _) | (go_at_call 14; refine Rets.use (H3 _ (hg.max.ext isext)).out ?_; intro _) | (go_at_call 15; refine Rets.use (H4 _).out ?_; intro _))
 go_ret
 exact ⟨ret_bool (by simp), done⟩
end Go.Proofs.YtdhbgelijjlifaaGreatDoor
namespace Go.Proofs.YtdhbgelijjlifaaGreatDoor
open Go.RowKit
theorem reads_cells {w w' : World} {b o : Nat} {cs : List Value} (hx : Ext w w') (hb : b < w.heap.size) (h : ∀ i u, cs[i]? = some u → w.cell? ⟨b, o + i, none⟩ = some u) : ∀ i u, cs[i]? = some u → w'.cell? ⟨b, o + i, none⟩ = some u :=
 fun i u hu => (Below.cell (p := ⟨b, o + i, none⟩) hx hb).trans (h i u hu)
set_option maxRecDepth 100000 in
set_option maxHeartbeats 16000000 in
theorem dsame_any (S : Source) (va vb : Value) (w : World) (ha : ReadsS w va S) (hb : ReadsS w vb S) : Rets Tryz.prog 11 #[va, vb] w (.bool true) := by
 obtain ⟨rl, zl, ll⟩ := S
 obtain ⟨ur, uz, ul, rfl, pr, ⟨zp, hzp, pz, pe⟩, pl⟩ := ha
 obtain ⟨vr, vz, vl, rfl, qr, ⟨zq, hzq, qz, qe⟩, ql⟩ := hb
 simp only at pr pz pl qr qz ql hzp hzq
 obtain ⟨nr, hnr⟩ : ∃ n, rl.length = n := ⟨_, rfl⟩
 obtain ⟨nz, hnz⟩ : ∃ n, zl.length = n := ⟨_, rfl⟩
 obtain ⟨nl, hnl⟩ : ∃ n, ll.length = n := ⟨_, rfl⟩
 rw [hnr] at pr qr
 rw [hnz] at pz qz
 rw [hnl] at pl ql
 obtain ⟨a1, c1, rfl⟩ := shape_of pr
 obtain ⟨a2, c2, rfl⟩ := shape_of pz
 obtain ⟨a3, c3, rfl⟩ := shape_of pl
 obtain ⟨a4, c4, rfl⟩ := shape_of qr
 obtain ⟨a5, c5, rfl⟩ := shape_of qz
 obtain ⟨a6, c6, rfl⟩ := shape_of ql
 have b1 := len_of pr
 have b2 := len_of pz
 have b3 := len_of pl
 have Pr := Lib.hid pr
 have Pz := Lib.hid pz
 have Pl := Lib.hid pl
 have Pe := Lib.hid pe
 have Qr := Lib.hid qr
 have Qz := Lib.hid qz
 have Ql := Lib.hid ql
 have Qe := Lib.hid qe
 have Hnr := Lib.hid hnr
 have Hnz := Lib.hid hnz
 have Hnl := Lib.hid hnl
 have Hp := Lib.hid hzp
 have Hq := Lib.hid hzq
 clear pr pz pl pe qr qz ql qe hnr hnz hnl hzp hzq
 unfold Rets
 go_enter Tryz.func11, Tryz.ntmps11
 go_wp2_with fail
 go_loopw [5] (fun iv wr => ∃ j : Nat, j ≤ nr ∧ iv = .int .i64 j ∧ Ext ((w.alloc (.cells #[.slice a1 nr c1, .slice a2 nz c2, .slice a3 nl c3] 26)).alloc (.cells #[.slice a4 nr c4, .slice a5 nz c5, .slice a6 nl c6] 26)) wr) (fun iv _ => nr - (intOf iv).toNat)
 case atStart => exact ⟨0, by omega, rfl, isext⟩
 case round =>
  obtain ⟨j, j1, rfl, hx⟩ := hrel
  obtain ⟨y1, rfl⟩ := fin hx
  clear hx
  by_cases hlt : j < nr
  · have hj : j < rl.length := by rw [Hnr.out]; exact hlt
    rcases Pr.out with ⟨_, _, e9, h9, _⟩ | ⟨b, o, c9, e9, k1, k2, m1, hc⟩
    · exact absurd h9 (by omega)
    rcases Qr.out with ⟨_, _, g9, h9, _⟩ | ⟨d, p, d9, g9, i1, i2, n1, hd⟩
    · exact absurd h9 (by omega)
    injection e9 with e9 e8 e7
    subst e9
    clear e8 e7
    injection g9 with g9 g8 g7
    subst g9
    clear g8 g7
    haveI : InW b w := ⟨m1⟩
    haveI : InW d w := ⟨n1⟩
    obtain ⟨s0, s1, s2, s3, s4, s5, s6, s7, s8, s9, s10⟩ := rule_at hc j hj
    obtain ⟨t0, t1, t2, t3, t4, t5, t6, t7, t8, t9, t10⟩ := rule_at hd j hj
    clear hc hd
    generalize rl[j] = x at *
    obtain ⟨nm, a, b', m, k, wd, dd, t, r, s, lt⟩ := x
    simp only at s0 s1 s2 s3 s4 s5 s6 s7 s8 s9 s10 t0 t1 t2 t3 t4 t5 t6 t7 t8 t9 t10
    go_wp2_with fail
    go_quiet (fail)
    go_wp2_with fail
    go_roundw
    case rel => exact ⟨j + 1, by omega, by go_num, isext⟩
    case measure => simp [intOf]; omega
  · obtain rfl : nr = j := by omega
    go_wp2_with fail
    clear b1 Pr Qr
    go_loopw [6] (fun iv wr => ∃ j : Nat, j ≤ nz ∧ iv = .int .i64 j ∧ Ext ((w.alloc (.cells #[.slice a1 nr c1, .slice a2 nz c2, .slice a3 nl c3] 26)).alloc (.cells #[.slice a4 nr c4, .slice a5 nz c5, .slice a6 nl c6] 26)) wr) (fun iv _ => nz - (intOf iv).toNat)
    case atStart => exact ⟨0, by omega, rfl, isext⟩
    case round =>
     obtain ⟨k, j2, rfl, hx⟩ := hrel
     obtain ⟨y2, rfl⟩ := fin hx
     clear hx
     by_cases hlt : k < nz
     · have hk : k < zl.length := by rw [Hnz.out]; exact hlt
       have hkp : k < zp.length := by have := congrArg List.length Hp.out; rw [List.length_map] at this; omega
       have hkq : k < zq.length := by have := congrArg List.length Hq.out; rw [List.length_map] at this; omega
       have ep : zp[k].1 = zl[k] := by
        have : (zp.map (·.1))[k]'(by rw [List.length_map]; exact hkp) = zl[k] := by simp only [Hp.out]
        rwa [List.getElem_map] at this
       have eq : zq[k].1 = zl[k] := by
        have : (zq.map (·.1))[k]'(by rw [List.length_map]; exact hkq) = zl[k] := by simp only [Hq.out]
        rwa [List.getElem_map] at this
       have rp := Pe.out zp[k] (List.getElem_mem hkp)
       have rq := Qe.out zq[k] (List.getElem_mem hkq)
       rcases Pz.out with ⟨_, _, e9, h9, _⟩ | ⟨b, o, c9, e9, k1, k2, m1, hc⟩
       · exact absurd h9 (by omega)
       rcases Qz.out with ⟨_, _, g9, h9, _⟩ | ⟨d, p, d9, g9, i1, i2, n1, hd⟩
       · exact absurd h9 (by omega)
       injection e9 with e9 e8 e7
       subst e9
       clear e8 e7
       injection g9 with g9 g8 g7
       subst g9
       clear g8 g7
       haveI : InW b w := ⟨m1⟩
       haveI : InW d w := ⟨n1⟩
       obtain ⟨s0, s1⟩ := zone_at hc k hkp
       obtain ⟨t0, t1⟩ := zone_at hd k hkq
       rw [ep] at s0 rp
       rw [eq] at t0 rq
       generalize zp[k].2 = V at *
       generalize zq[k].2 = V' at *
       generalize zl[k] = z at *
       obtain ⟨nm, es⟩ := z
       simp only at s0 t0 rp rq
       obtain ⟨ne, hne⟩ : ∃ n, es.length = n := ⟨_, rfl⟩
       rw [hne] at rp rq
       obtain ⟨f1, g1, rfl⟩ := shape_of rp
       obtain ⟨f2, g2, rfl⟩ := shape_of rq
       have b4 := len_of rp
       have Hne := Lib.hid hne
       have Rp := Lib.hid rp
       have Rq := Lib.hid rq
       clear hc hd ep eq hkp hkq rp rq hne
       go_upto_region 11 with fail
       go_cut [7, 8] from 54 to 102 (fun u7 u8 wx => ∃ (X Y : Nat), u7 = .pointer (some ⟨X, 0, none⟩) ∧ u8 = .pointer (some ⟨Y, 0, none⟩) ∧ X < wx.heap.size ∧ Y < wx.heap.size ∧ wx.cell? ⟨X, 0, none⟩ = some (.string nm) ∧ wx.cell? ⟨X, 1, none⟩ = some (.slice f1 ne g1) ∧ wx.cell? ⟨Y, 0, none⟩ = some (.string nm) ∧ wx.cell? ⟨Y, 1, none⟩ = some (.slice f2 ne g2) ∧ Ext ((w.alloc (.cells #[.slice a1 nr c1, .slice (some ⟨b, o, none⟩) nz c2, .slice a3 nl c3] 26)).alloc (.cells #[.slice a4 nr c4, .slice (some ⟨d, p, none⟩) nz c5, .slice a6 nl c6] 26)) wx)
       case first =>
        go_region
        all_goals (go_wp2_with fail; go_meet; exact ⟨_, _, rfl, rfl, by go_simp, by go_simp, by go_simp, by go_simp, by go_simp, by go_simp, isext⟩)
       case rest =>
        obtain ⟨X, Y, rfl, rfl, hX, hY, x0, x1, x2, x3, hx⟩ := hcut
        obtain ⟨zw, rfl⟩ := fin hx
        haveI : InW X zw.x := ⟨hX⟩
        haveI : InW Y zw.x := ⟨hY⟩
        have hxw : Ext w zw.x := isext
        go_wp2_with fail
        go_loopw [9] (fun iv wr => ∃ j : Nat, j ≤ ne ∧ iv = .int .i64 j ∧ Ext zw.x wr) (fun iv _ => ne - (intOf iv).toNat)
        case atStart => exact ⟨0, by omega, rfl, isext⟩
        case round =>
         obtain ⟨i, j3, rfl, hx3⟩ := hrel
         obtain ⟨y3, rfl⟩ := fin hx3
         clear hx3
         by_cases hlt : i < ne
         · have hj : i < es.length := by rw [Hne.out]; exact hlt
           rcases Rp.out with ⟨_, _, e9, h9, _⟩ | ⟨b3, o3, c9, e9, k1, k2, m1, hc⟩
           · exact absurd h9 (by omega)
           rcases Rq.out with ⟨_, _, g9, h9, _⟩ | ⟨d3, p3, d9, g9, i1, i2, n1, hd⟩
           · exact absurd h9 (by omega)
           injection e9 with e9 e8 e7
           subst e9
           clear e8 e7
           injection g9 with g9 g8 g7
           subst g9
           clear g8 g7
           obtain ⟨s0, s1, s2, s3, s4, s5, s6, s7, s8, s9, s10, s11, s12⟩ := era_at (reads_cells hxw m1 hc) i hj
           obtain ⟨t0, t1, t2, t3, t4, t5, t6, t7, t8, t9, t10, t11, t12⟩ := era_at (reads_cells hxw n1 hd) i hj
           haveI : InW b3 zw.x := ⟨Nat.lt_of_lt_of_le m1 (Below.size hxw)⟩
           haveI : InW d3 zw.x := ⟨Nat.lt_of_lt_of_le n1 (Below.size hxw)⟩
           clear hc hd
           generalize es[i] = x at *
           obtain ⟨e1, e2, e3, e4, e5, e6, e7, e8, e9, e10, e11, e12, e13⟩ := x
           simp only at s0 s1 s2 s3 s4 s5 s6 s7 s8 s9 s10 s11 s12 t0 t1 t2 t3 t4 t5 t6 t7 t8 t9 t10 t11 t12
           go_wp2_with fail
           go_quiet (fail)
           go_wp2_with fail
           go_roundw
           case rel => exact ⟨i + 1, by omega, by go_num, isext⟩
           case measure => simp [intOf]; omega
         · obtain rfl : ne = i := by omega
           go_wp2
           go_roundw
           case rel => exact ⟨k + 1, by omega, by go_num, hx.trans isext⟩
           case measure => simp [intOf]; omega
     · obtain rfl : nz = k := by omega
       go_wp2_with fail
       clear b2 Pz Qz Pe Qe Hp Hq
       go_loopw [10] (fun iv wr => ∃ j : Nat, j ≤ nl ∧ iv = .int .i64 j ∧ Ext ((w.alloc (.cells #[.slice a1 nr c1, .slice a2 nz c2, .slice a3 nl c3] 26)).alloc (.cells #[.slice a4 nr c4, .slice a5 nz c5, .slice a6 nl c6] 26)) wr) (fun iv _ => nl - (intOf iv).toNat)
       case atStart => exact ⟨0, by omega, rfl, isext⟩
       case round =>
        obtain ⟨i, j3, rfl, hx⟩ := hrel
        obtain ⟨y3, rfl⟩ := fin hx
        clear hx
        by_cases hlt : i < nl
        · have hj : i < ll.length := by rw [Hnl.out]; exact hlt
          rcases Pl.out with ⟨_, _, e9, h9, _⟩ | ⟨b, o, c9, e9, k1, k2, m1, hc⟩
          · exact absurd h9 (by omega)
          rcases Ql.out with ⟨_, _, g9, h9, _⟩ | ⟨d, p, d9, g9, i1, i2, n1, hd⟩
          · exact absurd h9 (by omega)
          injection e9 with e9 e8 e7
          subst e9
          clear e8 e7
          injection g9 with g9 g8 g7
          subst g9
          clear g8 g7
          haveI : InW b w := ⟨m1⟩
          haveI : InW d w := ⟨n1⟩
          obtain ⟨s0, s1⟩ := link_at hc i hj
          obtain ⟨t0, t1⟩ := link_at hd i hj
          clear hc hd
          generalize ll[i] = x at *
          obtain ⟨tg, nm⟩ := x
          simp only at s0 s1 t0 t1
          go_wp2_with fail
          go_quiet (fail)
          go_wp2_with fail
          go_roundw
          case rel => exact ⟨i + 1, by omega, by go_num, isext⟩
          case measure => simp [intOf]; omega
        · obtain rfl : nl = i := by omega
          go_wp2
          go_ret
          exact ⟨rfl, done⟩
end Go.Proofs.YtdhbgelijjlifaaGreatDoor
