/- Walks of sources: the document's text of a source. -/
import Derived.Test.YtdhbgelijjlifaaGreatDoorSrcSupA
import Derived.Test.YtdhbgelijjlifaaGreatDoorSrcPrC
import Derived.Deep.RegionWith
set_option linter.unusedVariables false
set_option linter.unusedSimpArgs false
namespace Go.Proofs.YtdhbgelijjlifaaGreatDoor
open Go.RowKit Go.Shelf
set_option maxRecDepth 100000 in
set_option maxHeartbeats 4000000 in
theorem ddig_any (N : Nat) (hN : (N : Int) ≤ 9223372036854775807) (h1 : 1 ≤ N) (w : World) : Rets Tryz.prog 65 #[.int .i64 N] w (.string ⟨(Mom.dec N).toArray⟩) := by
 have HL : Hid ((Mom.dec N).length ≤ 19) := Mom.dec_len 19 N (by omega) (by omega)
 unfold Rets
 go_enter Tryz.func65, Tryz.ntmps65
 go_wp2
 go_loopw [0, 3] (fun nv sv wr => ∃ (m : Nat) (l : List UInt8), nv = .int .i64 m ∧ sv = .string ⟨l.toArray⟩ ∧ m ≤ N ∧ Hid (m = 0 → l ≠ []) ∧ Hid (Mom.dec N = Mom.undone m l) ∧ Ext w wr) (fun nv sv _ => (intOf nv).toNat)
 case atStart => exact ⟨N, [], rfl, rfl, Nat.le_refl _, (fun h => by omega), (Mom.undone_start N).symm, isext⟩
 case round =>
  obtain ⟨m, l, rfl, rfl, m1, hne, hu, hx⟩ := hrel
  obtain ⟨yr, rfl⟩ := fin hx
  clear hx
  have hl : l.length ≤ 19 := by have := undone_le m l; rw [← hu.out] at this; exact Nat.le_trans this HL.out
  by_cases h : m = 0
  · have E : Hid (Mom.dec N = l) := by have := hu.out; rw [h] at this; exact this.trans (Mom.undone_end (hne.out h))
    have e2 : decide ((0 : Int) < m) = false := decide_eq_false (by omega)
    have e3 : decide (0 < m) = false := decide_eq_false (by omega)
    clear hu h hne
    go_wp2
    go_ret
    exact ⟨by rw [E.out]; first | done | rfl, done⟩
  · have E : Hid (Mom.dec N = Mom.undone (m / 10) (Mom.dig m :: l)) := hu.out.trans (Mom.undone_step (fun hh => h hh.1))
    have hd := dig_nat m
    obtain ⟨t1, t2⟩ := ten_parts m
    rw [show (m : Int) % 10 = (m % 10 : Nat) by omega] at hd
    have hb := fun W B => back_at W B (Mom.dig m) _ hd
    have r1 : m % 10 < 10 := by omega
    have q1 : m / 10 ≤ m := by omega
    have q2 : m / 10 < m := by omega
    have s1 : 0 < m := by omega
    have s2 : (0 : Int) < m := by omega
    generalize Mom.dig m = c at *
    generalize m / 10 = q at *
    generalize m % 10 = r at *
    clear h hu hne
    go_wp2
    go_roundw
    case rel => exact ⟨q, c :: l, rfl, by rw [app_cons], by omega, (fun _ => by simp), E, isext⟩
    case measure => simp [intOf]; omega
theorem dash_any (s : ByteArray) (w : World) : Rets Tryz.prog 68 #[.string s] w (.string ⟨(Src.orT s).toArray⟩) := by
 rw [← tl_eq]
 by_cases h : s.data.toList = []
 · rw [if_pos h]
   have : s = ⟨#[]⟩ := by apply ByteArray.ext; simpa using h
   subst this
   go_enter Tryz.func68, Tryz.ntmps68
   go_wp2
   go_ret
   exact ⟨rfl, done⟩
 · rw [if_neg h]
   have hne : s.toList.isEmpty = false := by
    rw [Lib.toList_data]
    cases hc : s.data.toList with
    | nil => exact absurd hc h
    | cons c r => rfl
   go_enter Tryz.func68, Tryz.ntmps68
   go_wp2
   go_ret
   exact ⟨rfl, done⟩
theorem rprint_spot {m k wd d t r : Int} (h : Mom.rightB m k wd d t r = true) (w : World) : TextsOf 105 #[spotA m k wd d t r] w (Src.spotT m k wd d t r) 3 := by
 obtain ⟨i, K, W, D, R, hi, rfl, hK, rfl, hW, rfl, hD, rfl, hR, rfl, t1, t2, k0, _⟩ := right_nat h
 have := rprint_any (i + 1) K W D R t w (by omega) (by omega) hK hW hD t1 t2 hR (fun h => (k0 h).1)
 unfold Src.spotT
 simp only [Int.toNat_natCast]
 rw [show ((i : Int) + 1).toNat = i + 1 by omega]
 exact this
set_option maxRecDepth 100000 in
set_option maxHeartbeats 4000000 in
theorem three_any (m k wd d t r : Int) (W0 W1 W2 : List UInt8) (l0 : W0.length ≤ 40) (l1 : W1.length ≤ 40) (l2 : W2.length ≤ 40) (w : World) (HP : ∀ w, Hid (TextsOf 105 #[spotA m k wd d t r] w [W0, W1, W2] 3)) :
 Rets Tryz.prog 66 #[spotA m k wd d t r] w (.string ⟨([32] ++ W0 ++ [32] ++ W1 ++ [32] ++ W2).toArray⟩) := by
 unfold Rets
 go_enter Tryz.func66, Tryz.ntmps66
 go_upto_region 2 with (go_at_call 105; refine (HP _).out.mono ?_; rintro e w' ⟨v, y1, rfl, hr, rfl⟩; obtain ⟨g, o, c, rfl, k1, k2, m1, c0, c1, c2⟩ := reads3 hr; haveI : InW g y1.x := ⟨m1⟩)
 refine wp_region_past (by kernel_rfl) (by kernel_rfl) ?_
 repeat (go_big_quiet_step (fail))
 refine wpQuiet_nil ?_
 intro y2
 go_wp2
 go_ret
 exact ⟨by simp only [app_lit]; rfl, done⟩
namespace Src
theorem join_flat (a b : List UInt8) (l : List (List UInt8)) : Lib.join (a :: b :: l) [32] = a ++ [32] ++ Lib.join (b :: l) [32] := by
 rw [Lib.join_cons, Lib.join_cons]; simp [Lib.joinTail]
theorem rule_text {x : Rule} {W0 W1 W2 : List UInt8} (e : spotT x.m x.k x.wd x.d x.t x.r = [W0, W1, W2]) :
 ruleL x = [82, 117, 108, 101, 32] ++ x.nm.data.toList ++ [32] ++ decI x.a ++ [32] ++ toT x ++ [32, 45] ++ ([32] ++ W0 ++ [32] ++ W1 ++ [32] ++ W2) ++ [32] ++ Mom.timeD x.s ++ [32] ++ orT x.l ++ [10] := by
 unfold ruleL lineT ruleW
 rw [e]
 simp only [List.cons_append, List.nil_append, join_flat, Lib.join_one, List.append_assoc]
theorem era_text {x : Era} {W0 W1 W2 R : List UInt8} (hR : R = if x.kd = 1 then Mom.timeD x.s else orT x.rs) (ht : x.til = true) (e : spotT x.m x.k x.wd x.d x.t x.r = [W0, W1, W2]) :
 eraL x = Mom.timeD x.off ++ [32] ++ R ++ [32] ++ x.fm.data.toList ++ [32] ++ decI x.y ++ ([32] ++ W0 ++ [32] ++ W1 ++ [32] ++ W2) ++ [10] := by
 unfold eraL lineT eraW
 rw [if_pos ht, e, ← hR]
 simp only [List.cons_append, List.nil_append, join_flat, Lib.join_one, List.append_assoc]
theorem era_text0 {x : Era} {R : List UInt8} (hR : R = if x.kd = 1 then Mom.timeD x.s else orT x.rs) (ht : x.til = false) :
 eraL x = Mom.timeD x.off ++ [32] ++ R ++ [32] ++ x.fm.data.toList ++ [10] := by
 unfold eraL lineT eraW
 rw [← hR, if_neg (by rw [ht]; simp)]
 simp only [List.cons_append, List.nil_append, List.append_nil, join_flat, Lib.join_one, List.append_assoc]
theorem link_text (x : Link) : linkL x = [76, 105, 110, 107, 32] ++ x.tg.data.toList ++ [32] ++ x.nm.data.toList ++ [10] := by
 unfold linkL lineT linkW
 simp only [List.cons_append, List.nil_append, join_flat, Lib.join_one, List.append_assoc]
end Src
theorem ddigI (n : Int) (h : 1 ≤ n) (h2 : n ≤ 1000000) (w : World) : Rets Tryz.prog 65 #[.int .i64 n] w (.string ⟨(Src.decI n).toArray⟩) := by
 obtain ⟨N, rfl⟩ : ∃ N : Nat, n = N := ⟨n.toNat, by omega⟩
 exact ddig_any N (by omega) (by omega) w
theorem dt_same (A B : List UInt8) (s : ByteArray) (h : s.data.toList = A ++ B) : s = ⟨(A ++ B).toArray⟩ := by apply ByteArray.ext; rw [← h]
theorem dt_same2 {s : ByteArray} {L : List UInt8} (h : s.data.toList = L) : s = ⟨L.toArray⟩ := by apply ByteArray.ext; rw [← h]
set_option maxRecDepth 100000 in
set_option maxHeartbeats 64000000 in
theorem dtext_yes (S : Source) (hK : Src.SrcK S) (v : Value) (w : World) (hr : ReadsS w v S) :
 Rets Tryz.prog 42 #[v] w (.string ⟨(Src.textL S).toArray⟩) := by
 have HT := Lib.hid (Src.textL_eq S)
 generalize Src.textL S = OUT at *
 obtain ⟨K1, K2, K3, K4, K5, K6⟩ := hK
 obtain ⟨rl, zl, ll⟩ := S
 obtain ⟨vr, vz, vl, rfl, hr1, hr2, hr3⟩ := hr
 simp only at K1 K2 K3 K4 K5 K6 hr1 hr2 hr3 HT
 obtain ⟨nr, hnr⟩ : ∃ n, rl.length = n := ⟨_, rfl⟩
 obtain ⟨nz, hnz⟩ : ∃ n, zl.length = n := ⟨_, rfl⟩
 obtain ⟨nl, hnl⟩ : ∃ n, ll.length = n := ⟨_, rfl⟩
 have LR := fun j => Src.upto_le Src.ruleL 500 rl j (fun x hx => Src.ruleL_le (K4 x hx))
 have LZ := fun j => Src.upto_le Src.zoneT 21000 zl j (fun x hx => Src.zoneT_le (K5 x hx))
 have LL := fun j => Src.upto_le Src.linkL 500 ll j (fun x hx => Src.linkL_le (K6 x hx))
 obtain ⟨zp, hzp, hz2, hz3⟩ := hr2
 rw [hnr] at hr1 K1 LR
 rw [hnz] at hz2 K2 LZ
 rw [hnl] at hr3 K3 LL
 obtain ⟨ar, cr, er⟩ := shape_of hr1
 obtain ⟨az, cz, ez⟩ := shape_of hz2
 obtain ⟨al, cl, el⟩ := shape_of hr3
 subst er ez el
 have Hr1 := Lib.hid hr1
 have Hz2 := Lib.hid hz2
 have Hz3 := Lib.hid hz3
 have Hr3 := Lib.hid hr3
 have Hnr := Lib.hid hnr
 have Hnz := Lib.hid hnz
 have Hnl := Lib.hid hnl
 have Hzp := Lib.hid hzp
 have HLR := Lib.hid LR
 have HLZ := Lib.hid LZ
 have HLL := Lib.hid LL
 clear hr1 hz2 hz3 hr3 hnr hnz hnl hzp LR LZ LL
 unfold Rets
 go_enter Tryz.func42, Tryz.ntmps42
 go_wp2_with fail
 go_loopw [3, 4] (fun sv iv wr => ∃ j : Nat, j ≤ nr ∧ sv = .string ⟨(Src.upto Src.ruleL rl j).toArray⟩ ∧ iv = .int .i64 j ∧ Ext (w.alloc (.cells #[.slice ar nr cr, .slice az nz cz, .slice al nl cl] 26)) wr) (fun _ iv _ => nr - (intOf iv).toNat)
 case atStart => exact ⟨0, by omega, rfl, rfl, isext⟩
 case round =>
  obtain ⟨j, j1, rfl, rfl, hx⟩ := hrel
  obtain ⟨y1, rfl⟩ := fin hx
  clear hx
  by_cases hlt : j < nr
  · have hj : j < rl.length := by rw [Hnr.out]; exact hlt
    rcases Hr1.out with ⟨_, _, e9, h9, _⟩ | ⟨b, o, c9, e9, k1, k2, m1, hc⟩
    · exact absurd h9 (by omega)
    injection e9 with e9 e8 e7
    subst e9
    clear e8 e7
    haveI : InW b w := ⟨m1⟩
    obtain ⟨c0, c1, c2, c3, c4, c5, c6, c7, c8, c9, c10⟩ := rule_at hc j hj
    clear hc
    have hs := Lib.hid (Src.upto_succ Src.ruleL rl j hj)
    have hl0 := HLR.out j
    have hfx := K4 rl[j] (List.getElem_mem hj)
    generalize Src.upto Src.ruleL rl j = A at *
    generalize rl[j] = x at *
    obtain ⟨W0, W1, W2, eW, l0, l1, l2⟩ := Src.spot_words hfx.spot
    have HX := Lib.hid (Src.rule_text eW)
    have HP := fun w => Lib.hid (rprint_spot hfx.spot w)
    rw [eW] at HP
    have H3 := fun w => Lib.hid (three_any _ _ _ _ _ _ W0 W1 W2 l0 l1 l2 w HP)
    have HA := fun w => Lib.hid (ddigI x.a hfx.a1 (by have := hfx.a2; omega) w)
    have HB := fun w => Lib.hid (ddigI x.b hfx.b1 (by rcases hfx.b2 with h | h <;> omega) w)
    have HS := fun w => Lib.hid (rtime_any x.s (by have := hfx.s1; have := hfx.s2; omega) w)
    have HD := fun w => Lib.hid (dash_any x.l w)
    have q1 : x.nm.size ≤ 20 := Src.set_len hfx.nm
    have q2 := Src.decI_le hfx.a1 hfx.a2
    have q3 := Src.to_len hfx
    have q4 := timeD_len (t := x.s) (by have := hfx.s1; omega) (by have := hfx.s2; omega)
    have q5 := Src.or_len (s := x.l) (n := 8) (Src.letter_len hfx.l) (by omega)
    have hb : (x.b = x.a ∧ (x.a == 1000000) = false ∧ Hid (Src.toT x = [111, 110, 108, 121])) ∨ (x.b = 1000000 ∧ ((1000000 : Int) == x.a) = false ∧ Hid (Src.toT x = [109, 97, 120])) ∨ ((x.b == x.a) = false ∧ (x.b == 1000000) = false ∧ Hid (Src.toT x = Src.decI x.b)) := by
     by_cases c1 : x.b = x.a
     · exact .inl ⟨c1, beq_eq_false_iff_ne.2 (by have := hfx.a2; omega), if_pos c1⟩
     · by_cases c2 : x.b = 1000000
       · exact .inr (.inl ⟨c2, beq_eq_false_iff_ne.2 (by have := hfx.a2; omega), by show Src.toT x = _; unfold Src.toT; rw [if_neg c1, if_pos c2]⟩)
       · exact .inr (.inr ⟨beq_eq_false_iff_ne.2 c1, beq_eq_false_iff_ne.2 c2, by show Src.toT x = _; unfold Src.toT; rw [if_neg c1, if_neg c2]⟩)
    clear hfx eW HP
    generalize Src.ruleL x = X at *
    generalize Src.toT x = TT at *
    generalize Mom.timeD x.s = TS at *
    generalize Src.orT x.l = TL at *
    generalize Src.decI x.a = TA at *
    generalize hTB : Src.decI x.b = TB at *
    clear hTB
    obtain ⟨nm, a, b', m, k, wd, d, t, r, s, lt⟩ := x
    simp only at c0 c1 c2 c3 c4 c5 c6 c7 c8 c9 c10 HA HB HS HD H3 HX q1 hb
    have HX1 : Hid (Src.upto Src.ruleL rl (j + 1) = A ++ X) := hs.out
    clear hs
    rcases hb with ⟨rfl, b1, b2⟩ | ⟨rfl, b1, b2⟩ | ⟨b0, b1, b2⟩
    all_goals
     obtain rfl := b2.out
     clear b2
     go_wp2_with (go_at_call 65; refine Rets.use (HB _).out ?_; intro y2)
     refine wp_region_past (by kernel_rfl) (by kernel_rfl) ?_
     repeat (go_big_quiet_step ((first | (go_at_call 65; exact Rets.quiet (HA _).out) | (go_at_call 66; exact Rets.quiet (H3 _).out) | (go_at_call 67; exact Rets.quiet (HS _).out) | (go_at_call 68; exact Rets.quiet (HD _).out))))
     refine wpQuiet_nil ?_
     intro y3
     go_wp2
     go_roundw
     case rel => exact ⟨j + 1, by omega, by congr 1; rw [HX1.out, HX.out]; exact dt_same _ _ _ (by simp [ByteArray.data_append]), by go_num, isext⟩
     case measure => simp [intOf]; omega
  · obtain rfl : j = nr := by omega
    have HA1 : Hid (Src.upto Src.ruleL rl j = (rl.map Src.ruleL).flatten) := Src.upto_all _ _ _ (by rw [Hnr.out]; omega)
    have hA1 := HLR.out j
    rw [HA1.out] at hA1 ⊢
    clear HA1
    generalize (rl.map Src.ruleL).flatten = A1 at *
    go_wp2_with fail
    go_loopw [3, 7] (fun sv iv wr => ∃ i : Nat, i ≤ nz ∧ sv = .string ⟨(A1 ++ Src.upto Src.zoneT zl i).toArray⟩ ∧ iv = .int .i64 i ∧ Ext (w.alloc (.cells #[.slice ar j cr, .slice az nz cz, .slice al nl cl] 26)) wr) (fun _ iv _ => nz - (intOf iv).toNat)
    case atStart => exact ⟨0, by omega, by rw [Src.upto_zero, List.append_nil], rfl, isext⟩
    case round =>
     clear y1
     obtain ⟨i, j1, rfl, rfl, hx⟩ := hrel
     obtain ⟨y1, rfl⟩ := fin hx
     clear hx
     by_cases hlt : i < nz
     · have hj : i < zl.length := by rw [Hnz.out]; exact hlt
       have hjp : i < zp.length := by have := congrArg List.length Hzp.out; rw [List.length_map] at this; omega
       have hz1 : zp[i].1 = zl[i] := by
        have : (zp.map (·.1))[i]'(by rw [List.length_map]; exact hjp) = zl[i] := by simp only [Hzp.out]
        rwa [List.getElem_map] at this
       rcases Hz2.out with ⟨_, _, e9, h9, _⟩ | ⟨b, o, c9, e9, k1, k2, m1, hc⟩
       · exact absurd h9 (by omega)
       injection e9 with e9 e8 e7
       subst e9
       clear e8 e7
       haveI : InW b w := ⟨m1⟩
       obtain ⟨c0, c1⟩ := zone_at hc i hjp
       clear hc
       have hs := Lib.hid (Src.upto_succ Src.zoneT zl i hj)
       have hre := Hz3.out zp[i] (List.getElem_mem hjp)
       have hfz := K5 zl[i] (List.getElem_mem hj)
       have hl0 := HLZ.out i
       rw [hz1] at c0 hre
       have HZT := Lib.hid (Src.zoneT_eq zl[i])
       have hl1 := Src.zoneT_le hfz
       generalize Src.zoneT zl[i] = ZT at *
       generalize zp[i].2 = V at *
       generalize zl[i] = z at *
       clear hz1
       generalize Src.upto Src.zoneT zl i = A at *
       obtain ⟨zn, n1, n2, zes⟩ := hfz
       obtain ⟨nm, es⟩ := z
       simp only at c0 hre zn n1 n2 zes HZT
       have lnm : nm.size ≤ 40 := Src.place_len zn
       have LE := fun j => Src.upto_le Src.eraL 500 es j (fun x hx => Src.eraL_le (zes x hx))
       obtain ⟨ne, hne⟩ : ∃ n, es.length = n := ⟨_, rfl⟩
       rw [hne] at hre n1 n2 LE
       obtain ⟨ae, ce, rfl⟩ := shape_of hre
       have b4 := len_of hre
       have Hre := Lib.hid hre
       have Hne := Lib.hid hne
       have HLE := Lib.hid LE
       clear hre hne LE
       rcases Hre.out with ⟨_, _, e9, h9, _⟩ | ⟨be, oe, c9, e9, k3, k4, m2, hc⟩
       · exact absurd h9 (by omega)
       injection e9 with e9 e8 e7
       subst e9
       clear e8 e7
       haveI : InW be w := ⟨m2⟩
       have HC := Lib.hid hc
       clear hc
       obtain ⟨HD, hHD⟩ : ∃ HD : List UInt8, Hid (HD = [90, 111, 110, 101, 32] ++ nm.data.toList ++ [32]) := ⟨_, Lib.hid rfl⟩
       have lHD : HD.length ≤ 50 := by rw [hHD.out]; simp only [List.length_append, List.length_cons, List.length_nil]; have : nm.data.toList.length ≤ 40 := lnm; omega
       go_wp2_with fail
       go_loopw [3, 8] (fun sv iv wr => ∃ k : Nat, k ≤ ne ∧ sv = .string ⟨(A1 ++ A ++ HD ++ Src.upto Src.eraL es k).toArray⟩ ∧ iv = .int .i64 k ∧ Ext (w.alloc (.cells #[.slice ar j cr, .slice (some ⟨b, o, none⟩) nz cz, .slice al nl cl] 26)) wr) (fun _ iv _ => ne - (intOf iv).toNat)
       case atStart => exact ⟨0, by omega, by congr 1; rw [Src.upto_zero, List.append_nil, hHD.out]; exact dt_same2 (by simp [ByteArray.data_append]), rfl, isext⟩
       case round =>
        obtain ⟨k, k9, rfl, rfl, hx⟩ := hrel
        clear y1
        obtain ⟨y1, rfl⟩ := fin hx
        clear hx
        by_cases hlk : k < ne
        · have hk : k < es.length := by rw [Hne.out]; exact hlk
          obtain ⟨d0, d1, d2, d3, d4, d5, d6, d7, d8, d9, d10, d11, d12⟩ := era_at HC.out k hk
          have hse := Lib.hid (Src.upto_succ Src.eraL es k hk)
          have hle0 := HLE.out k
          have hfx := zes es[k] (List.getElem_mem hk)
          generalize Src.upto Src.eraL es k = Ae at *
          generalize es[k] = x at *
          obtain ⟨R, hR⟩ : ∃ R : List UInt8, R = if x.kd = 1 then Mom.timeD x.s else Src.orT x.rs := ⟨_, rfl⟩
          have q1 := timeD_len (t := x.off) (by have := hfx.o1; omega) (by have := hfx.o2; omega)
          have q2 := timeD_len (t := x.s) (by have := Src.save_bd hfx; omega) (by have := Src.save_bd hfx; omega)
          have q3 : (Src.orT x.rs).length ≤ 20 := Src.or_len (by rcases hfx.kd with ⟨_, _, e⟩ | ⟨_, _, _, e⟩ | ⟨_, _, e⟩; rw [e]; simp; rw [e]; simp; exact Src.set_len e) (by omega)
          have q4 : x.fm.size ≤ 20 := Src.fmt_len hfx.fm
          have HO := fun w => Lib.hid (dash_any x.rs w)
          have HTo := fun w => Lib.hid (rtime_any x.off (by have := hfx.o1; have := hfx.o2; omega) w)
          have HTs := fun w => Lib.hid (rtime_any x.s (by have := Src.save_bd hfx; omega) w)
          have hk1 : (x.kd = 1 ∧ Hid (R = Mom.timeD x.s)) ∨ ((x.kd == 1) = false ∧ Hid (R = Src.orT x.rs)) := by
           by_cases c : x.kd = 1
           · exact .inl ⟨c, by show R = _; rw [hR, if_pos c]⟩
           · exact .inr ⟨beq_eq_false_iff_ne.2 c, by show R = _; rw [hR, if_neg c]⟩
          rcases hfx.en with ⟨ht, y1', y2', hsp⟩ | ⟨ht, -⟩
          · obtain ⟨W0, W1, W2, eW, l0, l1, l2⟩ := Src.spot_words hsp
            have HX := Lib.hid (Src.era_text hR ht eW)
            have HP := fun w => Lib.hid (rprint_spot hsp w)
            rw [eW] at HP
            have H3 := fun w => Lib.hid (three_any _ _ _ _ _ _ W0 W1 W2 l0 l1 l2 w HP)
            have HY := fun w => Lib.hid (ddigI x.y y1' (by omega) w)
            have q5 := Src.decI_le y1' y2'
            have HX1 : Hid (Src.upto Src.eraL es (k + 1) = Ae ++ Src.eraL x) := hse.out
            clear hR hse hfx eW HP hsp
            generalize Src.eraL x = X at *
            generalize Mom.timeD x.off = TO at *
            generalize Mom.timeD x.s = TS at *
            generalize Src.orT x.rs = TL at *
            generalize Src.decI x.y = TY at *
            obtain ⟨off, kd, s, rs, fm, til, y, m, kk, wd, d, t, r⟩ := x
            simp only at d0 d1 d2 d3 d4 d5 d6 d7 d8 d9 d10 d11 d12 HO HTo HTs HY H3 HX q4 ht hk1
            subst ht
            rcases hk1 with ⟨rfl, hk2⟩ | ⟨hk0, hk2⟩
            all_goals
             obtain rfl := hk2.out
             clear hk2
             go_wp2_with (first | (go_at_call 68; refine Rets.use (HO _).out ?_; intro y2) | (go_at_call 67; refine Rets.use (HTs _).out ?_; intro y3))
             refine wp_region_past (by kernel_rfl) (by kernel_rfl) ?_
             repeat (go_big_quiet_step ((go_at_call 67; exact Rets.quiet (HTo _).out)))
             refine wpQuiet_nil ?_
             intro y4
             go_wp2
             refine wp_region_past (by kernel_rfl) (by kernel_rfl) ?_
             repeat (go_big_quiet_step ((first | (go_at_call 65; exact Rets.quiet (HY _).out) | (go_at_call 66; exact Rets.quiet (H3 _).out))))
             refine wpQuiet_nil ?_
             intro y5
             go_wp2
             go_roundw
             case rel => exact ⟨k + 1, by omega, by congr 1; rw [HX1.out, HX.out]; exact dt_same2 (by simp [ByteArray.data_append]), by go_num, isext⟩
             case measure => simp [intOf]; omega
          · have HX := Lib.hid (Src.era_text0 hR ht)
            have HX1 : Hid (Src.upto Src.eraL es (k + 1) = Ae ++ Src.eraL x) := hse.out
            clear hR hse hfx
            generalize Src.eraL x = X at *
            generalize Mom.timeD x.off = TO at *
            generalize Mom.timeD x.s = TS at *
            generalize Src.orT x.rs = TL at *
            obtain ⟨off, kd, s, rs, fm, til, y, m, kk, wd, d, t, r⟩ := x
            simp only at d0 d1 d2 d3 d4 d5 d6 d7 d8 d9 d10 d11 d12 HO HTo HTs HX q4 ht hk1
            subst ht
            rcases hk1 with ⟨rfl, hk2⟩ | ⟨hk0, hk2⟩
            all_goals
             obtain rfl := hk2.out
             clear hk2
             go_wp2_with (first | (go_at_call 68; refine Rets.use (HO _).out ?_; intro y2) | (go_at_call 67; refine Rets.use (HTs _).out ?_; intro y3))
             refine wp_region_past (by kernel_rfl) (by kernel_rfl) ?_
             repeat (go_big_quiet_step ((go_at_call 67; exact Rets.quiet (HTo _).out)))
             refine wpQuiet_nil ?_
             intro y4
             go_wp2
             go_roundw
             case rel => exact ⟨k + 1, by omega, by congr 1; rw [HX1.out, HX.out]; exact dt_same2 (by simp [ByteArray.data_append]), by go_num, isext⟩
             case measure => simp [intOf]; omega
        · have hall := Lib.hid (Src.upto_all Src.eraL es k (by rw [Hne.out]; omega))
          have HB2 : Hid (A1 ++ A ++ HD ++ Src.upto Src.eraL es k = A1 ++ Src.upto Src.zoneT zl (i + 1)) := by
           show _ = _
           rw [hs.out, HZT.out, ← hHD.out, ← hall.out]; simp only [List.append_assoc]
          clear hs HZT hall hHD
          go_wp2
          go_roundw
          case rel => exact ⟨i + 1, by omega, by rw [HB2.out], by go_num, isext⟩
          case measure => simp [intOf]; omega
     · obtain rfl : i = nz := by omega
       have HA2 : Hid (Src.upto Src.zoneT zl i = (zl.map Src.zoneT).flatten) := Src.upto_all _ _ _ (by rw [Hnz.out]; omega)
       have hA2 := HLZ.out i
       rw [HA2.out] at hA2 ⊢
       clear HA2
       generalize (zl.map Src.zoneT).flatten = A2 at *
       go_wp2_with fail
       go_loopw [3, 11] (fun sv iv wr => ∃ q : Nat, q ≤ nl ∧ sv = .string ⟨(A1 ++ A2 ++ Src.upto Src.linkL ll q).toArray⟩ ∧ iv = .int .i64 q ∧ Ext (w.alloc (.cells #[.slice ar j cr, .slice az i cz, .slice al nl cl] 26)) wr) (fun _ iv _ => nl - (intOf iv).toNat)
       case atStart => exact ⟨0, by omega, by rw [Src.upto_zero, List.append_nil], rfl, isext⟩
       case round =>
        clear y1
        obtain ⟨q, j1, rfl, rfl, hx⟩ := hrel
        obtain ⟨y1, rfl⟩ := fin hx
        clear hx
        by_cases hlt : q < nl
        · have hj : q < ll.length := by rw [Hnl.out]; exact hlt
          rcases Hr3.out with ⟨_, _, e9, h9, _⟩ | ⟨b, o, c9, e9, k1, k2, m1, hc⟩
          · exact absurd h9 (by omega)
          injection e9 with e9 e8 e7
          subst e9
          clear e8 e7
          haveI : InW b w := ⟨m1⟩
          obtain ⟨c0, c1⟩ := link_at hc q hj
          clear hc
          have hs := Lib.hid (Src.upto_succ Src.linkL ll q hj)
          have hl0 := HLL.out q
          have hfl := K6 ll[q] (List.getElem_mem hj)
          generalize Src.upto Src.linkL ll q = A at *
          generalize ll[q] = x at *
          have HX := Lib.hid (Src.link_text x)
          have HX1 : Hid (Src.upto Src.linkL ll (q + 1) = A ++ Src.linkL x) := hs.out
          clear hs
          unfold Src.linkB at hfl
          simp only [Bool.and_eq_true] at hfl
          have p1 : x.tg.size ≤ 40 := Src.place_len hfl.1
          have p2 : x.nm.size ≤ 40 := Src.place_len hfl.2
          clear hfl
          generalize Src.linkL x = X at *
          obtain ⟨tg, nm⟩ := x
          simp only at c0 c1 HX p1 p2
          go_wp2_with fail
          refine wp_region_past (by kernel_rfl) (by kernel_rfl) ?_
          repeat (go_big_quiet_step (fail))
          refine wpQuiet_nil ?_
          intro y3
          go_wp2
          go_roundw
          case rel => exact ⟨q + 1, by omega, by congr 1; rw [HX1.out, HX.out]; exact dt_same2 (by simp [ByteArray.data_append]), by go_num, isext⟩
          case measure => simp [intOf]; omega
        · obtain rfl : q = nl := by omega
          have HA3 : Hid (A1 ++ A2 ++ Src.upto Src.linkL ll q = OUT) := by
           show _ = _
           rw [HT.out, Src.upto_all Src.linkL ll q (by rw [Hnl.out]; omega)]
          clear HT
          go_wp2
          go_ret
          exact ⟨by rw [HA3.out]; first | done | rfl, done⟩
set_option maxRecDepth 100000 in
set_option maxHeartbeats 4000000 in
theorem dprint_no (S : Source) (v : Value) (w : World) (hr : ReadsS w v S) (HR : ∀ w', Ext w w' → Hid (Rets Tryz.prog 22 #[v] w' (.bool false))) :
 Rets Tryz.prog 20 #[v] w (.tuple #[.string ⟨#[]⟩, .int .i64 1]) := by
 obtain ⟨vr, vz, vl, rfl, hr1, hr2, hr3⟩ := hr
 unfold Rets
 go_enter Tryz.func20, Tryz.ntmps20
 go_wp2_with (go_at_call 22; refine Rets.use (HR _ isext).out ?_; intro _)
 go_ret2
 exact ⟨rfl, done⟩
set_option maxRecDepth 100000 in
set_option maxHeartbeats 4000000 in
theorem dprint_yes (S : Source) (hK : Src.SrcK S) (v : Value) (w : World) (hr : ReadsS w v S) (HR : ∀ w', Ext w w' → Hid (Rets Tryz.prog 22 #[v] w' (.bool true))) :
 Rets Tryz.prog 20 #[v] w (if 100000 < (Src.textL S).length then .tuple #[.string ⟨#[]⟩, .int .i64 12] else .tuple #[.string ⟨(Src.textL S).toArray⟩, .int .i64 0]) := by
 have HX := fun w' (hx : Ext w w') => Lib.hid (dtext_yes S hK v w' (hr.ext hx))
 generalize Src.textL S = OUT at *
 obtain ⟨RES, hRES⟩ : ∃ RES : Value, Hid (RES = if 100000 < OUT.length then .tuple #[.string ⟨#[]⟩, .int .i64 12] else .tuple #[.string ⟨OUT.toArray⟩, .int .i64 0]) := ⟨_, rfl⟩
 rw [← hRES.out]
 obtain ⟨vr, vz, vl, rfl, hr1, hr2, hr3⟩ := hr
 clear hr1 hr2 hr3
 unfold Rets
 by_cases hbig : 100000 < OUT.length
 · obtain rfl : RES = .tuple #[.string ⟨#[]⟩, .int .i64 12] := hRES.out.trans (if_pos hbig)
   clear hRES
   have hb' : (100000 : Int) < OUT.length := by omega
   go_enter Tryz.func20, Tryz.ntmps20
   go_wp2_with (first | (go_at_call 22; refine Rets.use (HR _ isext).out ?_; intro _) | (go_at_call 42; refine Rets.use (HX _ isext).out ?_; intro _))
   go_ret2
   exact ⟨rfl, done⟩
 · obtain rfl : RES = .tuple #[.string ⟨OUT.toArray⟩, .int .i64 0] := hRES.out.trans (if_neg hbig)
   clear hRES
   have hb' : decide ((100000 : Int) < OUT.length) = false := decide_eq_false (by omega)
   go_enter Tryz.func20, Tryz.ntmps20
   go_wp2_with (first | (go_at_call 22; refine Rets.use (HR _ isext).out ?_; intro _) | (go_at_call 42; refine Rets.use (HX _ isext).out ?_; intro _))
   go_ret2
   exact ⟨rfl, done⟩
theorem dprint_core (S : Source) (v : Value) (w : World) (hr : ReadsS w v S) (HR : ∀ w', Ext w w' → Rets Tryz.prog 22 #[v] w' (.bool (Src.srcB S))) :
 Rets Tryz.prog 20 #[v] w (.tuple #[.string ⟨(Src.printP S).1.toArray⟩, .int .i64 (Src.printP S).2]) := by
 unfold Src.printP
 cases hB : Src.srcB S
 · rw [hB] at HR
   rw [if_pos rfl]
   exact dprint_no S v w hr HR
 · rw [hB] at HR
   rw [if_neg (by simp)]
   have := dprint_yes S (Src.src_k hB) v w hr HR
   split at this
   · rw [if_pos ‹_›]; exact this
   · rw [if_neg ‹_›]; exact this
end Go.Proofs.YtdhbgelijjlifaaGreatDoor
