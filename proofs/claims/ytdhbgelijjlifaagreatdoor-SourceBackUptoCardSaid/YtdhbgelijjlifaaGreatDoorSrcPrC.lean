/- Walks of sources: Print, by the program. -/
import Derived.Test.YtdhbgelijjlifaaGreatDoorSrcSupA
import Derived.Test.YtdhbgelijjlifaaGreatDoorSrcPrB
import Derived.Deep.RegionWith
set_option linter.unusedVariables false
set_option linter.unusedSimpArgs false
namespace Go.Proofs.YtdhbgelijjlifaaGreatDoor
open Go.RowKit Go.Shelf
def Bld (a : World) (acc : List UInt8) (w : World) : Prop := Lib.IsBuilderF 73 5 a.heap.size a.heap.size (Lib.byteCells acc) w
theorem Bld.ext {a : World} {acc : List UInt8} {w w' : World} (h : Bld a acc w) (hx : Ext w w') : Bld a acc w' := isb_ext h hx
theorem Bld.lt {a : World} {acc : List UInt8} {w : World} (h : Bld a acc w) : a.heap.size < w.heap.size := by
 rcases h with h | h
 · exact h.lt
 · exact h.lt
theorem bld_new (a : World) : Bld a [] (a.alloc (.cells #[.pointer none, .slice none 0 0] 73)) := Lib.IsBuilderF.of (Lib.fresh_isBuilder _ _ a)
def KeptB (a w w' : World) : Prop := Lib.OthersKept 5 (some a.heap.size) w w'
theorem Bld.write {a : World} {acc : List UInt8} {W : World} (h : Bld a acc W) (hx : Ext a W) (s : ByteArray) (hlen : acc.length + s.size ≤ 1000000000) :
 Calls Tryz.prog 36 #[.pointer (some ⟨a.heap.size, 0, none⟩), .string s] W fun e w' => e = .returned (.tuple #[.int .i64 s.size, .nilIface]) ∧ Bld a (acc ++ s.data.toList) w' ∧ Ext a w' ∧ KeptB a W w' :=
 (write_str _ _ _ s W h (by rw [Lib.byteCells_length]; omega) (Below.size hx)).mono fun e w' ⟨h1, h2, h3, h4⟩ => ⟨h1, .inr (by rw [Lib.byteCells_append]; exact h2), Below.trans hx h3, h4⟩
theorem KeptB.cell {a w w' : World} (h : KeptB a w w') {k : Nat} {cs : Array Value} {T : TypeId} (hk : w.heap[k]? = some (.cells cs T (0, 0))) (hT : T ≠ 5) (ha : k ≠ a.heap.size) : w'.heap[k]? = some (.cells cs T (0, 0)) :=
 h k _ hk (fun e => ha (by injection e)) (fun c fz e => hT (by injection e))
theorem Bld.len {a : World} {acc : List UInt8} {W : World} (h : Bld a acc W) : Calls Tryz.prog 40 #[.pointer (some ⟨a.heap.size, 0, none⟩)] W fun e w' => e = .returned (.int .i64 acc.length) ∧ w' = W :=
 (Any.Builder_Len_f Tryz.lays170 _ _ _ W h).mono fun e w' ⟨h1, h2⟩ => ⟨by rw [h1, Lib.byteCells_length], h2⟩
theorem Bld.str {a : World} {acc : List UInt8} {W : World} (h : Bld a acc W) (hx : Ext a W) : Calls Tryz.prog 41 #[.pointer (some ⟨a.heap.size, 0, none⟩)] W fun e w' => e = .returned (.string ⟨acc.toArray⟩) ∧ Ext a w' :=
 (Any.Builder_String_any_f Tryz.lays169 Tryz.Builder_Extra_169 _ _ acc W h (Below.size hx)).mono fun e w' ⟨h1, h2, h3⟩ => ⟨h1, Below.trans hx h3⟩
namespace Src
def ruleL (x : Rule) : List UInt8 := lineT (ruleW x)
def eraL (x : Era) : List UInt8 := lineT (eraW x)
def linkL (x : Link) : List UInt8 := lineT (linkW x)
theorem ruleL_le {x : Rule} (h : RuleK x) : (ruleL x).length ≤ 500 := by
 have := line_le (n := 10) (by rw [rule_count]; omega) (rule_words h); unfold ruleL; omega
theorem eraL_le {x : Era} (h : EraK x) : (eraL x).length ≤ 500 := by
 have := line_le (n := 7) (era_count x) (era_words h); unfold eraL; omega
theorem linkL_le {x : Link} (h : linkB x = true) : (linkL x).length ≤ 500 := by
 have := line_le (l := linkW x) (n := 3) (by simp [linkW]) (link_words h); unfold linkL; omega
def upto {α : Type} (f : α → List UInt8) (l : List α) (j : Nat) : List UInt8 := ((l.take j).map f).flatten
theorem upto_zero {α : Type} (f : α → List UInt8) (l : List α) : upto f l 0 = [] := rfl
theorem upto_succ {α : Type} (f : α → List UInt8) (l : List α) (j : Nat) (h : j < l.length) : upto f l (j + 1) = upto f l j ++ f l[j] := by
 unfold upto
 rw [List.take_succ_eq_append_getElem h, List.map_append, List.flatten_append]
 simp only [List.map_cons, List.map_nil, List.flatten_cons, List.flatten_nil, List.append_nil]
theorem upto_all {α : Type} (f : α → List UInt8) (l : List α) (j : Nat) (h : l.length ≤ j) : upto f l j = (l.map f).flatten := by
 unfold upto; rw [List.take_of_length_le h]
theorem flat_le {α : Type} (f : α → List UInt8) (B : Nat) : ∀ (l : List α), (∀ x ∈ l, (f x).length ≤ B) → (l.map f).flatten.length ≤ l.length * B
 | [], _ => by simp
 | x :: l, h => by
   have ih := flat_le f B l (fun y hy => h y (by simp [hy]))
   have h1 := h x (by simp)
   rw [List.map_cons, List.flatten_cons, List.length_append, List.length_cons, Nat.add_mul]
   omega
theorem upto_le {α : Type} (f : α → List UInt8) (B : Nat) (l : List α) (j : Nat) (h : ∀ x ∈ l, (f x).length ≤ B) : (upto f l j).length ≤ l.length * B := by
 have h1 := flat_le f B (l.take j) (fun x hx => h x (List.mem_of_mem_take hx))
 have h2 : (l.take j).length * B ≤ l.length * B := Nat.mul_le_mul_right B (by rw [List.length_take]; omega)
 unfold upto; omega
structure ZoneK (z : Zone) : Prop where
 nm : placeB z.nm.data.toList = true
 n1 : 1 ≤ z.es.length
 n2 : z.es.length ≤ 40
 es : ∀ x ∈ z.es, EraK x
theorem eras_all : ∀ {l : List Era}, erasB l = true → ∀ x ∈ l, EraK x
 | [], _, x, hx => by cases hx
 | y :: l, h, x, hx => by
   unfold erasB at h
   simp only [Bool.and_eq_true] at h
   rcases List.mem_cons.1 hx with rfl | hx
   · exact era_k h.1.1
   · exact eras_all h.2 x hx
theorem zone_k {z : Zone} (h : zoneB z = true) : ZoneK z := by
 unfold zoneB at h
 simp only [Bool.and_eq_true, decide_eq_true_eq] at h
 exact ⟨h.1.1, h.1.2.1, h.1.2.2, eras_all h.2⟩
theorem zoneT_eq (z : Zone) : zoneT z = [90, 111, 110, 101, 32] ++ z.nm.data.toList ++ [32] ++ (z.es.map eraL).flatten := rfl
theorem zoneT_le {z : Zone} (h : ZoneK z) : (zoneT z).length ≤ 21000 := by
 have h1 := flat_le eraL 500 z.es (fun x hx => eraL_le (h.es x hx))
 have h2 := place_len h.nm
 have h3 := Nat.mul_le_mul_right 500 h.n2
 rw [zoneT_eq]
 simp only [List.length_append, List.length_cons, List.length_nil]
 omega
theorem textL_eq (S : Source) : textL S = (S.rules.map ruleL).flatten ++ (S.zones.map zoneT).flatten ++ (S.links.map linkL).flatten := rfl
structure SrcK (S : Source) : Prop where
 r : S.rules.length ≤ 200
 z : S.zones.length ≤ 50
 l : S.links.length ≤ 100
 rs : ∀ x ∈ S.rules, RuleK x
 zs : ∀ x ∈ S.zones, ZoneK x
 ls : ∀ x ∈ S.links, linkB x = true
theorem src_k {S : Source} (h : srcB S = true) : SrcK S := by
 unfold srcB lensB at h
 simp only [Bool.and_eq_true, decide_eq_true_eq, List.all_eq_true] at h
 exact ⟨h.1.1, h.1.2.1, h.1.2.2, fun x hx => rule_k (h.2.1 x hx), fun x hx => zone_k (h.2.2.1 x hx), h.2.2.2⟩
end Src
theorem reads_at (W : World) (l : List Value) (t : TypeId) (n : Nat) (hn : l.length = n) (h : n ≤ 1000) (k : Nat) (hk : k = W.heap.size) : Reads (W.alloc (.cells l.toArray t)) (.slice (some ⟨k, 0, none⟩) n n) n l := by
 subst hk; exact reads_vals W l t n hn h
set_option maxRecDepth 100000 in
set_option maxHeartbeats 16000000 in
theorem sprint_no (S : Source) (v : Value) (w : World) (hr : ReadsS w v S) (HR : ∀ w', Ext w w' → Hid (Rets Tryz.prog 21 #[v] w' (.bool false))) :
 Rets Tryz.prog 19 #[v] w (.tuple #[.string ⟨#[]⟩, .int .i64 1]) := by
 obtain ⟨vr, vz, vl, rfl, hr1, hr2, hr3⟩ := hr
 unfold Rets
 go_enter Tryz.func19, Tryz.ntmps19
 go_wp2_with (go_at_call 21; refine Rets.use (HR _ isext).out ?_; intro _)
 go_ret2
 exact ⟨rfl, done⟩
set_option maxRecDepth 100000 in
set_option maxHeartbeats 32000000 in
theorem sprint_yes (S : Source) (hK : Src.SrcK S) (v : Value) (w : World) (hT : TabW w) (hr : ReadsS w v S) (HR : ∀ w', Ext w w' → Hid (Rets Tryz.prog 21 #[v] w' (.bool true))) :
 Rets Tryz.prog 19 #[v] w (if 100000 < (Src.textL S).length then .tuple #[.string ⟨#[]⟩, .int .i64 12] else .tuple #[.string ⟨(Src.textL S).toArray⟩, .int .i64 0]) := by
 have HT := Lib.hid (Src.textL_eq S)
 obtain ⟨RES, hRES⟩ : ∃ RES : Value, Hid (RES = if 100000 < (Src.textL S).length then .tuple #[.string ⟨#[]⟩, .int .i64 12] else .tuple #[.string ⟨(Src.textL S).toArray⟩, .int .i64 0]) := ⟨_, rfl⟩
 rw [← hRES.out]
 generalize Src.textL S = OUT at *
 obtain ⟨K1, K2, K3, K4, K5, K6⟩ := hK
 obtain ⟨rl, zl, ll⟩ := S
 obtain ⟨vr, vz, vl, rfl, hr1, hr2, hr3⟩ := hr
 simp only at K1 K2 K3 K4 K5 K6 hr1 hr2 hr3 HT
 obtain ⟨nr, hnr⟩ : ∃ n, rl.length = n := ⟨_, rfl⟩
 obtain ⟨nz, hnz⟩ : ∃ n, zl.length = n := ⟨_, rfl⟩
 obtain ⟨nl, hnl⟩ : ∃ n, ll.length = n := ⟨_, rfl⟩
 have LR := fun j => Src.upto_le Src.ruleL 500 rl j (fun x hx => Src.ruleL_le (K4 x hx))
 have LZ := fun j => Src.upto_le Src.zoneT 21000 zl j (fun x hx => Src.zoneT_le (K5 x hx))
 have LL := fun j => Src.upto_le Src.linkL 500 ll j (fun x hx => Src.linkL_le (K6 x hx))
 obtain ⟨zp, hzp, hz2, hz3⟩ := hr2
 rw [hnr] at hr1 K1 LR
 rw [hnz] at hz2 K2 LZ
 rw [hnl] at hr3 K3 LL
 obtain ⟨ar, cr, er⟩ := shape_of hr1
 obtain ⟨az, cz, ez⟩ := shape_of hz2
 obtain ⟨al, cl, el⟩ := shape_of hr3
 subst er ez el
 have Hr1 := Lib.hid hr1
 have Hz2 := Lib.hid hz2
 have Hz3 := Lib.hid hz3
 have Hr3 := Lib.hid hr3
 have Hnr := Lib.hid hnr
 have Hnz := Lib.hid hnz
 have Hnl := Lib.hid hnl
 have Hzp := Lib.hid hzp
 have HLR := Lib.hid LR
 have HLZ := Lib.hid LZ
 have HLL := Lib.hid LL
 clear hr1 hz2 hz3 hr3 hnr hnz hnl hzp LR LZ LL
 unfold Rets
 go_enter Tryz.func19, Tryz.ntmps19
 go_wp2_with (go_at_call 21; refine Rets.use (HR _ isext).out ?_; intro y0)
 clear HR
 go_loopw [19] (fun iv wr => ∃ j : Nat, j ≤ nr ∧ iv = .int .i64 j ∧ Hid (Bld y0.x (Src.upto Src.ruleL rl j) wr) ∧ Ext y0.x wr) (fun iv _ => nr - (intOf iv).toNat)
 case atStart => exact ⟨0, by omega, rfl, bld_new _, isext⟩
 case round =>
  obtain ⟨j, j1, rfl, Ha, hx⟩ := hrel
  obtain ⟨y1, rfl⟩ := fin hx
  clear hx
  by_cases hlt : j < nr
  · have hj : j < rl.length := by rw [Hnr.out]; exact hlt
    rcases Hr1.out with ⟨_, _, e9, h9, _⟩ | ⟨b, o, c9, e9, k1, k2, m1, hc⟩
    · exact absurd h9 (by omega)
    injection e9 with e9 e8 e7
    subst e9
    clear e8 e7
    haveI : InW b w := ⟨m1⟩
    obtain ⟨c0, c1, c2, c3, c4, c5, c6, c7, c8, c9, c10⟩ := rule_at hc j hj
    clear hc
    have hs := Lib.hid (Src.upto_succ Src.ruleL rl j hj)
    have hl0 := HLR.out j
    have hfx := K4 rl[j] (List.getElem_mem hj)
    have hl1 := Src.ruleL_le hfx
    have HL : ∀ w, TabW w → Hid (Rets Tryz.prog 37 #[ruleV rl[j]] w (.string ⟨(Src.ruleL rl[j]).toArray⟩)) := fun w hT => prule_text hfx w hT
    clear hfx
    generalize Src.ruleL rl[j] = X at *
    generalize Src.upto Src.ruleL rl j = A at *
    generalize rl[j] = x at *
    obtain ⟨nm, a, b', m, k, wd, d, t, r, s, lt⟩ := x
    simp only at c0 c1 c2 c3 c4 c5 c6 c7 c8 c9 c10
    go_wp2_with (first | (go_at_call 37; refine Rets.use (HL _ (hT.ext isext)).out ?_; intro y2) | (go_at_call 36; refine (Bld.write (a := y0.x) (Bld.ext Ha.out isext) isext ⟨X.toArray⟩ (by simp [ByteArray.size]; omega)).mono ?_; rintro e w' ⟨rfl, hB, hx, hkp⟩; obtain ⟨y3, rfl⟩ := fin hx))
    go_roundw
    case rel => exact ⟨j + 1, by omega, by go_num, by show Bld _ _ _; rw [hs.out]; exact hB, isext⟩
    case measure => simp [intOf]; omega
  · obtain rfl : j = nr := by omega
    have HA1 : Hid (Src.upto Src.ruleL rl j = (rl.map Src.ruleL).flatten) := Src.upto_all _ _ _ (by rw [Hnr.out]; omega)
    have hA1 := HLR.out j
    rw [HA1.out] at hA1
    have Ha1 : Hid (Bld y0.x ((rl.map Src.ruleL).flatten) y1.x) := by show Bld _ _ _; rw [← HA1.out]; exact Ha.out
    clear Ha HA1
    generalize (rl.map Src.ruleL).flatten = A1 at *
    go_wp2_with fail
    go_loopw [30] (fun iv wr => ∃ j : Nat, j ≤ nz ∧ iv = .int .i64 j ∧ Hid (Bld y0.x (A1 ++ Src.upto Src.zoneT zl j) wr) ∧ Ext y0.x wr) (fun iv _ => nz - (intOf iv).toNat)
    case atStart => exact ⟨0, by omega, rfl, by show Bld _ _ _; rw [Src.upto_zero, List.append_nil]; exact Ha1.out, isext⟩
    case round =>
     clear Ha1
     clear y1
     obtain ⟨i, j1, rfl, Ha, hx⟩ := hrel
     obtain ⟨y1, rfl⟩ := fin hx
     clear hx
     by_cases hlt : i < nz
     · have hj : i < zl.length := by rw [Hnz.out]; exact hlt
       have hjp : i < zp.length := by have := congrArg List.length Hzp.out; rw [List.length_map] at this; omega
       have hz1 : zp[i].1 = zl[i] := by
        have : (zp.map (·.1))[i]'(by rw [List.length_map]; exact hjp) = zl[i] := by simp only [Hzp.out]
        rwa [List.getElem_map] at this
       rcases Hz2.out with ⟨_, _, e9, h9, _⟩ | ⟨b, o, c9, e9, k1, k2, m1, hc⟩
       · exact absurd h9 (by omega)
       injection e9 with e9 e8 e7
       subst e9
       clear e8 e7
       haveI : InW b w := ⟨m1⟩
       obtain ⟨c0, c1⟩ := zone_at hc i hjp
       clear hc
       have hs := Lib.hid (Src.upto_succ Src.zoneT zl i hj)
       have hre := Hz3.out zp[i] (List.getElem_mem hjp)
       have hfz := K5 zl[i] (List.getElem_mem hj)
       have hl0 := HLZ.out i
       rw [hz1] at c0 hre
       have HZT := Lib.hid (Src.zoneT_eq zl[i])
       have hl1 := Src.zoneT_le hfz
       generalize Src.zoneT zl[i] = ZT at *
       generalize zp[i].2 = V at *
       generalize zl[i] = z at *
       clear hz1
       generalize Src.upto Src.zoneT zl i = A at *
       obtain ⟨zn, n1, n2, zes⟩ := hfz
       obtain ⟨nm, es⟩ := z
       simp only at c0 hre zn n1 n2 zes HZT
       have lnm := Src.place_len zn
       have LE := fun j => Src.upto_le Src.eraL 500 es j (fun x hx => Src.eraL_le (zes x hx))
       obtain ⟨ne, hne⟩ : ∃ n, es.length = n := ⟨_, rfl⟩
       rw [hne] at hre n1 n2 LE
       obtain ⟨ae, ce, rfl⟩ := shape_of hre
       have b4 := len_of hre
       have Hre := Lib.hid hre
       have Hne := Lib.hid hne
       have HLE := Lib.hid LE
       clear hre hne LE
       rcases Hre.out with ⟨_, _, e9, h9, _⟩ | ⟨be, oe, c9, e9, k3, k4, m2, hc⟩
       · exact absurd h9 (by omega)
       injection e9 with e9 e8 e7
       subst e9
       clear e8 e7
       haveI : InW be w := ⟨m2⟩
       have HC := Lib.hid hc
       clear hc
       have hsz : ((⟨#[90, 111, 110, 101, 32]⟩ : ByteArray) ++ nm ++ ⟨#[32]⟩).size = 5 + nm.data.toList.length + 1 := by
        simp only [ByteArray.size_append]; rfl
       have hda : ((⟨#[90, 111, 110, 101, 32]⟩ : ByteArray) ++ nm ++ ⟨#[32]⟩).data.toList = [90, 111, 110, 101, 32] ++ nm.data.toList ++ [32] := by
        simp [ByteArray.data_append]
       obtain ⟨HD, hHD⟩ : ∃ HD, [90, 111, 110, 101, 32] ++ nm.data.toList ++ [32] = HD := ⟨_, rfl⟩
       have hns : nm.size ≤ 40 := lnm
       have hq1 : ¬ 9223372036854775807 < 5 + nm.size := by omega
       have hq2 : ¬ 9223372036854775807 < 5 + nm.size + 1 := by omega
       have hzn : y1.x.heap.size ≠ y0.x.heap.size := by
        have : y0.x.heap.size < y1.x.heap.size := Ha.out.lt
        omega
       have lHD : HD.length ≤ 50 := by rw [← hHD]; simp only [List.length_append, List.length_cons, List.length_nil]; omega
       go_wp2_with (go_at_call 36; refine (Bld.write (a := y0.x) (Bld.ext Ha.out isext) isext _ (by rw [hsz]; simp only [List.length_append]; omega)).mono ?_; rintro e w' ⟨rfl, hB, hx, hkp⟩; obtain ⟨y3, rfl⟩ := fin hx; have hzb := hkp.cell (k := y1.x.heap.size) (World.alloc_heap_new y1.x _) (by decide) hzn; have iz : InW y1.x.heap.size y3.x := ⟨(Array.getElem?_eq_some_iff.1 hzb).1⟩; have z1 : y3.x.cell? ⟨y1.x.heap.size, 1, none⟩ = some (.slice (some ⟨be, oe, none⟩) ne ce) := by rw [Lib.cell_of_heap hzb]; rfl)
       have hB1 : Hid (Bld y0.x (A1 ++ A ++ HD) y3.x) := by show Bld _ _ _; rw [← hHD, ← hda]; exact hB
       clear hB hzb hkp Ha
       go_loopw [42] (fun iv wr => ∃ k : Nat, k ≤ ne ∧ iv = .int .i64 k ∧ Hid (Bld y0.x (A1 ++ A ++ HD ++ Src.upto Src.eraL es k) wr) ∧ Ext y0.x wr) (fun iv _ => ne - (intOf iv).toNat)
       case atStart => exact ⟨0, by omega, rfl, by show Bld _ _ _; rw [Src.upto_zero, List.append_nil]; exact hB1.out, isext⟩
       case round =>
        clear hB1
        obtain ⟨k, k9, rfl, He, hx⟩ := hrel
        obtain ⟨y4, rfl⟩ := fin hx
        clear hx
        by_cases hlk : k < ne
        · have hk : k < es.length := by rw [Hne.out]; exact hlk
          obtain ⟨d0, d1, d2, d3, d4, d5, d6, d7, d8, d9, d10, d11, d12⟩ := era_at HC.out k hk
          have hse := Lib.hid (Src.upto_succ Src.eraL es k hk)
          have hle0 := HLE.out k
          have hfx := zes es[k] (List.getElem_mem hk)
          have hle1 := Src.eraL_le hfx
          have HL : ∀ w, TabW w → Hid (Rets Tryz.prog 38 #[eraV es[k]] w (.string ⟨(Src.eraL es[k]).toArray⟩)) := fun w hT => pera_text hfx w hT
          clear hfx
          generalize Src.eraL es[k] = X at *
          generalize Src.upto Src.eraL es k = Ae at *
          generalize es[k] = x at *
          obtain ⟨off, kd, s, rs, fm, til, y, m, kk, wd, d, t, r⟩ := x
          simp only at d0 d1 d2 d3 d4 d5 d6 d7 d8 d9 d10 d11 d12
          go_wp2_with (first | (go_at_call 38; refine Rets.use (HL _ (hT.ext isext)).out ?_; intro y5) | (go_at_call 36; refine (Bld.write (a := y0.x) (Bld.ext He.out isext) isext ⟨X.toArray⟩ (by simp only [List.length_append, ByteArray.size, List.size_toArray]; omega)).mono ?_; rintro e w' ⟨rfl, hB, hx, hkp⟩; obtain ⟨y6, rfl⟩ := fin hx))
          go_roundw
          case rel => exact ⟨k + 1, by omega, by go_num, by show Bld _ _ _; rw [hse.out, ← List.append_assoc]; exact hB, isext⟩
          case measure => simp [intOf]; omega
        · have hall := Lib.hid (Src.upto_all Src.eraL es k (by rw [Hne.out]; omega))
          have HB2 : Hid (Bld y0.x (A1 ++ Src.upto Src.zoneT zl (i + 1)) y4.x) := by
           show Bld _ _ _
           rw [hs.out, HZT.out, hHD, ← hall.out, ← List.append_assoc, ← List.append_assoc]; exact He.out
          clear He hs HZT hall
          go_wp2
          go_roundw
          case rel => exact ⟨i + 1, by omega, by go_num, HB2, isext⟩
          case measure => simp [intOf]; omega
     · obtain rfl : i = nz := by omega
       have HA2 : Hid (Src.upto Src.zoneT zl i = (zl.map Src.zoneT).flatten) := Src.upto_all _ _ _ (by rw [Hnz.out]; omega)
       have hA2 := HLZ.out i
       rw [HA2.out] at hA2
       have Ha2 : Hid (Bld y0.x (A1 ++ (zl.map Src.zoneT).flatten) y1.x) := by show Bld _ _ _; rw [← HA2.out]; exact Ha.out
       clear Ha HA2
       generalize (zl.map Src.zoneT).flatten = A2 at *
       obtain ⟨i0, hi, hzz0, hzz1, hzz2⟩ := info_parts Tryz.infoTextM
       go_wp2_with fail
       go_loopw [54] (fun iv wr => ∃ j : Nat, j ≤ nl ∧ iv = .int .i64 j ∧ Hid (Bld y0.x (A1 ++ A2 ++ Src.upto Src.linkL ll j) wr) ∧ Ext y0.x wr) (fun iv _ => nl - (intOf iv).toNat)
       case atStart => exact ⟨0, by omega, rfl, by show Bld _ _ _; rw [Src.upto_zero, List.append_nil]; exact Ha2.out, isext⟩
       case round =>
        clear Ha2
        clear y1
        obtain ⟨q, j1, rfl, Ha, hx⟩ := hrel
        obtain ⟨y1, rfl⟩ := fin hx
        clear hx
        by_cases hlt : q < nl
        · have hj : q < ll.length := by rw [Hnl.out]; exact hlt
          rcases Hr3.out with ⟨_, _, e9, h9, _⟩ | ⟨b, o, c9, e9, k1, k2, m1, hc⟩
          · exact absurd h9 (by omega)
          injection e9 with e9 e8 e7
          subst e9
          clear e8 e7
          haveI : InW b w := ⟨m1⟩
          obtain ⟨c0, c1⟩ := link_at hc q hj
          clear hc
          have hs := Lib.hid (Src.upto_succ Src.linkL ll q hj)
          have hl0 := HLL.out q
          have hfl := K6 ll[q] (List.getElem_mem hj)
          have hl1 := Src.linkL_le hfl
          have HL : ∀ w v, Reads w v 3 [.string ⟨#[76, 105, 110, 107]⟩, .string ll[q].tg, .string ll[q].nm] → Hid (Rets Tryz.prog 39 #[v] w (.string ⟨(Src.linkL ll[q]).toArray⟩)) := fun w v hr =>
           line_any (Src.linkW ll[q]) v 3 rfl (by omega) (by omega) w (by simpa [strs, Src.linkW, ba_eta] using hr) (by have := Src.join_le 40 _ (Src.link_words hfl); simp [Src.linkW] at this ⊢; omega)
          clear hfl
          generalize Src.linkL ll[q] = X at *
          generalize Src.upto Src.linkL ll q = A at *
          generalize ll[q] = x at *
          obtain ⟨tg, nm⟩ := x
          simp only at c0 c1 HL
          go_wp2_with fail
          go_at_call 39
          refine Rets.use (HL _ _ (reads_at (y1.x.alloc (.cells #[.string tg, .string nm] 63)) [.string ⟨#[76, 105, 110, 107]⟩, .string tg, .string nm] 9 3 rfl (by omega) (y1.x.heap.size + 1) (by simp))).out ?_
          intro y2
          go_wp2_with (first | (go_at_call 36; refine (Bld.write (a := y0.x) (Bld.ext Ha.out isext) isext ⟨X.toArray⟩ (by simp only [List.length_append, ByteArray.size, List.size_toArray]; omega)).mono ?_; rintro e w' ⟨rfl, hB, hx, hkp⟩; obtain ⟨y3, rfl⟩ := fin hx))
          go_roundw
          case rel => exact ⟨q + 1, by omega, by go_num, by show Bld _ _ _; rw [hs.out, ← List.append_assoc]; exact hB, isext⟩
          case measure => simp [intOf]; omega
        · obtain rfl : q = nl := by omega
          have HA3 : Hid (Src.upto Src.linkL ll q = (ll.map Src.linkL).flatten) := Src.upto_all _ _ _ (by rw [Hnl.out]; omega)
          have Ha3 : Hid (Bld y0.x OUT y1.x) := by show Bld _ _ _; rw [HT.out, ← HA3.out]; exact Ha.out
          have hlo : OUT.length ≤ 10000000 := by
           rw [HT.out, ← HA3.out]
           have := HLL.out q
           simp only [List.length_append]; omega
          clear Ha HA3 HT
          by_cases hbig : 100000 < OUT.length
          · obtain rfl : RES = .tuple #[.string ⟨#[]⟩, .int .i64 12] := hRES.out.trans (if_pos hbig)
            clear hRES
            have hb' : (100000 : Int) < OUT.length := by omega
            go_wp2_with (go_at_call 40; refine (Bld.len (a := y0.x) (Bld.ext Ha3.out isext)).mono ?_; rintro e w' ⟨rfl, rfl⟩)
            go_ret2
            exact ⟨rfl, done⟩
          · obtain rfl : RES = .tuple #[.string ⟨OUT.toArray⟩, .int .i64 0] := hRES.out.trans (if_neg hbig)
            clear hRES
            have hb' : decide ((100000 : Int) < OUT.length) = false := decide_eq_false (by omega)
            go_wp2_with (first | (go_at_call 40; refine (Bld.len (a := y0.x) (Bld.ext Ha3.out isext)).mono ?_; rintro e w' ⟨rfl, rfl⟩) | (go_at_call 41; refine (Bld.str (a := y0.x) (Bld.ext Ha3.out isext) isext).mono ?_; rintro e w' ⟨rfl, hx⟩; obtain ⟨y3, rfl⟩ := fin hx))
            go_ret2
            exact ⟨rfl, done⟩
theorem sprint_core (S : Source) (v : Value) (w : World) (hT : TabW w) (hr : ReadsS w v S) (HR : ∀ w', Ext w w' → Rets Tryz.prog 21 #[v] w' (.bool (Src.srcB S))) :
 Rets Tryz.prog 19 #[v] w (.tuple #[.string ⟨(Src.printP S).1.toArray⟩, .int .i64 (Src.printP S).2]) := by
 unfold Src.printP
 cases hB : Src.srcB S
 · rw [hB] at HR
   rw [if_pos rfl]
   exact sprint_no S v w hr HR
 · rw [hB] at HR
   rw [if_neg (by simp)]
   have := sprint_yes S (Src.src_k hB) v w hT hr HR
   split at this
   · rw [if_pos ‹_›]; exact this
   · rw [if_neg ‹_›]; exact this
end Go.Proofs.YtdhbgelijjlifaaGreatDoor
