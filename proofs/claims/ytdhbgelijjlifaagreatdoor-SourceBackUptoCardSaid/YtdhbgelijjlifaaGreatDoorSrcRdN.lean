/- Walks of sources: the reader's era. -/
import Derived.Test.YtdhbgelijjlifaaGreatDoorSrcRdFB
import Derived.Test.YtdhbgelijjlifaaGreatDoorSrcRdG
import Derived.Test.YtdhbgelijjlifaaGreatDoorSrcRdGB
import Derived.Test.YtdhbgelijjlifaaGreatDoorSrcTree
import Derived.IntWalk
set_option linter.unusedVariables false
set_option linter.unusedSimpArgs false
namespace Go.Proofs.YtdhbgelijjlifaaGreatDoor
open Go.RowKit Go.Shelf
theorem pera0_any (wb : Frm) (w : World) (b : Nat) (S : Source) (line : Int) (all : ByteArray) (ws : List Src.Wd) (hg : GoodW w) (h : Rd wb w b S line all ws) (hs : ∀ x ∈ ws, x.1.size ≤ 1000) (hlo : 3 ≤ ws.length) (hhi : ws.length ≤ 7) (hall : all.size ≤ 1048576) (hne : S.zones ≠ []) (hee : (Src.lastE S).length ≤ 100) (hzz : S.zones.length ≤ 1000) :
 Calls Tryz.prog 85 #[.pointer (some ⟨b, 0, none⟩), .int .i64 0] w (RdEnd wb b line all ws (eraO S ws 0 line)) := by
 rcases lit_cases (Src.tx ws 1) ⟨#[45]⟩ [45] (by decide +kernel) with ⟨t1, t2, t3⟩ | ⟨t1, t2, t3⟩
 · exact pera0_dash wb w b S line all ws hg h hs hlo hhi hall hne hee hzz t1 t2 (by unfold Src.tl; rw [t3])
 · cases hop : Src.opensB (Src.tl ws 1)
   · exact pera0_off wb w b S line all ws hg h hs hlo hhi hall hne hee hzz t1 t2 t3 hop
   · exact pera0_set wb w b S line all ws hg h hs hlo hhi hall hne hee hzz t1 t2 t3 hop
theorem pera2_any (wb : Frm) (w : World) (b : Nat) (S : Source) (line : Int) (all : ByteArray) (ws : List Src.Wd) (hg : GoodW w) (h : Rd wb w b S line all ws) (hs : ∀ x ∈ ws, x.1.size ≤ 1000) (hlo : 5 ≤ ws.length) (hhi : ws.length ≤ 9) (hall : all.size ≤ 1048576) (hne : S.zones ≠ []) (hee : (Src.lastE S).length ≤ 100) (hzz : S.zones.length ≤ 1000) :
 Calls Tryz.prog 85 #[.pointer (some ⟨b, 0, none⟩), .int .i64 2] w (RdEnd wb b line all ws (eraO S ws 2 line)) := by
 rcases lit_cases (Src.tx ws 3) ⟨#[45]⟩ [45] (by decide +kernel) with ⟨t1, t2, t3⟩ | ⟨t1, t2, t3⟩
 · exact pera2_dash wb w b S line all ws hg h hs hlo hhi hall hne hee hzz t1 t2 (by unfold Src.tl; rw [t3])
 · cases hop : Src.opensB (Src.tl ws 3)
   · exact pera2_off wb w b S line all ws hg h hs hlo hhi hall hne hee hzz t1 t2 t3 hop
   · exact pera2_set wb w b S line all ws hg h hs hlo hhi hall hne hee hzz t1 t2 t3 hop
end Go.Proofs.YtdhbgelijjlifaaGreatDoor
namespace Go.Proofs.YtdhbgelijjlifaaGreatDoor
open Go.RowKit Go.Shelf
theorem rd_zone {wb : Frm} {w w5 w1 : World} {b Bw : Nat} {S : Source} {line : Int} {all nm : ByteArray} {ws : List Src.Wd} {vr vz vl lv v' : Value} {zp : List (Zone × Value)} (hxb : Kept wb w) (hge : wb.w.heap.size ≤ b) (hop : Src.openB S = false) (hblk : Blk w b #[vr, vz, vl, .int .i64 line, .string all, lv, .bool (Src.openB S)] 49)
 (ht : Tree w (b + 1) vr vz vl zp S) (hw : w.ownsRow Bw 68 2 lv ws.length (wordCells ws)) (hx : Ext w w5) (ho : w1.ownsRow (b + 1) 59 2 v' (S.zones.length + 1) (zoneRow (zp ++ [(⟨nm, []⟩, .slice none 0 0)]))) (hg : w5.grownBy w1 vz.ownBlock) :
 Rd wb (w1.setCell ⟨b, 1, none⟩ v') b ⟨S.rules, S.zones ++ [⟨nm, []⟩], S.links⟩ line all ws := by
 have ht5 := ht.past hx
 have hb1 := blk_grown (hblk.ext hx) ht5.zones hg
 have hS : Src.openB ⟨S.rules, S.zones ++ [⟨nm, []⟩], S.links⟩ = false := by unfold Src.openB Src.lastE; simp
 have hbs : b + 1 ≤ w5.heap.size := by have := hblk.lt; have := Below.size hx; omega
 refine ⟨((hxb.trans hx).grown ht5.zones hge (by decide) hg).store hb1 hge _ _, hge, vr, v', vl, lv, zp ++ [(⟨nm, []⟩, .slice none 0 0)], Bw, ?_, (ht5.zone ho hg (B := w5.heap.size) hbs (fun p hp => low_size (ht5.all_eras p hp)) (World.ownsRow_nil _ _ _ _)).store (by show b < b + 1; omega), ?_⟩
 · rw [hS, ← hop, hb1.set 1 v']
   exact setB_blk hb1
 · have h1 := own_other (own_past hw hx) ht5.zones (by decide) hg
   exact own_store h1 (own_blk hb1 h1 (by decide))
theorem rd_ext {wb : Frm} {w w' : World} {b : Nat} {S : Source} {line : Int} {all : ByteArray} {ws : List Src.Wd} (h : Rd wb w b S line all ws) (hx : Ext w w') : Rd wb w' b S line all ws := by
 obtain ⟨h1, h2, vr, vz, vl, lv, zp, Bw, h3, h4, h5⟩ := h
 exact ⟨h1.trans hx, h2, vr, vz, vl, lv, zp, Bw, h3.ext hx, h4.past hx, own_past h5 hx⟩
theorem rdEnd_use {wb : Frm} {w : World} {b : Nat} {line : Int} {all : ByteArray} {ws : List Src.Wd} {o : Fault ⊕ Source} {f : FuncId} {args : Array Value} {R : Ending → World → Prop} (h : Calls Tryz.prog f args w (RdEnd wb b line all ws o))
 (k1 : ∀ F w', o = .inl F → Kept wb w' → R (gaveUp F) w') (k2 : ∀ S w', o = .inr S → Rd wb w' b S line all ws → R (.returned (.tuple #[])) w') : Calls Tryz.prog f args w R := by
 refine h.mono fun e w' hE => ?_
 cases o with
 | inl F => obtain ⟨rfl, hx⟩ := hE; exact k1 F w' rfl hx
 | inr S => obtain ⟨rfl, hx⟩ := hE; exact k2 S w' rfl hx
theorem Tryz.infoZoneS : (Tryz.prog.info? 59).map (fun i => (i.zero, i.size, i.bytes)) = some (some (.agg #[.string ByteArray.empty, .slice none 0 0]), 2, 40) := by kernel_rfl
theorem next_last {S : Source} {zi : List (Zone × Value)} {z : Zone} (h : S.zones = zi.map (·.1) ++ [z]) : Src.lastE S = z.es := by unfold Src.lastE; rw [h]; simp
theorem next_good {S : Source} {ws : List Src.Wd} {size : Nat} {line : Int} (h1 : ¬ 40 ≤ (Src.lastE S).length) (h2 : Src.countP ws size line 3 7 = none) : Src.nextP S ws size line = eraO S ws 0 line := by
 unfold Src.nextP eraO
 rw [if_neg h1, h2]
 cases Src.eraP ws 0 line <;> rfl
theorem zone_good {S : Source} {ws : List Src.Wd} {size : Nat} {line : Int} (h1 : ¬ 50 ≤ S.zones.length) (h2 : Src.countP ws size line 5 9 = none) (h3 : Src.placeB (Src.tl ws 1) = true) : Src.zoneP S ws size line = eraO ⟨S.rules, S.zones ++ [⟨Src.tx ws 1, []⟩], S.links⟩ ws 2 line := by
 unfold Src.zoneP eraO
 rw [if_neg h1, h2]
 simp only [h3, Bool.true_eq_false, if_false]
 cases Src.eraP ws 2 line with
 | inl f => rfl
 | inr x => simp [Src.addEra]
set_option maxRecDepth 100000 in
set_option maxHeartbeats 8000000 in
theorem pnext_any (wb : Frm) (w : World) (b : Nat) (S : Source) (line : Int) (all : ByteArray) (ws : List Src.Wd) (hg : GoodW w) (h : Rd wb w b S line all ws) (hs : ∀ x ∈ ws, x.1.size ≤ 1000) (hw0 : 0 < ws.length) (hw16 : ws.length ≤ 100) (hall : all.size ≤ 1048576) (hne : S.zones ≠ []) (hee : (Src.lastE S).length ≤ 1000) (hzz : S.zones.length ≤ 1000) :
 Calls Tryz.prog 48 #[.pointer (some ⟨b, 0, none⟩)] w (RdEnd wb b line all ws (Src.nextP S ws all.size line)) := by
 have HEr : ∀ w', Ext w w' → 3 ≤ ws.length → ws.length ≤ 7 → (Src.lastE S).length ≤ 100 → Hid (Calls Tryz.prog 85 #[.pointer (some ⟨b, 0, none⟩), .int .i64 0] w' (RdEnd wb b line all ws (eraO S ws 0 line))) := fun w' hx l1 l2 l3 => Lib.hid (pera0_any wb w' b S line all ws (hg.ext hx) (rd_ext h hx) hs l1 l2 hall hne l3 hzz)
 obtain ⟨hxb, hge, vr, vz, vl, lv, zp, Bw, hblk, htree, hwords⟩ := h
 have L := rdl_of hblk hwords
 have HRm := fun hv most w' (hx : Ext w w') => Lib.hid (proom_any b line all ws hw0 hv most w' (L.ext hx))
 have HMn := fun w' (hx : Ext w w') => Lib.hid (pmany_any b line all ws 3 7 (by omega) (by omega) (by omega) w' (L.ext hx))
 obtain ⟨zi, z, V, rfl⟩ := tree_split htree hne
 obtain ⟨B, hBb, hlow, hV⟩ := htree.last
 have hle : Src.lastE S = z.es := next_last (tree_names htree)
 obtain ⟨h1, h2, h3, lv', h4, h5⟩ := L
 haveI : InW b w := ⟨h1⟩
 clear h5 h4 h3 h2
 obtain ⟨nz, hnz, hnzi⟩ : ∃ nz, S.zones.length = nz + 1 ∧ zi.length = nz := ⟨zi.length, by rw [tree_names htree]; simp, rfl⟩
 obtain ⟨ne, hne1⟩ : ∃ ne, z.es.length = ne := ⟨_, rfl⟩
 have hne2 : ne ≤ 1000 := by rw [← hne1, ← hle]; exact hee
 have hzo := htree.zones
 rw [hnz] at hzo
 obtain ⟨gz, cz, rfl⟩ := owns_block hzo (by omega)
 have hgz : (Value.slice (some ⟨gz, 0, none⟩) (nz + 1) cz).ownBlock = some gz := rfl
 have hcz := tree_cells htree hgz
 rw [hnzi] at hcz
 obtain ⟨czV, -⟩ := hcz
 obtain ⟨gz1, gz2⟩ := hzo.lt gz hgz
 haveI : InW gz w := ⟨gz2⟩
 have hVo := hV
 rw [hne1] at hVo
 obtain ⟨av, cv, rfl⟩ := owns_shape hVo
 have b1 := len_of (owns_reads hzo (by decide))
 have b2 := len_of (owns_reads hVo (by decide))
 have c1 : w.cell? ⟨b, 1, none⟩ = some (.slice (some ⟨gz, 0, none⟩) (nz + 1) cz) := (hblk.cell 1).trans rfl
 have hres : Src.nextP S ws all.size line = if 40 ≤ (Src.lastE S).length then .inl ⟨12, line, Src.pt ws 0⟩
  else match Src.countP ws all.size line 3 7 with
   | some f => .inl f
   | none => match Src.eraP ws 0 line with
     | .inl f => .inl f
     | .inr x => .inr ⟨S.rules, Src.addEra S.zones x, S.links⟩ := rfl
 rw [hle, hne1] at hres
 have Hres := Lib.hid hres
 have HG := fun h1 h2 => Lib.hid (@next_good S ws all.size line h1 h2)
 rw [hle, hne1] at HG
 clear hres hnz hnzi
 have hwz : IntKind.i64.wrap (nz : Int) = nz := IntWalk.i64_in _ (by omega)
 generalize Src.nextP S ws all.size line = OUT at *
 go_enter Tryz.func48, Tryz.ntmps48
 go_wp2_with fail
 refine wp_region_held_drew (S := fun w' => ∃ y : Past w, w' = y.x) (by kernel_rfl) (fin isext) (fun hHeld => ?_)
 refine wpAnyH_take (i := 0) (oi := ⟨some 2, _, _, _, _, _⟩) (v := ?_) rfl (by kernel_rfl) (by kernel_rfl) (by kernel_rfl) (fun _ _ _ h => h) (Or.inl ⟨by rfl, ?_⟩) (by assumption) ?_
 rotate_left
 · rintro w ⟨yS, rfl⟩; go_simp; first | done | with_reducible rfl | rw [if_pos (by omega)] | rw [if_neg (by omega)]
 try simp only [Act.put, putA, putZ, putS]
 refine wpAnyH_take (i := 1) (oi := ⟨some 3, _, _, _, _, _⟩) (v := ?_) rfl (by kernel_rfl) (by kernel_rfl) (by kernel_rfl) (fun _ _ _ h => h) (Or.inl ⟨by rfl, ?_⟩) (by assumption) ?_
 rotate_left
 · rintro w ⟨yS, rfl⟩; go_simp; first | done | with_reducible rfl | rw [if_pos (by omega)] | rw [if_neg (by omega)]
 try simp only [Act.put, putA, putZ, putS]
 refine wpAnyH_take (i := 2) (oi := ⟨some 4, _, _, _, _, _⟩) (v := ?_) rfl (by kernel_rfl) (by kernel_rfl) (by kernel_rfl) (fun _ _ _ h => h) (Or.inl ⟨by rfl, ?_⟩) (by assumption) ?_
 rotate_left
 · rintro w ⟨yS, rfl⟩; go_simp; first | done | with_reducible rfl | rw [if_pos (by omega)] | rw [if_neg (by omega)]
 try simp only [Act.put, putA, putZ, putS]
 refine wpAnyH_take (i := 3) (oi := ⟨some 5, _, _, _, _, _⟩) (v := ?_) rfl (by kernel_rfl) (by kernel_rfl) (by kernel_rfl) (fun _ _ _ h => h) (Or.inl ⟨by rfl, ?_⟩) (by assumption) ?_
 rotate_left
 · rintro w ⟨yS, rfl⟩; go_simp; first | done | with_reducible rfl | rw [if_pos (by omega)] | rw [if_neg (by omega)]
 try simp only [Act.put, putA, putZ, putS]
 refine wpAnyH_take (i := 4) (oi := ⟨some 6, _, _, _, _, _⟩) (v := ?_) rfl (by kernel_rfl) (by kernel_rfl) (by kernel_rfl) (fun _ _ _ h => h) (Or.inl ⟨by rfl, ?_⟩) (by assumption) ?_
 rotate_left
 · rintro w ⟨yS, rfl⟩; go_simp; first | done | with_reducible rfl | rw [if_pos (by omega)] | rw [if_neg (by omega)]
 try simp only [Act.put, putA, putZ, putS]
 refine wpAnyH_take (i := 5) (oi := ⟨some 7, _, _, _, _, _⟩) (v := ?_) rfl (by kernel_rfl) (by kernel_rfl) (by kernel_rfl) (fun _ _ _ h => h) (Or.inl ⟨by rfl, ?_⟩) (by assumption) ?_
 rotate_left
 · rintro w ⟨yS, rfl⟩; go_simp; first | done | with_reducible rfl | rw [if_pos (by omega)] | rw [if_neg (by omega)]
 try simp only [Act.put, putA, putZ, putS]
 refine wpAnyH_take (i := 6) (oi := ⟨some 8, _, _, _, _, _⟩) (v := ?_) rfl (by kernel_rfl) (by kernel_rfl) (by kernel_rfl) (fun _ _ _ h => h) (Or.inl ⟨by rfl, ?_⟩) (by assumption) ?_
 rotate_left
 · rintro w ⟨yS, rfl⟩; go_simp; first | done | with_reducible rfl | rw [if_pos (by omega)] | rw [if_neg (by omega)]
 try simp only [Act.put, putA, putZ, putS]
 refine wpAnyH_take (i := 7) (oi := ⟨some 9, _, _, _, _, _⟩) (v := ?_) rfl (by kernel_rfl) (by kernel_rfl) (by kernel_rfl) (fun _ _ _ h => h) (Or.inl ⟨by rfl, ?_⟩) (by assumption) ?_
 rotate_left
 · rintro w ⟨yS, rfl⟩; go_simp; first | done | with_reducible rfl | rw [if_pos (by omega)] | rw [if_neg (by omega)]
 try simp only [Act.put, putA, putZ, putS]
 refine wpAnyH_take (i := 8) (oi := ⟨some 10, _, _, _, _, _⟩) (v := ?_) rfl (by kernel_rfl) (by kernel_rfl) (by kernel_rfl) (fun _ _ _ h => h) (Or.inl ⟨by rfl, ?_⟩) (by assumption) ?_
 rotate_left
 · rintro w ⟨yS, rfl⟩; go_simp; first | done | with_reducible rfl | rw [if_pos (by omega)] | rw [if_neg (by omega)]
 try simp only [Act.put, putA, putZ, putS]
 refine wpAnyH_take (i := 9) (oi := ⟨some 11, _, _, _, _, _⟩) (v := ?_) rfl (by kernel_rfl) (by kernel_rfl) (by kernel_rfl) (fun _ _ _ h => h) (Or.inl ⟨by rfl, ?_⟩) (by assumption) ?_
 rotate_left
 · rintro w ⟨yS, rfl⟩; go_simp; first | done | with_reducible rfl | rw [if_pos (by omega)] | rw [if_neg (by omega)]
 try simp only [Act.put, putA, putZ, putS]
 refine wpAnyH_take (i := 10) (oi := ⟨some 12, _, _, _, _, _⟩) (v := ?_) rfl (by kernel_rfl) (by kernel_rfl) (by kernel_rfl) (fun _ _ _ h => h) (Or.inl ⟨by rfl, ?_⟩) (by assumption) ?_
 rotate_left
 · rintro w ⟨yS, rfl⟩; go_simp; first | done | with_reducible rfl | rw [if_pos (by omega)] | rw [if_neg (by omega)]
 try simp only [Act.put, putA, putZ, putS]
 refine wpAnyH_take (i := 11) (oi := ⟨some 13, _, _, _, _, _⟩) (v := ?_) rfl (by kernel_rfl) (by kernel_rfl) (by kernel_rfl) (fun _ _ _ h => h) (Or.inl ⟨by rfl, ?_⟩) (by assumption) ?_
 rotate_left
 · rintro w ⟨yS, rfl⟩; go_simp; first | done | with_reducible rfl | rw [if_pos (by omega)] | rw [if_neg (by omega)]
 try simp only [Act.put, putA, putZ, putS]
 refine wpAnyH_take (i := 12) (oi := ⟨some 14, _, _, _, _, _⟩) (v := ?_) rfl (by kernel_rfl) (by kernel_rfl) (by kernel_rfl) (fun _ _ _ h => h) (Or.inl ⟨by rfl, ?_⟩) (by assumption) ?_
 rotate_left
 · rintro w ⟨yS, rfl⟩; go_simp; first | done | with_reducible rfl | rw [if_pos (by omega)] | rw [if_neg (by omega)]
 try simp only [Act.put, putA, putZ, putS]
 refine wpAnyH_take (i := 13) (oi := ⟨some 15, _, _, _, _, _⟩) (v := ?_) rfl (by kernel_rfl) (by kernel_rfl) (by kernel_rfl) (fun _ _ _ h => h) (Or.inl ⟨by rfl, ?_⟩) (by assumption) ?_
 rotate_left
 · rintro w ⟨yS, rfl⟩; go_simp; first | done | with_reducible rfl | rw [if_pos (by omega)] | rw [if_neg (by omega)]
 try simp only [Act.put, putA, putZ, putS]
 refine wpAnyH_take (i := 14) (oi := ⟨some 16, _, _, _, _, _⟩) (v := ?_) rfl (by kernel_rfl) (by kernel_rfl) (by kernel_rfl) (fun _ _ _ h => h) (Or.inl ⟨by rfl, ?_⟩) (by assumption) ?_
 rotate_left
 · rintro w ⟨yS, rfl⟩; go_simp; first | done | with_reducible rfl | rw [if_pos (by omega)] | rw [if_neg (by omega)]
 try simp only [Act.put, putA, putZ, putS]
 refine wpAnyH_take (i := 15) (oi := ⟨some 17, _, _, _, _, _⟩) (v := ?_) rfl (by kernel_rfl) (by kernel_rfl) (by kernel_rfl) (fun _ _ _ h => h) (Or.inl ⟨by rfl, ?_⟩) (by assumption) ?_
 rotate_left
 · rintro w ⟨yS, rfl⟩; go_simp; first | done | with_reducible rfl | rw [if_pos (by omega)] | rw [if_neg (by omega)]
 try simp only [Act.put, putA, putZ, putS]
 refine wpAnyH_take (i := 16) (oi := ⟨some 18, _, _, _, _, _⟩) (v := ?_) rfl (by kernel_rfl) (by kernel_rfl) (by kernel_rfl) (fun _ _ _ h => h) (Or.inl ⟨by rfl, ?_⟩) (by assumption) ?_
 rotate_left
 · rintro w ⟨yS, rfl⟩; go_simp; first | done | with_reducible rfl | rw [if_pos (by omega)] | rw [if_neg (by omega)]
 try simp only [Act.put, putA, putZ, putS]
 refine wpAnyH_ready (rs := [17]) (by kernel_rfl) (by simp) ?_
 refine AllReadyH.cons (o := ⟨some 19, _, _, _, _, _⟩) rfl (fun K hK => ?_) ?_
 · go_simp
   by_cases q1 : 40 ≤ ne
   · have HR := HRm ne 40
     rw [if_pos q1] at HR
     refine (HR _ isext).out.bad ?_
     intro y
     exact bodyPost_panic rfl (rd_bad (by rw [Hres.out, if_pos q1]) (hxb.trans isext))
   have HR := HRm ne 40
   rw [if_neg q1] at HR
   refine (HR _ isext).out.good ?_
   intro y1
   clear HR HRm
   refine hK.out _ _ ?_ (fun hHeld => ?_)
   · exact fin isext
   clear hK K
   try simp only [Act.put, putA, putZ, putS]
   refine wpAnyH_done (by kernel_rfl) ?_ _
   go_wp2_with fail
   go_at_call 84
   cases hc : Src.countP ws all.size line 3 7 with
   | some f =>
     rw [hc] at HMn
     refine (HMn _ isext).out.bad ?_
     intro y
     go_wp2
     exact bodyPost_panic rfl (rd_bad (by rw [Hres.out, if_neg q1, hc]) (hxb.trans isext))
   | none =>
     rw [hc] at HMn
     refine (HMn _ isext).out.good ?_
     intro y2
     clear HMn
     have hcb := Src.count_bd hc
     go_wp2_with fail
     go_at_call 85
     have HO := Lib.hid (HG q1 hc).out
     refine rdEnd_use (HEr _ isext (by omega) (by omega) (by rw [hle, hne1]; omega)).out (fun F w' hF hx => ?_) (fun S' w' hF hR => ?_)
     · go_wp2
       exact bodyPost_panic rfl (rd_bad (by rw [HO.out, hF]) hx)
     · go_wp2
       go_end0
       exact rd_good (by rw [HO.out, hF]) hR
 exact AllReadyH.nil
set_option maxRecDepth 100000 in
set_option maxHeartbeats 16000000 in
theorem pzone_any (wb : Frm) (w : World) (b : Nat) (S : Source) (line : Int) (all : ByteArray) (ws : List Src.Wd) (hgb : GoodW wb.w) (h : Rd wb w b S line all ws) (hs : ∀ x ∈ ws, x.1.size ≤ 1000) (hw0 : 0 < ws.length) (hw16 : ws.length ≤ 100) (hall : all.size ≤ 1048576) (hop : Src.openB S = false) :
 Calls Tryz.prog 50 #[.pointer (some ⟨b, 0, none⟩)] w (RdEnd wb b line all ws (Src.zoneP S ws all.size line)) := by
 obtain ⟨i0, hi0, hz0, hz1, hz2⟩ := info_partsS Tryz.infoZoneS
 have hg := hgb.ext h.ext.ext
 obtain ⟨hxb, hge, vr, vz, vl, lv, zp, Bw, hblk, htree, hwords⟩ := h
 have L := rdl_of hblk hwords
 have hlw : ∀ i, (Src.tx ws i).size ≤ 1048576 := fun i => Nat.le_trans (tx_size hs i) (by omega)
 have HRm := fun hv most w' (hx : Ext w w') => Lib.hid (proom_any b line all ws hw0 hv most w' (L.ext hx))
 have HMn := fun w' (hx : Ext w w') => Lib.hid (pmany_any b line all ws 5 9 (by omega) (by omega) (by omega) w' (L.ext hx))
 have HNd := fun i hi ok w' (hx : Ext w w') => Lib.hid (pneed_any b line all ws i hi ok w' (L.ext hx))
 have HP1 : ∀ w', Ext w w' → Hid (Rets Tryz.prog 14 #[.string (Src.tx ws 1)] w' (.bool (Src.placeB (Src.tl ws 1)))) := fun w' hx => Lib.hid (place_any (Src.tx ws 1) (by have := hlw 1; omega) w' (hg.max.ext hx))
 have hres : Src.zoneP S ws all.size line = if 50 ≤ S.zones.length then .inl ⟨12, line, Src.pt ws 0⟩
  else match Src.countP ws all.size line 5 9 with
   | some f => .inl f
   | none => if Src.placeB (Src.tl ws 1) = false then .inl ⟨6, line, Src.pt ws 1⟩
     else match Src.eraP ws 2 line with
      | .inl f => .inl f
      | .inr x => .inr ⟨S.rules, S.zones ++ [⟨Src.tx ws 1, [x]⟩], S.links⟩ := rfl
 have HG := fun h1 h2 h3 => Lib.hid (@zone_good S ws all.size line h1 h2 h3)
 generalize Src.zoneP S ws all.size line = OUT at *
 obtain ⟨h1, h2, h3, lv', h4, h5⟩ := L
 haveI : InW b w := ⟨h1⟩
 have e5 : lv' = lv := by have := (hblk.cell 5).symm.trans h4; simpa using this.symm
 subst e5
 have c1 : w.cell? ⟨b, 1, none⟩ = some vz := (hblk.cell 1).trans rfl
 obtain ⟨nz, hnz⟩ : ∃ n, S.zones.length = n := ⟨_, rfl⟩
 have hzo := htree.zones
 rw [hnz] at hzo hres HG
 obtain ⟨az, cz, rfl⟩ := owns_shape hzo
 have b1 := len_of (owns_reads hzo (by decide))
 have Hres := Lib.hid hres
 clear hres
 go_enter Tryz.func50, Tryz.ntmps50
 go_wp2_with fail
 go_at_call 83
 by_cases q1 : 50 ≤ nz
 · have HR := HRm nz 50
   rw [if_pos q1] at HR
   refine (HR _ isext).out.bad ?_
   intro y
   go_wp2
   exact bodyPost_panic rfl (rd_bad (by rw [Hres.out, if_pos q1]) (hxb.trans isext))
 have HR := HRm nz 50
 rw [if_neg q1] at HR
 refine (HR _ isext).out.good ?_
 intro y1
 clear HR HRm
 go_wp2_with fail
 go_at_call 84
 cases hc : Src.countP ws all.size line 5 9 with
 | some f =>
   rw [hc] at HMn
   refine (HMn _ isext).out.bad ?_
   intro y
   go_wp2
   exact bodyPost_panic rfl (rd_bad (by rw [Hres.out, if_neg q1, hc]) (hxb.trans isext))
 | none =>
   rw [hc] at HMn
   refine (HMn _ isext).out.good ?_
   intro y2
   clear HMn
   obtain ⟨hc1, hc2⟩ := Src.count_bd hc
   obtain ⟨n, hn⟩ : ∃ n, ws.length = n := ⟨_, rfl⟩
   rw [hn] at h5 hc1 hc2
   rcases h5 with ⟨_, _, e9, h9, _⟩ | ⟨bl, o, c9, e9, k1, k2, m1', hcw⟩
   · exact absurd h9 (by omega)
   subst e9
   haveI : InW bl w := ⟨m1'⟩
   obtain ⟨d1, -⟩ := wd_at hcw 1 (by omega)
   clear hcw
   simp only [Nat.reduceMul] at d1
   have gi : (1 : Int) < n := by omega
   go_wp2_with fail
   refine wp_region_held_drew (S := fun _ => True) (by kernel_rfl) trivial (fun hHeld => ?_)
   refine wpAnyH_take (i := 0) (oi := ⟨some 12, _, _, _, _, _⟩) (v := ?_) rfl (by kernel_rfl) (by kernel_rfl) (by kernel_rfl) (fun _ _ _ h => h) (Or.inl ⟨by rfl, ?_⟩) (by assumption) ?_
   rotate_left
   · intro w _; go_simp; first | done | (with_reducible rfl)
   try simp only [Act.put, putA, putZ, putS]
   refine wpAnyH_take (i := 1) (oi := ⟨some 13, _, _, _, _, _⟩) (v := ?_) rfl (by kernel_rfl) (by kernel_rfl) (by kernel_rfl) (fun _ _ _ h => h) (Or.inl ⟨by rfl, ?_⟩) (by assumption) ?_
   rotate_left
   · intro w _; go_simp; first | done | (with_reducible rfl)
   try simp only [Act.put, putA, putZ, putS]
   refine wpAnyH_take (i := 2) (oi := ⟨some 14, _, _, _, _, _⟩) (v := ?_) rfl (by kernel_rfl) (by kernel_rfl) (by kernel_rfl) (fun _ _ _ h => h) (Or.inl ⟨by rfl, ?_⟩) (by assumption) ?_
   rotate_left
   · intro w _; go_simp; first | done | (with_reducible rfl)
   try simp only [Act.put, putA, putZ, putS]
   refine wpAnyH_take (i := 3) (oi := ⟨some 15, _, _, _, _, _⟩) (v := ?_) rfl (by kernel_rfl) (by kernel_rfl) (by kernel_rfl) (fun _ _ _ h => h) (Or.inl ⟨by rfl, ?_⟩) (by assumption) ?_
   rotate_left
   · intro w _; go_simp; first | done | (with_reducible rfl)
   try simp only [Act.put, putA, putZ, putS]
   refine wpAnyH_take (i := 4) (oi := ⟨some 16, _, _, _, _, _⟩) (v := ?_) rfl (by kernel_rfl) (by kernel_rfl) (by kernel_rfl) (fun _ _ _ h => h) (Or.inl ⟨by rfl, ?_⟩) (by assumption) ?_
   rotate_left
   · intro w _; go_simp; first | done | (with_reducible rfl)
   try simp only [Act.put, putA, putZ, putS]
   refine wpAnyH_take (i := 6) (oi := ⟨some 18, _, _, _, _, _⟩) (v := ?_) rfl (by kernel_rfl) (by kernel_rfl) (by kernel_rfl) (fun _ _ _ h => h) (Or.inl ⟨by rfl, ?_⟩) (by assumption) ?_
   rotate_left
   · intro w _; go_simp; first | done | (with_reducible rfl)
   try simp only [Act.put, putA, putZ, putS]
   refine wpAnyH_take (i := 7) (oi := ⟨some 19, _, _, _, _, _⟩) (v := ?_) rfl (by kernel_rfl) (by kernel_rfl) (by kernel_rfl) (fun _ _ _ h => h) (Or.inl ⟨by rfl, ?_⟩) (by assumption) ?_
   rotate_left
   · intro w _; go_simp; first | done | (with_reducible rfl)
   try simp only [Act.put, putA, putZ, putS]
   refine wpAnyH_take (i := 8) (oi := ⟨some 20, _, _, _, _, _⟩) (v := ?_) rfl (by kernel_rfl) (by kernel_rfl) (by kernel_rfl) (fun _ _ _ h => h) (Or.inl ⟨by rfl, ?_⟩) (by assumption) ?_
   rotate_left
   · intro w _; go_simp; first | done | (with_reducible rfl)
   try simp only [Act.put, putA, putZ, putS]
   refine wpAnyH_take (i := 9) (oi := ⟨some 21, _, _, _, _, _⟩) (v := ?_) rfl (by kernel_rfl) (by kernel_rfl) (by kernel_rfl) (fun _ _ _ h => h) (Or.inl ⟨by rfl, ?_⟩) (by assumption) ?_
   rotate_left
   · intro w _; go_simp; first | done | (with_reducible rfl)
   try simp only [Act.put, putA, putZ, putS]
   refine wpAnyH_ready (rs := [5, 10]) (by kernel_rfl) (by simp) ?_
   refine AllReadyH.cons (o := ⟨some 17, _, _, _, _, _⟩) rfl (fun K hK => ?_) ?_
   · go_simp
     refine hK.out _ _ ?_ (fun hHeld => ?_)
     · trivial
     clear hK K
     try simp only [Act.put, putA, putZ, putS]
     refine wpAnyH_ready (rs := [10]) (by kernel_rfl) (by simp) ?_
     refine AllReadyH.cons (o := ⟨some 22, _, _, _, _, _⟩) rfl (fun K hK => ?_) ?_
     · go_simp
       refine hK.out _ _ ?_ (fun hHeld => ?_)
       · trivial
       clear hK K
       try simp only [Act.put, putA, putZ, putS]
       refine wpAnyH_take (i := 11) (oi := ⟨some 23, _, _, _, _, _⟩) (v := ?_) rfl (by kernel_rfl) (by kernel_rfl) (by kernel_rfl) (fun _ _ _ h => h) (Or.inl ⟨by rfl, ?_⟩) (by assumption) ?_
       rotate_left
       · intro w _; go_simp; first | done | (with_reducible rfl)
       try simp only [Act.put, putA, putZ, putS]
       refine wpAnyH_take (i := 12) (oi := ⟨some 24, _, _, _, _, _⟩) (v := ?_) rfl (by kernel_rfl) (by kernel_rfl) (by kernel_rfl) (fun _ _ _ h => h) (Or.inl ⟨by rfl, ?_⟩) (by assumption) ?_
       rotate_left
       · intro w _; go_simp; first | done | (with_reducible rfl)
       try simp only [Act.put, putA, putZ, putS]
       refine wpAnyH_ready (rs := [13]) (by kernel_rfl) (by simp) ?_
       refine AllReadyH.cons (o := ⟨some 25, _, _, _, _, _⟩) rfl (fun K hK => ?_) ?_
       · go_simp
         refine hK.out _ _ ?_ (fun hHeld => ?_)
         · trivial
         clear hK K
         try simp only [Act.put, putA, putZ, putS]
         refine wpAnyH_ready (rs := [14]) (by kernel_rfl) (by simp) ?_
         refine AllReadyH.cons (o := ⟨some 26, _, _, _, _, _⟩) rfl (fun K hK => ?_) ?_
         · go_simp
           refine Rets.use (HP1 _ isext).out ?_; intro y3
           refine hK.out _ _ ?_ (fun hHeld => ?_)
           · trivial
           clear hK K
           try simp only [Act.put, putA, putZ, putS]
           refine wpAnyH_ready (rs := [15]) (by kernel_rfl) (by simp) ?_
           refine AllReadyH.cons (o := ⟨some 27, _, _, _, _, _⟩) rfl (fun K hK => ?_) ?_
           · go_simp
             cases hs1 : Src.placeB (Src.tl ws 1)
             · have HN := HNd 1 (by omega) false
               simp only [Bool.false_eq_true, if_false] at HN
               try rw [hs1]
               refine (HN _ isext).out.bad ?_
               intro y
               exact bodyPost_panic rfl (rd_bad (by rw [Hres.out, if_neg q1, hc]; simp [hs1]) (hxb.trans isext))
             have HN1 := HNd 1 (by omega) true
             simp only [if_true] at HN1
             try rw [hs1]
             refine (HN1 _ isext).out.good ?_
             intro y4
             clear HN1
             refine hK.out _ _ ?_ (fun hHeld => ?_)
             · trivial
             clear hK K
             try simp only [Act.put, putA, putZ, putS]
             refine wpAnyH_take (i := 16) (oi := ⟨some 28, _, _, _, _, _⟩) (v := ?_) rfl (by kernel_rfl) (by kernel_rfl) (by kernel_rfl) (fun _ _ _ h => h) (Or.inl ⟨by rfl, ?_⟩) (by assumption) ?_
             rotate_left
             · intro w _; go_simp; first | done | (with_reducible rfl)
             try simp only [Act.put, putA, putZ, putS]
             refine wpAnyH_ready (rs := [17]) (by kernel_rfl) (by simp) ?_
             refine AllReadyH.cons (o := ⟨some 29, _, _, _, _, _⟩) rfl (fun K hK => ?_) ?_
             · go_simp
               refine hK.out _ _ ?_ (fun hHeld => ?_)
               · trivial
               clear hK K
               try simp only [Act.put, putA, putZ, putS]
               refine wpAnyH_ready (rs := [18]) (by kernel_rfl) (by simp) ?_
               refine AllReadyH.cons (o := ⟨some 30, _, _, _, _, _⟩) rfl (fun K hK => ?_) ?_
               · refine wp_append_own _ _ _ 23 rfl (b + 1) 59 i0 (.agg #[.string ByteArray.empty, .slice none 0 0]) 2 40 Tryz.underlying23 hi0 hz0 hz1 hz2 rfl (by decide) (.slice az nz cz) nz (zoneRow zp) rfl (own_past hzo isext) _ 1 1 [.string (Src.tx ws 1), .slice none 0 0] rfl rfl (new_cells' _ _ _ _ (by simp)) (by simp [Value.oneCell']) (by unfold maxLen; omega) (by omega) (leB (a := w) (by omega)) (fun v' w1 hown1 hgrow1 _ => ?_); obtain ⟨av', cap', rfl⟩ := owns_shape hown1; have hF := Lib.hid (rd_zone (nm := Src.tx ws 1) hxb hge hop hblk htree hwords isext (by rw [hnz]; unfold zoneRow; rw [rowOf_snoc]; exact hown1) hgrow1); have hB1 := blk_grown (hblk.ext isext) (own_past hzo isext) hgrow1; have c0' : w1.cell? ⟨b, 1, none⟩ = some (.slice az nz cz) := (hB1.cell 1).trans rfl; have f0' : w1.frozen? ⟨b, 1, none⟩ = false := hB1.frozen 1; have i0' : InW b w1 := ⟨hB1.lt⟩; clear hB1
                 refine hK.out _ _ ?_ (fun hHeld => ?_)
                 · trivial
                 clear hK K
                 try simp only [Act.put, putA, putZ, putS]
                 refine wpAnyH_take (i := 19) (oi := ⟨some 31, _, _, _, _, _⟩) (v := ?_) rfl (by kernel_rfl) (by kernel_rfl) (by kernel_rfl) (fun _ _ _ h => h) (Or.inl ⟨by rfl, ?_⟩) (by assumption) ?_
                 rotate_left
                 · intro w _; go_simp; first | done | (with_reducible rfl)
                 try simp only [Act.put, putA, putZ, putS]
                 refine wpAnyH_take (i := 20) (oi := ⟨some 32, _, _, _, _, _⟩) (v := ?_) rfl (by kernel_rfl) (by kernel_rfl) (by kernel_rfl) (fun _ _ _ h => h) (Or.inl ⟨by rfl, ?_⟩) (by assumption) ?_
                 rotate_left
                 · intro w _; go_simp; first | done | (with_reducible rfl)
                 try simp only [Act.put, putA, putZ, putS]
                 refine wpAnyH_take (i := 21) (oi := ⟨some 33, _, _, _, _, _⟩) (v := ?_) rfl (by kernel_rfl) (by kernel_rfl) (by kernel_rfl) (fun _ _ _ h => h) (Or.inl ⟨by rfl, ?_⟩) (by assumption) ?_
                 rotate_left
                 · intro w _; go_simp; first | done | (with_reducible rfl)
                 try simp only [Act.put, putA, putZ, putS]
                 refine wpAnyH_ready (rs := [22]) (by kernel_rfl) (by simp) ?_
                 refine AllReadyH.cons (o := ⟨none, _, _, _, _, _⟩) rfl (fun K hK => ?_) ?_
                 · go_simp
                   refine hK.out _ _ ?_ (fun hHeld => ?_)
                   · trivial
                   clear hK K
                   try simp only [Act.put, putA, putZ, putS]
                   refine wpAnyH_done (by kernel_rfl) ?_ _
                   go_wp2_with fail
                   go_at_call 85
                   have HO := Lib.hid (HG q1 hc hs1).out
                   refine rdEnd_use (pera2_any wb _ b _ line all ws (hgb.ext hF.out.ext.ext) hF.out hs (by omega) (by omega) hall (by simp) (by unfold Src.lastE; simp) (by simp; omega)) (fun F w' hF' hx => ?_) (fun S' w' hF' hR => ?_)
                   · go_wp2
                     exact bodyPost_panic rfl (rd_bad (by rw [HO.out, hF']) hx)
                   · go_wp2
                     go_end0
                     exact rd_good (by rw [HO.out, hF']) hR
                 exact AllReadyH.nil
               exact AllReadyH.nil
             exact AllReadyH.nil
           exact AllReadyH.nil
         exact AllReadyH.nil
       exact AllReadyH.nil
     exact AllReadyH.nil
   refine AllReadyH.cons (o := ⟨some 22, _, _, _, _, _⟩) rfl (fun K hK => ?_) ?_
   · go_simp
     refine hK.out _ _ ?_ (fun hHeld => ?_)
     · trivial
     clear hK K
     try simp only [Act.put, putA, putZ, putS]
     refine wpAnyH_take (i := 11) (oi := ⟨some 23, _, _, _, _, _⟩) (v := ?_) rfl (by kernel_rfl) (by kernel_rfl) (by kernel_rfl) (fun _ _ _ h => h) (Or.inl ⟨by rfl, ?_⟩) (by assumption) ?_
     rotate_left
     · intro w _; go_simp; first | done | (with_reducible rfl)
     try simp only [Act.put, putA, putZ, putS]
     refine wpAnyH_take (i := 12) (oi := ⟨some 24, _, _, _, _, _⟩) (v := ?_) rfl (by kernel_rfl) (by kernel_rfl) (by kernel_rfl) (fun _ _ _ h => h) (Or.inl ⟨by rfl, ?_⟩) (by assumption) ?_
     rotate_left
     · intro w _; go_simp; first | done | (with_reducible rfl)
     try simp only [Act.put, putA, putZ, putS]
     refine wpAnyH_ready (rs := [5, 13]) (by kernel_rfl) (by simp) ?_
     refine AllReadyH.cons (o := ⟨some 17, _, _, _, _, _⟩) rfl (fun K hK => ?_) ?_
     · go_simp
       refine hK.out _ _ ?_ (fun hHeld => ?_)
       · trivial
       clear hK K
       try simp only [Act.put, putA, putZ, putS]
       refine wpAnyH_ready (rs := [13]) (by kernel_rfl) (by simp) ?_
       refine AllReadyH.cons (o := ⟨some 25, _, _, _, _, _⟩) rfl (fun K hK => ?_) ?_
       · go_simp
         refine hK.out _ _ ?_ (fun hHeld => ?_)
         · trivial
         clear hK K
         try simp only [Act.put, putA, putZ, putS]
         refine wpAnyH_ready (rs := [14]) (by kernel_rfl) (by simp) ?_
         refine AllReadyH.cons (o := ⟨some 26, _, _, _, _, _⟩) rfl (fun K hK => ?_) ?_
         · go_simp
           refine Rets.use (HP1 _ isext).out ?_; intro y3
           refine hK.out _ _ ?_ (fun hHeld => ?_)
           · trivial
           clear hK K
           try simp only [Act.put, putA, putZ, putS]
           refine wpAnyH_ready (rs := [15]) (by kernel_rfl) (by simp) ?_
           refine AllReadyH.cons (o := ⟨some 27, _, _, _, _, _⟩) rfl (fun K hK => ?_) ?_
           · go_simp
             cases hs1 : Src.placeB (Src.tl ws 1)
             · have HN := HNd 1 (by omega) false
               simp only [Bool.false_eq_true, if_false] at HN
               try rw [hs1]
               refine (HN _ isext).out.bad ?_
               intro y
               exact bodyPost_panic rfl (rd_bad (by rw [Hres.out, if_neg q1, hc]; simp [hs1]) (hxb.trans isext))
             have HN1 := HNd 1 (by omega) true
             simp only [if_true] at HN1
             try rw [hs1]
             refine (HN1 _ isext).out.good ?_
             intro y4
             clear HN1
             refine hK.out _ _ ?_ (fun hHeld => ?_)
             · trivial
             clear hK K
             try simp only [Act.put, putA, putZ, putS]
             refine wpAnyH_take (i := 16) (oi := ⟨some 28, _, _, _, _, _⟩) (v := ?_) rfl (by kernel_rfl) (by kernel_rfl) (by kernel_rfl) (fun _ _ _ h => h) (Or.inl ⟨by rfl, ?_⟩) (by assumption) ?_
             rotate_left
             · intro w _; go_simp; first | done | (with_reducible rfl)
             try simp only [Act.put, putA, putZ, putS]
             refine wpAnyH_ready (rs := [17]) (by kernel_rfl) (by simp) ?_
             refine AllReadyH.cons (o := ⟨some 29, _, _, _, _, _⟩) rfl (fun K hK => ?_) ?_
             · go_simp
               refine hK.out _ _ ?_ (fun hHeld => ?_)
               · trivial
               clear hK K
               try simp only [Act.put, putA, putZ, putS]
               refine wpAnyH_ready (rs := [18]) (by kernel_rfl) (by simp) ?_
               refine AllReadyH.cons (o := ⟨some 30, _, _, _, _, _⟩) rfl (fun K hK => ?_) ?_
               · refine wp_append_own _ _ _ 23 rfl (b + 1) 59 i0 (.agg #[.string ByteArray.empty, .slice none 0 0]) 2 40 Tryz.underlying23 hi0 hz0 hz1 hz2 rfl (by decide) (.slice az nz cz) nz (zoneRow zp) rfl (own_past hzo isext) _ 1 1 [.string (Src.tx ws 1), .slice none 0 0] rfl rfl (new_cells' _ _ _ _ (by simp)) (by simp [Value.oneCell']) (by unfold maxLen; omega) (by omega) (leB (a := w) (by omega)) (fun v' w1 hown1 hgrow1 _ => ?_); obtain ⟨av', cap', rfl⟩ := owns_shape hown1; have hF := Lib.hid (rd_zone (nm := Src.tx ws 1) hxb hge hop hblk htree hwords isext (by rw [hnz]; unfold zoneRow; rw [rowOf_snoc]; exact hown1) hgrow1); have hB1 := blk_grown (hblk.ext isext) (own_past hzo isext) hgrow1; have c0' : w1.cell? ⟨b, 1, none⟩ = some (.slice az nz cz) := (hB1.cell 1).trans rfl; have f0' : w1.frozen? ⟨b, 1, none⟩ = false := hB1.frozen 1; have i0' : InW b w1 := ⟨hB1.lt⟩; clear hB1
                 refine hK.out _ _ ?_ (fun hHeld => ?_)
                 · trivial
                 clear hK K
                 try simp only [Act.put, putA, putZ, putS]
                 refine wpAnyH_take (i := 19) (oi := ⟨some 31, _, _, _, _, _⟩) (v := ?_) rfl (by kernel_rfl) (by kernel_rfl) (by kernel_rfl) (fun _ _ _ h => h) (Or.inl ⟨by rfl, ?_⟩) (by assumption) ?_
                 rotate_left
                 · intro w _; go_simp; first | done | (with_reducible rfl)
                 try simp only [Act.put, putA, putZ, putS]
                 refine wpAnyH_take (i := 20) (oi := ⟨some 32, _, _, _, _, _⟩) (v := ?_) rfl (by kernel_rfl) (by kernel_rfl) (by kernel_rfl) (fun _ _ _ h => h) (Or.inl ⟨by rfl, ?_⟩) (by assumption) ?_
                 rotate_left
                 · intro w _; go_simp; first | done | (with_reducible rfl)
                 try simp only [Act.put, putA, putZ, putS]
                 refine wpAnyH_take (i := 21) (oi := ⟨some 33, _, _, _, _, _⟩) (v := ?_) rfl (by kernel_rfl) (by kernel_rfl) (by kernel_rfl) (fun _ _ _ h => h) (Or.inl ⟨by rfl, ?_⟩) (by assumption) ?_
                 rotate_left
                 · intro w _; go_simp; first | done | (with_reducible rfl)
                 try simp only [Act.put, putA, putZ, putS]
                 refine wpAnyH_ready (rs := [22]) (by kernel_rfl) (by simp) ?_
                 refine AllReadyH.cons (o := ⟨none, _, _, _, _, _⟩) rfl (fun K hK => ?_) ?_
                 · go_simp
                   refine hK.out _ _ ?_ (fun hHeld => ?_)
                   · trivial
                   clear hK K
                   try simp only [Act.put, putA, putZ, putS]
                   refine wpAnyH_done (by kernel_rfl) ?_ _
                   go_wp2_with fail
                   go_at_call 85
                   have HO := Lib.hid (HG q1 hc hs1).out
                   refine rdEnd_use (pera2_any wb _ b _ line all ws (hgb.ext hF.out.ext.ext) hF.out hs (by omega) (by omega) hall (by simp) (by unfold Src.lastE; simp) (by simp; omega)) (fun F w' hF' hx => ?_) (fun S' w' hF' hR => ?_)
                   · go_wp2
                     exact bodyPost_panic rfl (rd_bad (by rw [HO.out, hF']) hx)
                   · go_wp2
                     go_end0
                     exact rd_good (by rw [HO.out, hF']) hR
                 exact AllReadyH.nil
               exact AllReadyH.nil
             exact AllReadyH.nil
           exact AllReadyH.nil
         exact AllReadyH.nil
       exact AllReadyH.nil
     refine AllReadyH.cons (o := ⟨some 25, _, _, _, _, _⟩) rfl (fun K hK => ?_) ?_
     · go_simp
       refine hK.out _ _ ?_ (fun hHeld => ?_)
       · trivial
       clear hK K
       try simp only [Act.put, putA, putZ, putS]
       refine wpAnyH_ready (rs := [5, 14]) (by kernel_rfl) (by simp) ?_
       refine AllReadyH.cons (o := ⟨some 17, _, _, _, _, _⟩) rfl (fun K hK => ?_) ?_
       · go_simp
         refine hK.out _ _ ?_ (fun hHeld => ?_)
         · trivial
         clear hK K
         try simp only [Act.put, putA, putZ, putS]
         refine wpAnyH_ready (rs := [14]) (by kernel_rfl) (by simp) ?_
         refine AllReadyH.cons (o := ⟨some 26, _, _, _, _, _⟩) rfl (fun K hK => ?_) ?_
         · go_simp
           refine Rets.use (HP1 _ isext).out ?_; intro y3
           refine hK.out _ _ ?_ (fun hHeld => ?_)
           · trivial
           clear hK K
           try simp only [Act.put, putA, putZ, putS]
           refine wpAnyH_ready (rs := [15]) (by kernel_rfl) (by simp) ?_
           refine AllReadyH.cons (o := ⟨some 27, _, _, _, _, _⟩) rfl (fun K hK => ?_) ?_
           · go_simp
             cases hs1 : Src.placeB (Src.tl ws 1)
             · have HN := HNd 1 (by omega) false
               simp only [Bool.false_eq_true, if_false] at HN
               try rw [hs1]
               refine (HN _ isext).out.bad ?_
               intro y
               exact bodyPost_panic rfl (rd_bad (by rw [Hres.out, if_neg q1, hc]; simp [hs1]) (hxb.trans isext))
             have HN1 := HNd 1 (by omega) true
             simp only [if_true] at HN1
             try rw [hs1]
             refine (HN1 _ isext).out.good ?_
             intro y4
             clear HN1
             refine hK.out _ _ ?_ (fun hHeld => ?_)
             · trivial
             clear hK K
             try simp only [Act.put, putA, putZ, putS]
             refine wpAnyH_take (i := 16) (oi := ⟨some 28, _, _, _, _, _⟩) (v := ?_) rfl (by kernel_rfl) (by kernel_rfl) (by kernel_rfl) (fun _ _ _ h => h) (Or.inl ⟨by rfl, ?_⟩) (by assumption) ?_
             rotate_left
             · intro w _; go_simp; first | done | (with_reducible rfl)
             try simp only [Act.put, putA, putZ, putS]
             refine wpAnyH_ready (rs := [17]) (by kernel_rfl) (by simp) ?_
             refine AllReadyH.cons (o := ⟨some 29, _, _, _, _, _⟩) rfl (fun K hK => ?_) ?_
             · go_simp
               refine hK.out _ _ ?_ (fun hHeld => ?_)
               · trivial
               clear hK K
               try simp only [Act.put, putA, putZ, putS]
               refine wpAnyH_ready (rs := [18]) (by kernel_rfl) (by simp) ?_
               refine AllReadyH.cons (o := ⟨some 30, _, _, _, _, _⟩) rfl (fun K hK => ?_) ?_
               · refine wp_append_own _ _ _ 23 rfl (b + 1) 59 i0 (.agg #[.string ByteArray.empty, .slice none 0 0]) 2 40 Tryz.underlying23 hi0 hz0 hz1 hz2 rfl (by decide) (.slice az nz cz) nz (zoneRow zp) rfl (own_past hzo isext) _ 1 1 [.string (Src.tx ws 1), .slice none 0 0] rfl rfl (new_cells' _ _ _ _ (by simp)) (by simp [Value.oneCell']) (by unfold maxLen; omega) (by omega) (leB (a := w) (by omega)) (fun v' w1 hown1 hgrow1 _ => ?_); obtain ⟨av', cap', rfl⟩ := owns_shape hown1; have hF := Lib.hid (rd_zone (nm := Src.tx ws 1) hxb hge hop hblk htree hwords isext (by rw [hnz]; unfold zoneRow; rw [rowOf_snoc]; exact hown1) hgrow1); have hB1 := blk_grown (hblk.ext isext) (own_past hzo isext) hgrow1; have c0' : w1.cell? ⟨b, 1, none⟩ = some (.slice az nz cz) := (hB1.cell 1).trans rfl; have f0' : w1.frozen? ⟨b, 1, none⟩ = false := hB1.frozen 1; have i0' : InW b w1 := ⟨hB1.lt⟩; clear hB1
                 refine hK.out _ _ ?_ (fun hHeld => ?_)
                 · trivial
                 clear hK K
                 try simp only [Act.put, putA, putZ, putS]
                 refine wpAnyH_take (i := 19) (oi := ⟨some 31, _, _, _, _, _⟩) (v := ?_) rfl (by kernel_rfl) (by kernel_rfl) (by kernel_rfl) (fun _ _ _ h => h) (Or.inl ⟨by rfl, ?_⟩) (by assumption) ?_
                 rotate_left
                 · intro w _; go_simp; first | done | (with_reducible rfl)
                 try simp only [Act.put, putA, putZ, putS]
                 refine wpAnyH_take (i := 20) (oi := ⟨some 32, _, _, _, _, _⟩) (v := ?_) rfl (by kernel_rfl) (by kernel_rfl) (by kernel_rfl) (fun _ _ _ h => h) (Or.inl ⟨by rfl, ?_⟩) (by assumption) ?_
                 rotate_left
                 · intro w _; go_simp; first | done | (with_reducible rfl)
                 try simp only [Act.put, putA, putZ, putS]
                 refine wpAnyH_take (i := 21) (oi := ⟨some 33, _, _, _, _, _⟩) (v := ?_) rfl (by kernel_rfl) (by kernel_rfl) (by kernel_rfl) (fun _ _ _ h => h) (Or.inl ⟨by rfl, ?_⟩) (by assumption) ?_
                 rotate_left
                 · intro w _; go_simp; first | done | (with_reducible rfl)
                 try simp only [Act.put, putA, putZ, putS]
                 refine wpAnyH_ready (rs := [22]) (by kernel_rfl) (by simp) ?_
                 refine AllReadyH.cons (o := ⟨none, _, _, _, _, _⟩) rfl (fun K hK => ?_) ?_
                 · go_simp
                   refine hK.out _ _ ?_ (fun hHeld => ?_)
                   · trivial
                   clear hK K
                   try simp only [Act.put, putA, putZ, putS]
                   refine wpAnyH_done (by kernel_rfl) ?_ _
                   go_wp2_with fail
                   go_at_call 85
                   have HO := Lib.hid (HG q1 hc hs1).out
                   refine rdEnd_use (pera2_any wb _ b _ line all ws (hgb.ext hF.out.ext.ext) hF.out hs (by omega) (by omega) hall (by simp) (by unfold Src.lastE; simp) (by simp; omega)) (fun F w' hF' hx => ?_) (fun S' w' hF' hR => ?_)
                   · go_wp2
                     exact bodyPost_panic rfl (rd_bad (by rw [HO.out, hF']) hx)
                   · go_wp2
                     go_end0
                     exact rd_good (by rw [HO.out, hF']) hR
                 exact AllReadyH.nil
               exact AllReadyH.nil
             exact AllReadyH.nil
           exact AllReadyH.nil
         exact AllReadyH.nil
       refine AllReadyH.cons (o := ⟨some 26, _, _, _, _, _⟩) rfl (fun K hK => ?_) ?_
       · go_simp
         refine Rets.use (HP1 _ isext).out ?_; intro y3
         refine hK.out _ _ ?_ (fun hHeld => ?_)
         · trivial
         clear hK K
         try simp only [Act.put, putA, putZ, putS]
         refine wpAnyH_ready (rs := [5, 15]) (by kernel_rfl) (by simp) ?_
         refine AllReadyH.cons (o := ⟨some 17, _, _, _, _, _⟩) rfl (fun K hK => ?_) ?_
         · go_simp
           refine hK.out _ _ ?_ (fun hHeld => ?_)
           · trivial
           clear hK K
           try simp only [Act.put, putA, putZ, putS]
           refine wpAnyH_ready (rs := [15]) (by kernel_rfl) (by simp) ?_
           refine AllReadyH.cons (o := ⟨some 27, _, _, _, _, _⟩) rfl (fun K hK => ?_) ?_
           · go_simp
             cases hs1 : Src.placeB (Src.tl ws 1)
             · have HN := HNd 1 (by omega) false
               simp only [Bool.false_eq_true, if_false] at HN
               try rw [hs1]
               refine (HN _ isext).out.bad ?_
               intro y
               exact bodyPost_panic rfl (rd_bad (by rw [Hres.out, if_neg q1, hc]; simp [hs1]) (hxb.trans isext))
             have HN1 := HNd 1 (by omega) true
             simp only [if_true] at HN1
             try rw [hs1]
             refine (HN1 _ isext).out.good ?_
             intro y4
             clear HN1
             refine hK.out _ _ ?_ (fun hHeld => ?_)
             · trivial
             clear hK K
             try simp only [Act.put, putA, putZ, putS]
             refine wpAnyH_take (i := 16) (oi := ⟨some 28, _, _, _, _, _⟩) (v := ?_) rfl (by kernel_rfl) (by kernel_rfl) (by kernel_rfl) (fun _ _ _ h => h) (Or.inl ⟨by rfl, ?_⟩) (by assumption) ?_
             rotate_left
             · intro w _; go_simp; first | done | (with_reducible rfl)
             try simp only [Act.put, putA, putZ, putS]
             refine wpAnyH_ready (rs := [17]) (by kernel_rfl) (by simp) ?_
             refine AllReadyH.cons (o := ⟨some 29, _, _, _, _, _⟩) rfl (fun K hK => ?_) ?_
             · go_simp
               refine hK.out _ _ ?_ (fun hHeld => ?_)
               · trivial
               clear hK K
               try simp only [Act.put, putA, putZ, putS]
               refine wpAnyH_ready (rs := [18]) (by kernel_rfl) (by simp) ?_
               refine AllReadyH.cons (o := ⟨some 30, _, _, _, _, _⟩) rfl (fun K hK => ?_) ?_
               · refine wp_append_own _ _ _ 23 rfl (b + 1) 59 i0 (.agg #[.string ByteArray.empty, .slice none 0 0]) 2 40 Tryz.underlying23 hi0 hz0 hz1 hz2 rfl (by decide) (.slice az nz cz) nz (zoneRow zp) rfl (own_past hzo isext) _ 1 1 [.string (Src.tx ws 1), .slice none 0 0] rfl rfl (new_cells' _ _ _ _ (by simp)) (by simp [Value.oneCell']) (by unfold maxLen; omega) (by omega) (leB (a := w) (by omega)) (fun v' w1 hown1 hgrow1 _ => ?_); obtain ⟨av', cap', rfl⟩ := owns_shape hown1; have hF := Lib.hid (rd_zone (nm := Src.tx ws 1) hxb hge hop hblk htree hwords isext (by rw [hnz]; unfold zoneRow; rw [rowOf_snoc]; exact hown1) hgrow1); have hB1 := blk_grown (hblk.ext isext) (own_past hzo isext) hgrow1; have c0' : w1.cell? ⟨b, 1, none⟩ = some (.slice az nz cz) := (hB1.cell 1).trans rfl; have f0' : w1.frozen? ⟨b, 1, none⟩ = false := hB1.frozen 1; have i0' : InW b w1 := ⟨hB1.lt⟩; clear hB1
                 refine hK.out _ _ ?_ (fun hHeld => ?_)
                 · trivial
                 clear hK K
                 try simp only [Act.put, putA, putZ, putS]
                 refine wpAnyH_take (i := 19) (oi := ⟨some 31, _, _, _, _, _⟩) (v := ?_) rfl (by kernel_rfl) (by kernel_rfl) (by kernel_rfl) (fun _ _ _ h => h) (Or.inl ⟨by rfl, ?_⟩) (by assumption) ?_
                 rotate_left
                 · intro w _; go_simp; first | done | (with_reducible rfl)
                 try simp only [Act.put, putA, putZ, putS]
                 refine wpAnyH_take (i := 20) (oi := ⟨some 32, _, _, _, _, _⟩) (v := ?_) rfl (by kernel_rfl) (by kernel_rfl) (by kernel_rfl) (fun _ _ _ h => h) (Or.inl ⟨by rfl, ?_⟩) (by assumption) ?_
                 rotate_left
                 · intro w _; go_simp; first | done | (with_reducible rfl)
                 try simp only [Act.put, putA, putZ, putS]
                 refine wpAnyH_take (i := 21) (oi := ⟨some 33, _, _, _, _, _⟩) (v := ?_) rfl (by kernel_rfl) (by kernel_rfl) (by kernel_rfl) (fun _ _ _ h => h) (Or.inl ⟨by rfl, ?_⟩) (by assumption) ?_
                 rotate_left
                 · intro w _; go_simp; first | done | (with_reducible rfl)
                 try simp only [Act.put, putA, putZ, putS]
                 refine wpAnyH_ready (rs := [22]) (by kernel_rfl) (by simp) ?_
                 refine AllReadyH.cons (o := ⟨none, _, _, _, _, _⟩) rfl (fun K hK => ?_) ?_
                 · go_simp
                   refine hK.out _ _ ?_ (fun hHeld => ?_)
                   · trivial
                   clear hK K
                   try simp only [Act.put, putA, putZ, putS]
                   refine wpAnyH_done (by kernel_rfl) ?_ _
                   go_wp2_with fail
                   go_at_call 85
                   have HO := Lib.hid (HG q1 hc hs1).out
                   refine rdEnd_use (pera2_any wb _ b _ line all ws (hgb.ext hF.out.ext.ext) hF.out hs (by omega) (by omega) hall (by simp) (by unfold Src.lastE; simp) (by simp; omega)) (fun F w' hF' hx => ?_) (fun S' w' hF' hR => ?_)
                   · go_wp2
                     exact bodyPost_panic rfl (rd_bad (by rw [HO.out, hF']) hx)
                   · go_wp2
                     go_end0
                     exact rd_good (by rw [HO.out, hF']) hR
                 exact AllReadyH.nil
               exact AllReadyH.nil
             exact AllReadyH.nil
           exact AllReadyH.nil
         refine AllReadyH.cons (o := ⟨some 27, _, _, _, _, _⟩) rfl (fun K hK => ?_) ?_
         · go_simp
           cases hs1 : Src.placeB (Src.tl ws 1)
           · have HN := HNd 1 (by omega) false
             simp only [Bool.false_eq_true, if_false] at HN
             try rw [hs1]
             refine (HN _ isext).out.bad ?_
             intro y
             exact bodyPost_panic rfl (rd_bad (by rw [Hres.out, if_neg q1, hc]; simp [hs1]) (hxb.trans isext))
           have HN1 := HNd 1 (by omega) true
           simp only [if_true] at HN1
           try rw [hs1]
           refine (HN1 _ isext).out.good ?_
           intro y4
           clear HN1
           refine hK.out _ _ ?_ (fun hHeld => ?_)
           · trivial
           clear hK K
           try simp only [Act.put, putA, putZ, putS]
           refine wpAnyH_take (i := 16) (oi := ⟨some 28, _, _, _, _, _⟩) (v := ?_) rfl (by kernel_rfl) (by kernel_rfl) (by kernel_rfl) (fun _ _ _ h => h) (Or.inl ⟨by rfl, ?_⟩) (by assumption) ?_
           rotate_left
           · intro w _; go_simp; first | done | (with_reducible rfl)
           try simp only [Act.put, putA, putZ, putS]
           refine wpAnyH_ready (rs := [5, 17]) (by kernel_rfl) (by simp) ?_
           refine AllReadyH.cons (o := ⟨some 17, _, _, _, _, _⟩) rfl (fun K hK => ?_) ?_
           · go_simp
             refine hK.out _ _ ?_ (fun hHeld => ?_)
             · trivial
             clear hK K
             try simp only [Act.put, putA, putZ, putS]
             refine wpAnyH_ready (rs := [17]) (by kernel_rfl) (by simp) ?_
             refine AllReadyH.cons (o := ⟨some 29, _, _, _, _, _⟩) rfl (fun K hK => ?_) ?_
             · go_simp
               refine hK.out _ _ ?_ (fun hHeld => ?_)
               · trivial
               clear hK K
               try simp only [Act.put, putA, putZ, putS]
               refine wpAnyH_ready (rs := [18]) (by kernel_rfl) (by simp) ?_
               refine AllReadyH.cons (o := ⟨some 30, _, _, _, _, _⟩) rfl (fun K hK => ?_) ?_
               · refine wp_append_own _ _ _ 23 rfl (b + 1) 59 i0 (.agg #[.string ByteArray.empty, .slice none 0 0]) 2 40 Tryz.underlying23 hi0 hz0 hz1 hz2 rfl (by decide) (.slice az nz cz) nz (zoneRow zp) rfl (own_past hzo isext) _ 1 1 [.string (Src.tx ws 1), .slice none 0 0] rfl rfl (new_cells' _ _ _ _ (by simp)) (by simp [Value.oneCell']) (by unfold maxLen; omega) (by omega) (leB (a := w) (by omega)) (fun v' w1 hown1 hgrow1 _ => ?_); obtain ⟨av', cap', rfl⟩ := owns_shape hown1; have hF := Lib.hid (rd_zone (nm := Src.tx ws 1) hxb hge hop hblk htree hwords isext (by rw [hnz]; unfold zoneRow; rw [rowOf_snoc]; exact hown1) hgrow1); have hB1 := blk_grown (hblk.ext isext) (own_past hzo isext) hgrow1; have c0' : w1.cell? ⟨b, 1, none⟩ = some (.slice az nz cz) := (hB1.cell 1).trans rfl; have f0' : w1.frozen? ⟨b, 1, none⟩ = false := hB1.frozen 1; have i0' : InW b w1 := ⟨hB1.lt⟩; clear hB1
                 refine hK.out _ _ ?_ (fun hHeld => ?_)
                 · trivial
                 clear hK K
                 try simp only [Act.put, putA, putZ, putS]
                 refine wpAnyH_take (i := 19) (oi := ⟨some 31, _, _, _, _, _⟩) (v := ?_) rfl (by kernel_rfl) (by kernel_rfl) (by kernel_rfl) (fun _ _ _ h => h) (Or.inl ⟨by rfl, ?_⟩) (by assumption) ?_
                 rotate_left
                 · intro w _; go_simp; first | done | (with_reducible rfl)
                 try simp only [Act.put, putA, putZ, putS]
                 refine wpAnyH_take (i := 20) (oi := ⟨some 32, _, _, _, _, _⟩) (v := ?_) rfl (by kernel_rfl) (by kernel_rfl) (by kernel_rfl) (fun _ _ _ h => h) (Or.inl ⟨by rfl, ?_⟩) (by assumption) ?_
                 rotate_left
                 · intro w _; go_simp; first | done | (with_reducible rfl)
                 try simp only [Act.put, putA, putZ, putS]
                 refine wpAnyH_take (i := 21) (oi := ⟨some 33, _, _, _, _, _⟩) (v := ?_) rfl (by kernel_rfl) (by kernel_rfl) (by kernel_rfl) (fun _ _ _ h => h) (Or.inl ⟨by rfl, ?_⟩) (by assumption) ?_
                 rotate_left
                 · intro w _; go_simp; first | done | (with_reducible rfl)
                 try simp only [Act.put, putA, putZ, putS]
                 refine wpAnyH_ready (rs := [22]) (by kernel_rfl) (by simp) ?_
                 refine AllReadyH.cons (o := ⟨none, _, _, _, _, _⟩) rfl (fun K hK => ?_) ?_
                 · go_simp
                   refine hK.out _ _ ?_ (fun hHeld => ?_)
                   · trivial
                   clear hK K
                   try simp only [Act.put, putA, putZ, putS]
                   refine wpAnyH_done (by kernel_rfl) ?_ _
                   go_wp2_with fail
                   go_at_call 85
                   have HO := Lib.hid (HG q1 hc hs1).out
                   refine rdEnd_use (pera2_any wb _ b _ line all ws (hgb.ext hF.out.ext.ext) hF.out hs (by omega) (by omega) hall (by simp) (by unfold Src.lastE; simp) (by simp; omega)) (fun F w' hF' hx => ?_) (fun S' w' hF' hR => ?_)
                   · go_wp2
                     exact bodyPost_panic rfl (rd_bad (by rw [HO.out, hF']) hx)
                   · go_wp2
                     go_end0
                     exact rd_good (by rw [HO.out, hF']) hR
                 exact AllReadyH.nil
               exact AllReadyH.nil
             exact AllReadyH.nil
           refine AllReadyH.cons (o := ⟨some 29, _, _, _, _, _⟩) rfl (fun K hK => ?_) ?_
           · go_simp
             refine hK.out _ _ ?_ (fun hHeld => ?_)
             · trivial
             clear hK K
             try simp only [Act.put, putA, putZ, putS]
             refine wpAnyH_ready (rs := [5]) (by kernel_rfl) (by simp) ?_
             refine AllReadyH.cons (o := ⟨some 17, _, _, _, _, _⟩) rfl (fun K hK => ?_) ?_
             · go_simp
               refine hK.out _ _ ?_ (fun hHeld => ?_)
               · trivial
               clear hK K
               try simp only [Act.put, putA, putZ, putS]
               refine wpAnyH_ready (rs := [18]) (by kernel_rfl) (by simp) ?_
               refine AllReadyH.cons (o := ⟨some 30, _, _, _, _, _⟩) rfl (fun K hK => ?_) ?_
               · refine wp_append_own _ _ _ 23 rfl (b + 1) 59 i0 (.agg #[.string ByteArray.empty, .slice none 0 0]) 2 40 Tryz.underlying23 hi0 hz0 hz1 hz2 rfl (by decide) (.slice az nz cz) nz (zoneRow zp) rfl (own_past hzo isext) _ 1 1 [.string (Src.tx ws 1), .slice none 0 0] rfl rfl (new_cells' _ _ _ _ (by simp)) (by simp [Value.oneCell']) (by unfold maxLen; omega) (by omega) (leB (a := w) (by omega)) (fun v' w1 hown1 hgrow1 _ => ?_); obtain ⟨av', cap', rfl⟩ := owns_shape hown1; have hF := Lib.hid (rd_zone (nm := Src.tx ws 1) hxb hge hop hblk htree hwords isext (by rw [hnz]; unfold zoneRow; rw [rowOf_snoc]; exact hown1) hgrow1); have hB1 := blk_grown (hblk.ext isext) (own_past hzo isext) hgrow1; have c0' : w1.cell? ⟨b, 1, none⟩ = some (.slice az nz cz) := (hB1.cell 1).trans rfl; have f0' : w1.frozen? ⟨b, 1, none⟩ = false := hB1.frozen 1; have i0' : InW b w1 := ⟨hB1.lt⟩; clear hB1
                 refine hK.out _ _ ?_ (fun hHeld => ?_)
                 · trivial
                 clear hK K
                 try simp only [Act.put, putA, putZ, putS]
                 refine wpAnyH_take (i := 19) (oi := ⟨some 31, _, _, _, _, _⟩) (v := ?_) rfl (by kernel_rfl) (by kernel_rfl) (by kernel_rfl) (fun _ _ _ h => h) (Or.inl ⟨by rfl, ?_⟩) (by assumption) ?_
                 rotate_left
                 · intro w _; go_simp; first | done | (with_reducible rfl)
                 try simp only [Act.put, putA, putZ, putS]
                 refine wpAnyH_take (i := 20) (oi := ⟨some 32, _, _, _, _, _⟩) (v := ?_) rfl (by kernel_rfl) (by kernel_rfl) (by kernel_rfl) (fun _ _ _ h => h) (Or.inl ⟨by rfl, ?_⟩) (by assumption) ?_
                 rotate_left
                 · intro w _; go_simp; first | done | (with_reducible rfl)
                 try simp only [Act.put, putA, putZ, putS]
                 refine wpAnyH_take (i := 21) (oi := ⟨some 33, _, _, _, _, _⟩) (v := ?_) rfl (by kernel_rfl) (by kernel_rfl) (by kernel_rfl) (fun _ _ _ h => h) (Or.inl ⟨by rfl, ?_⟩) (by assumption) ?_
                 rotate_left
                 · intro w _; go_simp; first | done | (with_reducible rfl)
                 try simp only [Act.put, putA, putZ, putS]
                 refine wpAnyH_ready (rs := [22]) (by kernel_rfl) (by simp) ?_
                 refine AllReadyH.cons (o := ⟨none, _, _, _, _, _⟩) rfl (fun K hK => ?_) ?_
                 · go_simp
                   refine hK.out _ _ ?_ (fun hHeld => ?_)
                   · trivial
                   clear hK K
                   try simp only [Act.put, putA, putZ, putS]
                   refine wpAnyH_done (by kernel_rfl) ?_ _
                   go_wp2_with fail
                   go_at_call 85
                   have HO := Lib.hid (HG q1 hc hs1).out
                   refine rdEnd_use (pera2_any wb _ b _ line all ws (hgb.ext hF.out.ext.ext) hF.out hs (by omega) (by omega) hall (by simp) (by unfold Src.lastE; simp) (by simp; omega)) (fun F w' hF' hx => ?_) (fun S' w' hF' hR => ?_)
                   · go_wp2
                     exact bodyPost_panic rfl (rd_bad (by rw [HO.out, hF']) hx)
                   · go_wp2
                     go_end0
                     exact rd_good (by rw [HO.out, hF']) hR
                 exact AllReadyH.nil
               exact AllReadyH.nil
             exact AllReadyH.nil
           exact AllReadyH.nil
         exact AllReadyH.nil
       exact AllReadyH.nil
     exact AllReadyH.nil
   exact AllReadyH.nil
end Go.Proofs.YtdhbgelijjlifaaGreatDoor
