/- Walks of sources: the reader's era. -/
import Derived.Test.YtdhbgelijjlifaaGreatDoorSrcRdE
set_option linter.unusedVariables false
set_option linter.unusedSimpArgs false
namespace Go.Proofs.YtdhbgelijjlifaaGreatDoor
open Go.RowKit Go.Shelf
theorem Tryz.infoEraS : (Tryz.prog.info? 56).map (fun i => (i.zero, i.size, i.bytes)) = some (some (.agg #[.int .i64 0, .int .i64 0, .int .i64 0, .string ByteArray.empty, .string ByteArray.empty, .bool false, .int .i64 0, .int .i64 0, .int .i64 0, .int .i64 0, .int .i64 0, .int .i64 0, .int .i64 0]), 13, 120) := by kernel_rfl
theorem wp_with_ext {P : Program} {c : Code} {Q : Exit → Act → World → Prop} {a : Act} {A cur : World} (hx : Ext A cur) (k : ExtC A cur → c.wp P Q a cur) : c.wp P Q a cur := k ⟨hx⟩
theorem ext_flag {wb : Frm} {w : World} {b i : Nat} {v : Value} {C : Array Value} (h : Kept wb w) (hge : wb.w.heap.size ≤ b) (hb : Blk w b C 49) : Kept wb (w.setCell ⟨b, i, none⟩ v) := h.store hb hge i v
theorem owns_block {w : World} {base : Nat} {e : TypeId} {size n : Nat} {v : Value} {xs : List Value} (h : w.ownsRow base e size v n xs) (hn : n ≠ 0) : ∃ g c, v = .slice (some ⟨g, 0, none⟩) n c := by
 rcases h.2 with ⟨_, h2⟩ | ⟨g, cap, cur, h1, _⟩
 · exact absurd h2 hn
 · exact ⟨g, cap, h1⟩
theorem tree_cell_of {w : World} {base gz n k : Nat} {vz V : Value} {zi : List (Zone × Value)} {z : Zone} (h : w.ownsRow base 59 2 vz n (zoneRow (zi ++ [(z, V)]))) (hgz : vz.ownBlock = some gz) (hk : zi.length = k) : w.cell? ⟨gz, k * 2 + 1, none⟩ = some V ∧ w.frozen? ⟨gz, k * 2 + 1, none⟩ = false := by
 subst hk
 have hc := @World.ownsRow.cells _ _ _ _ _ _ _ h gz hgz (zi.length * 2 + 1) V (by
  unfold zoneRow
  rw [rowOf_snoc, List.getElem?_append_right (by rw [rowOf_len (c := 2) (fun _ => rfl)]; omega), rowOf_len (c := 2) (fun _ => rfl), show zi.length * 2 + 1 - zi.length * 2 = 1 by omega]; rfl)
 have hadd : (⟨gz, 0, none⟩ : Addr).add (zi.length * 2 + 1) = ⟨gz, zi.length * 2 + 1, none⟩ := by unfold Addr.add; split <;> simp_all
 rw [hadd] at hc
 refine ⟨hc, ?_⟩
 rcases h.2 with ⟨h1, _⟩ | ⟨g, cap, cur, h1, _, h3, _⟩
 · rw [h1] at hgz; simp [Value.ownBlock] at hgz
 · rw [h1] at hgz
   simp [Value.ownBlock] at hgz
   subst hgz
   unfold World.frozen?
   rw [h3]; simp
set_option maxRecDepth 100000 in
set_option maxHeartbeats 16000000 in
theorem pera0_dash (wb : Frm) (w : World) (b : Nat) (S : Source) (line : Int) (all : ByteArray) (ws : List Src.Wd) (hg : GoodW w) (h : Rd wb w b S line all ws) (hs : ∀ x ∈ ws, x.1.size ≤ 1000) (hlo : 3 ≤ ws.length) (hhi : ws.length ≤ 7) (hall : all.size ≤ 1048576) (hne : S.zones ≠ []) (hee : (Src.lastE S).length ≤ 100) (hzz : S.zones.length ≤ 1000) (t1 : (Src.tx ws 1 == ⟨#[45]⟩) = true) (t2 : ((Src.tx ws 1).toList == [45]) = true) (hk : Src.tl ws 1 = [45]) :
 Calls Tryz.prog 85 #[.pointer (some ⟨b, 0, none⟩), .int .i64 0] w (RdEnd wb b line all ws (eraO S ws 0 line)) := by
 obtain ⟨i0, hi0, hz0, hz1, hz2⟩ := info_partsS Tryz.infoEraS
 obtain ⟨hxb, hge, vr, vz, vl, lv, zp, Bw, hblk, htree, hwords⟩ := h
 have L := rdl_of hblk hwords
 have hlw : ∀ i, (Src.tx ws i).size ≤ 1048576 := fun i => Nat.le_trans (tx_size hs i) (by omega)
 have HNd := fun i hi ok w' (hx : Ext w w') => Lib.hid (pneed_any b line all ws i hi ok w' (L.ext hx))
 have HYr := fun i hi w' (hx : Ext w w') => Lib.hid (pyear_any b line all ws i hi (hlw i) w' (hg.ext hx) (L.ext hx))
 have HSp := fun i hi w' (hx : Ext w w') => Lib.hid (pspot_any b line all ws i hi (by omega) (by omega) hs w' (hg.ext hx) (L.ext hx))
 have HOf := fun i hi most m1 m2 w' (hx : Ext w w') => Lib.hid (poffset_any b line all ws i hi (hlw i) most m1 m2 w' (L.ext hx))
 have HOp : ∀ w, Hid (Rets Tryz.prog 29 #[.string (Src.tx ws 1)] w (.bool (Src.opensB (Src.tl ws 1)))) := fun w => Lib.hid (opens_any (Src.tx ws 1) (by have := hlw 1; unfold maxLen; omega) w)
 have HSt : ∀ w, Hid (Rets Tryz.prog 12 #[.string (Src.tx ws 1)] w (.bool (Src.setB (Src.tl ws 1)))) := fun w => Lib.hid (sset_any (Src.tx ws 1) (by have := hlw 1; unfold maxLen; omega) w)
 have HFm : ∀ w', Ext w w' → Hid (Rets Tryz.prog 72 #[.string (Src.tx ws 2)] w' (.bool (Src.fmtB (Src.tl ws 2)))) := fun w' hx => Lib.hid (format_any (Src.tx ws 2) (by have := hlw 2; unfold maxLen; omega) w' (hg.max.ext hx))
 have hres : eraO S ws 0 line = match Src.eraP ws 0 line with | .inl f => .inl f | .inr x => .inr ⟨S.rules, Src.addEra S.zones x, S.links⟩ := rfl
 generalize eraO S ws 0 line = OUT at hres ⊢
 have Hres := Lib.hid hres
 clear hres
 obtain ⟨zi, z, V, rfl⟩ := tree_split htree hne
 obtain ⟨B, hBb, hBs, hlow, hV⟩ := htree.last2 (by have := hblk.lt; omega)
 obtain ⟨h1, h2, h3, lv', h4, h5⟩ := L
 haveI : InW b w := ⟨h1⟩
 have e5 : lv' = lv := by have := (hblk.cell 5).symm.trans h4; simpa using this.symm
 subst e5
 obtain ⟨n, hn⟩ : ∃ n, ws.length = n := ⟨_, rfl⟩
 rw [hn] at h5
 rcases h5 with ⟨_, _, e9, h9, _⟩ | ⟨bl, o, c9, e9, k1, k2, m1', hcw⟩
 · exact absurd h9 (by omega)
 subst e9
 haveI : InW bl w := ⟨m1'⟩
 obtain ⟨d1, -⟩ := wd_at hcw 1 (by omega)
 obtain ⟨d2, -⟩ := wd_at hcw 2 (by omega)
 clear hcw
 simp only [Nat.reduceMul] at d1 d2
 obtain ⟨nz, hnz, hnzi⟩ : ∃ nz, S.zones.length = nz + 1 ∧ zi.length = nz := ⟨zi.length, by rw [tree_names htree]; simp, rfl⟩
 obtain ⟨ne, hne1⟩ : ∃ ne, z.es.length = ne := ⟨_, rfl⟩
 have hne2 : ne ≤ 100 := by rw [← hne1]; unfold Src.lastE at hee; rw [tree_names htree] at hee; simpa using hee
 have hzo := htree.zones
 rw [hnz] at hzo
 obtain ⟨gz, cz, rfl⟩ := owns_block hzo (by omega)
 have hgz : (Value.slice (some ⟨gz, 0, none⟩) (nz + 1) cz).ownBlock = some gz := rfl
 have hcz := tree_cells htree hgz
 rw [hnzi] at hcz
 obtain ⟨czV, czF⟩ := hcz
 obtain ⟨gz1, gz2⟩ := hzo.lt gz hgz
 have gzb : ¬ gz = b := by omega
 have gzb' : ¬ b = gz := by omega
 haveI : InW gz w := ⟨gz2⟩
 have hVo := hV
 rw [hne1] at hVo
 obtain ⟨av, cv, rfl⟩ := owns_shape hVo
 have b1 := len_of (owns_reads hzo (by decide))
 have b2 := len_of (owns_reads hVo (by decide))
 have c1 : w.cell? ⟨b, 1, none⟩ = some (.slice (some ⟨gz, 0, none⟩) (nz + 1) cz) := (hblk.cell 1).trans rfl
 have c6 : w.cell? ⟨b, 6, none⟩ = some (.bool (Src.openB S)) := (hblk.cell 6).trans rfl
 have f6 : w.frozen? ⟨b, 6, none⟩ = false := hblk.frozen 6
 go_enter Tryz.func85, Tryz.ntmps85
 go_wp2_with fail
 go_at_call 89
 have HO := HOf 0 (by omega) 86400 (by omega) (by omega)
 by_cases o0 : (Src.offP (Src.tl ws 0) 86400).2 = 0
 rotate_left
 · rw [if_neg o0] at HO
   refine (HO _ isext).out.bad ?_
   intro y
   go_wp2
   exact bodyPost_panic rfl (rd_bad (by rw [Hres.out]; simp [Src.eraP, o0]) (hxb.trans isext))
 rw [if_pos o0] at HO
 refine (HO _ isext).out.good ?_
 intro y1
 clear HO
 go_wp2_with (go_at_call 72; refine Rets.use (HFm _ isext).out ?_; intro y5)
 go_at_call 86
 cases hf : Src.fmtB (Src.tl ws 2)
 · have HN := HNd 2 (by omega) false
   simp only [Bool.false_eq_true, if_false] at HN
   try rw [hf]
   refine (HN _ isext).out.bad ?_
   intro y
   go_wp2
   exact bodyPost_panic rfl (rd_bad (by rw [Hres.out]; simp [Src.eraP, Src.kindP, Src.untilP, hk, o0, hf]) (hxb.trans isext))
 have HN2 := HNd 2 (by omega) true
 simp only [if_true] at HN2
 try rw [hf]
 refine (HN2 _ isext).out.good ?_
 intro y6
 clear HN2
 by_cases hu : n ≤ 3
 · have hu' : ws.length ≤ 3 := by omega
   have gU : decide ((3 : Int) < n) = false := decide_eq_false (by omega)
   go_wp2_with fail
   refine wp_with_ext (A := w.setCell ⟨b, 6, none⟩ (.bool false)) (ext_store isext _) (fun hEx => ?_)
   obtain ⟨hblk6, htree6, hwords6⟩ := rd_flag (op' := false) hblk htree hwords
   have hV6 : (w.setCell ⟨b, 6, none⟩ (.bool false)).ownsRow B 56 13 (.slice av ne cv) z.es.length (eraRow z.es) := own_store hV (own_blk hblk (own_base hV (by omega)) (by decide))
   have hVo6 := hV6
   rw [hne1] at hVo6
   refine wp_region_past (by kernel_rfl) (by kernel_rfl) ?_
   repeat (go_big_quiet_step (fail))
   refine wpQuiet_nil ?_
   intro yR
   go_wp2_with fail
   refine wp_region_held_drew (S := fun _ => True) (by kernel_rfl) trivial (fun hHeld => ?_)
   refine wpAnyH_take (i := 0) (oi := ⟨some 94, _, _, _, _, _⟩) (v := ?_) rfl (by kernel_rfl) (by kernel_rfl) (by kernel_rfl) (fun _ _ _ h => h) (Or.inl ⟨by rfl, ?_⟩) (by assumption) ?_
   rotate_left
   · intro w _; go_simp; first | done | (with_reducible rfl)
   try simp only [Act.put, putA, putZ, putS]
   refine wpAnyH_take (i := 1) (oi := ⟨some 95, _, _, _, _, _⟩) (v := ?_) rfl (by kernel_rfl) (by kernel_rfl) (by kernel_rfl) (fun _ _ _ h => h) (Or.inl ⟨by rfl, ?_⟩) (by assumption) ?_
   rotate_left
   · intro w _; go_simp; first | done | (with_reducible rfl)
   try simp only [Act.put, putA, putZ, putS]
   refine wpAnyH_take (i := 2) (oi := ⟨some 96, _, _, _, _, _⟩) (v := ?_) rfl (by kernel_rfl) (by kernel_rfl) (by kernel_rfl) (fun _ _ _ h => h) (Or.inl ⟨by rfl, ?_⟩) (by assumption) ?_
   rotate_left
   · intro w _; go_simp; first | done | (with_reducible rfl)
   try simp only [Act.put, putA, putZ, putS]
   refine wpAnyH_take (i := 3) (oi := ⟨some 97, _, _, _, _, _⟩) (v := ?_) rfl (by kernel_rfl) (by kernel_rfl) (by kernel_rfl) (fun _ _ _ h => h) (Or.inl ⟨by rfl, ?_⟩) (by assumption) ?_
   rotate_left
   · intro w _; go_simp; first | done | (with_reducible rfl)
   try simp only [Act.put, putA, putZ, putS]
   refine wpAnyH_ready (rs := [4, 5]) (by kernel_rfl) (by simp) ?_
   refine AllReadyH.cons (o := ⟨some 98, _, _, _, _, _⟩) rfl (fun K hK => ?_) ?_
   · go_simp
     refine hK.out _ _ ?_ (fun hHeld => ?_)
     · trivial
     clear hK K
     try simp only [Act.put, putA, putZ, putS]
     refine wpAnyH_ready (rs := [5]) (by kernel_rfl) (by simp) ?_
     refine AllReadyH.cons (o := ⟨some 99, _, _, _, _, _⟩) rfl (fun K hK => ?_) ?_
     · go_simp
       refine hK.out _ _ ?_ (fun hHeld => ?_)
       · trivial
       clear hK K
       try simp only [Act.put, putA, putZ, putS]
       refine wpAnyH_ready (rs := [6]) (by kernel_rfl) (by simp) ?_
       refine AllReadyH.cons (o := ⟨some 100, _, _, _, _, _⟩) rfl (fun K hK => ?_) ?_
       · go_simp
         refine hK.out _ _ ?_ (fun hHeld => ?_)
         · trivial
         clear hK K
         try simp only [Act.put, putA, putZ, putS]
         refine wpAnyH_ready (rs := [7]) (by kernel_rfl) (by simp) ?_
         refine AllReadyH.cons (o := ⟨some 101, _, _, _, _, _⟩) rfl (fun K hK => ?_) ?_
         · refine wp_append_own _ _ _ 57 rfl B 56 i0 (.agg #[.int .i64 0, .int .i64 0, .int .i64 0, .string ByteArray.empty, .string ByteArray.empty, .bool false, .int .i64 0, .int .i64 0, .int .i64 0, .int .i64 0, .int .i64 0, .int .i64 0, .int .i64 0]) 13 120 Tryz.underlying57 hi0 hz0 hz1 hz2 rfl (by decide) (.slice av ne cv) ne (eraRow z.es) rfl (own_past hVo6 isext) _ 1 1 [.int .i64 (Src.offP (Src.tl ws 0) 86400).1, .int .i64 0, .int .i64 0, .string ⟨#[]⟩, .string (Src.tx ws 2), .bool false, .int .i64 0, .int .i64 0, .int .i64 0, .int .i64 0, .int .i64 0, .int .i64 0, .int .i64 0] rfl rfl (new_cells' _ _ _ _ (by simp)) (by simp [Value.oneCell']) (by unfold maxLen; omega) (by omega) (leB (a := w.setCell ⟨b, 6, none⟩ (.bool false)) (by rw [World.size_setCell]; exact hBs)) (fun v' w1 hown1 hgrow1 _ => ?_); obtain ⟨av', cap', rfl⟩ := owns_shape hown1; have hF := Lib.hid (rd_era (x := ⟨(Src.offP (Src.tl ws 0) 86400).1, 0, 0, ⟨#[]⟩, Src.tx ws 2, false, 0, 0, 0, 0, 0, 0, 0⟩) (wb := wb) (ext_flag hxb hge hblk) hge hblk6 htree6 hwords6 isext hBb hlow hV6 (by rw [hne1]; unfold eraRow; rw [rowOf_snoc]; exact hown1) hgrow1 hgz); rw [hnzi] at hF; have hB1 := own_other (own_past (by have := htree6.zones; rw [hnz] at this; exact this) isext) (own_past hVo6 isext) (by decide) hgrow1; have c0' := (tree_cell_of hB1 hgz hnzi).1; have f0' := (tree_cell_of hB1 hgz hnzi).2; have i0' : InW gz w1 := ⟨(hB1.lt gz hgz).2⟩; clear hB1
           refine hK.out _ _ ?_ (fun hHeld => ?_)
           · trivial
           clear hK K
           try simp only [Act.put, putA, putZ, putS]
           refine wpAnyH_take (i := 8) (oi := ⟨some 102, _, _, _, _, _⟩) (v := ?_) rfl (by kernel_rfl) (by kernel_rfl) (by kernel_rfl) (fun _ _ _ h => h) (Or.inl ⟨by rfl, ?_⟩) (by assumption) ?_
           rotate_left
           · intro w _; go_simp; first | done | (with_reducible rfl)
           try simp only [Act.put, putA, putZ, putS]
           refine wpAnyH_take (i := 9) (oi := ⟨some 103, _, _, _, _, _⟩) (v := ?_) rfl (by kernel_rfl) (by kernel_rfl) (by kernel_rfl) (fun _ _ _ h => h) (Or.inl ⟨by rfl, ?_⟩) (by assumption) ?_
           rotate_left
           · intro w _; go_simp; first | done | (with_reducible rfl)
           try simp only [Act.put, putA, putZ, putS]
           refine wpAnyH_ready (rs := [10]) (by kernel_rfl) (by simp) ?_
           refine AllReadyH.cons (o := ⟨none, _, _, _, _, _⟩) rfl (fun K hK => ?_) ?_
           · go_simp
             refine hK.out _ _ ?_ (fun hHeld => ?_)
             · trivial
             clear hK K
             try simp only [Act.put, putA, putZ, putS]
             refine wpAnyH_done (by kernel_rfl) ?_ _
             go_wp2
             go_end0
             exact rd_good (by rw [Hres.out]; simp [Src.eraP, Src.kindP, Src.untilP, Src.noSpot, hk, o0, hf, hu']) hF.out
           exact AllReadyH.nil
         exact AllReadyH.nil
       exact AllReadyH.nil
     exact AllReadyH.nil
   refine AllReadyH.cons (o := ⟨some 99, _, _, _, _, _⟩) rfl (fun K hK => ?_) ?_
   · go_simp
     refine hK.out _ _ ?_ (fun hHeld => ?_)
     · trivial
     clear hK K
     try simp only [Act.put, putA, putZ, putS]
     refine wpAnyH_ready (rs := [4, 6]) (by kernel_rfl) (by simp) ?_
     refine AllReadyH.cons (o := ⟨some 98, _, _, _, _, _⟩) rfl (fun K hK => ?_) ?_
     · go_simp
       refine hK.out _ _ ?_ (fun hHeld => ?_)
       · trivial
       clear hK K
       try simp only [Act.put, putA, putZ, putS]
       refine wpAnyH_ready (rs := [6]) (by kernel_rfl) (by simp) ?_
       refine AllReadyH.cons (o := ⟨some 100, _, _, _, _, _⟩) rfl (fun K hK => ?_) ?_
       · go_simp
         refine hK.out _ _ ?_ (fun hHeld => ?_)
         · trivial
         clear hK K
         try simp only [Act.put, putA, putZ, putS]
         refine wpAnyH_ready (rs := [7]) (by kernel_rfl) (by simp) ?_
         refine AllReadyH.cons (o := ⟨some 101, _, _, _, _, _⟩) rfl (fun K hK => ?_) ?_
         · refine wp_append_own _ _ _ 57 rfl B 56 i0 (.agg #[.int .i64 0, .int .i64 0, .int .i64 0, .string ByteArray.empty, .string ByteArray.empty, .bool false, .int .i64 0, .int .i64 0, .int .i64 0, .int .i64 0, .int .i64 0, .int .i64 0, .int .i64 0]) 13 120 Tryz.underlying57 hi0 hz0 hz1 hz2 rfl (by decide) (.slice av ne cv) ne (eraRow z.es) rfl (own_past hVo6 isext) _ 1 1 [.int .i64 (Src.offP (Src.tl ws 0) 86400).1, .int .i64 0, .int .i64 0, .string ⟨#[]⟩, .string (Src.tx ws 2), .bool false, .int .i64 0, .int .i64 0, .int .i64 0, .int .i64 0, .int .i64 0, .int .i64 0, .int .i64 0] rfl rfl (new_cells' _ _ _ _ (by simp)) (by simp [Value.oneCell']) (by unfold maxLen; omega) (by omega) (leB (a := w.setCell ⟨b, 6, none⟩ (.bool false)) (by rw [World.size_setCell]; exact hBs)) (fun v' w1 hown1 hgrow1 _ => ?_); obtain ⟨av', cap', rfl⟩ := owns_shape hown1; have hF := Lib.hid (rd_era (x := ⟨(Src.offP (Src.tl ws 0) 86400).1, 0, 0, ⟨#[]⟩, Src.tx ws 2, false, 0, 0, 0, 0, 0, 0, 0⟩) (wb := wb) (ext_flag hxb hge hblk) hge hblk6 htree6 hwords6 isext hBb hlow hV6 (by rw [hne1]; unfold eraRow; rw [rowOf_snoc]; exact hown1) hgrow1 hgz); rw [hnzi] at hF; have hB1 := own_other (own_past (by have := htree6.zones; rw [hnz] at this; exact this) isext) (own_past hVo6 isext) (by decide) hgrow1; have c0' := (tree_cell_of hB1 hgz hnzi).1; have f0' := (tree_cell_of hB1 hgz hnzi).2; have i0' : InW gz w1 := ⟨(hB1.lt gz hgz).2⟩; clear hB1
           refine hK.out _ _ ?_ (fun hHeld => ?_)
           · trivial
           clear hK K
           try simp only [Act.put, putA, putZ, putS]
           refine wpAnyH_take (i := 8) (oi := ⟨some 102, _, _, _, _, _⟩) (v := ?_) rfl (by kernel_rfl) (by kernel_rfl) (by kernel_rfl) (fun _ _ _ h => h) (Or.inl ⟨by rfl, ?_⟩) (by assumption) ?_
           rotate_left
           · intro w _; go_simp; first | done | (with_reducible rfl)
           try simp only [Act.put, putA, putZ, putS]
           refine wpAnyH_take (i := 9) (oi := ⟨some 103, _, _, _, _, _⟩) (v := ?_) rfl (by kernel_rfl) (by kernel_rfl) (by kernel_rfl) (fun _ _ _ h => h) (Or.inl ⟨by rfl, ?_⟩) (by assumption) ?_
           rotate_left
           · intro w _; go_simp; first | done | (with_reducible rfl)
           try simp only [Act.put, putA, putZ, putS]
           refine wpAnyH_ready (rs := [10]) (by kernel_rfl) (by simp) ?_
           refine AllReadyH.cons (o := ⟨none, _, _, _, _, _⟩) rfl (fun K hK => ?_) ?_
           · go_simp
             refine hK.out _ _ ?_ (fun hHeld => ?_)
             · trivial
             clear hK K
             try simp only [Act.put, putA, putZ, putS]
             refine wpAnyH_done (by kernel_rfl) ?_ _
             go_wp2
             go_end0
             exact rd_good (by rw [Hres.out]; simp [Src.eraP, Src.kindP, Src.untilP, Src.noSpot, hk, o0, hf, hu']) hF.out
           exact AllReadyH.nil
         exact AllReadyH.nil
       exact AllReadyH.nil
     refine AllReadyH.cons (o := ⟨some 100, _, _, _, _, _⟩) rfl (fun K hK => ?_) ?_
     · go_simp
       refine hK.out _ _ ?_ (fun hHeld => ?_)
       · trivial
       clear hK K
       try simp only [Act.put, putA, putZ, putS]
       refine wpAnyH_ready (rs := [4]) (by kernel_rfl) (by simp) ?_
       refine AllReadyH.cons (o := ⟨some 98, _, _, _, _, _⟩) rfl (fun K hK => ?_) ?_
       · go_simp
         refine hK.out _ _ ?_ (fun hHeld => ?_)
         · trivial
         clear hK K
         try simp only [Act.put, putA, putZ, putS]
         refine wpAnyH_ready (rs := [7]) (by kernel_rfl) (by simp) ?_
         refine AllReadyH.cons (o := ⟨some 101, _, _, _, _, _⟩) rfl (fun K hK => ?_) ?_
         · refine wp_append_own _ _ _ 57 rfl B 56 i0 (.agg #[.int .i64 0, .int .i64 0, .int .i64 0, .string ByteArray.empty, .string ByteArray.empty, .bool false, .int .i64 0, .int .i64 0, .int .i64 0, .int .i64 0, .int .i64 0, .int .i64 0, .int .i64 0]) 13 120 Tryz.underlying57 hi0 hz0 hz1 hz2 rfl (by decide) (.slice av ne cv) ne (eraRow z.es) rfl (own_past hVo6 isext) _ 1 1 [.int .i64 (Src.offP (Src.tl ws 0) 86400).1, .int .i64 0, .int .i64 0, .string ⟨#[]⟩, .string (Src.tx ws 2), .bool false, .int .i64 0, .int .i64 0, .int .i64 0, .int .i64 0, .int .i64 0, .int .i64 0, .int .i64 0] rfl rfl (new_cells' _ _ _ _ (by simp)) (by simp [Value.oneCell']) (by unfold maxLen; omega) (by omega) (leB (a := w.setCell ⟨b, 6, none⟩ (.bool false)) (by rw [World.size_setCell]; exact hBs)) (fun v' w1 hown1 hgrow1 _ => ?_); obtain ⟨av', cap', rfl⟩ := owns_shape hown1; have hF := Lib.hid (rd_era (x := ⟨(Src.offP (Src.tl ws 0) 86400).1, 0, 0, ⟨#[]⟩, Src.tx ws 2, false, 0, 0, 0, 0, 0, 0, 0⟩) (wb := wb) (ext_flag hxb hge hblk) hge hblk6 htree6 hwords6 isext hBb hlow hV6 (by rw [hne1]; unfold eraRow; rw [rowOf_snoc]; exact hown1) hgrow1 hgz); rw [hnzi] at hF; have hB1 := own_other (own_past (by have := htree6.zones; rw [hnz] at this; exact this) isext) (own_past hVo6 isext) (by decide) hgrow1; have c0' := (tree_cell_of hB1 hgz hnzi).1; have f0' := (tree_cell_of hB1 hgz hnzi).2; have i0' : InW gz w1 := ⟨(hB1.lt gz hgz).2⟩; clear hB1
           refine hK.out _ _ ?_ (fun hHeld => ?_)
           · trivial
           clear hK K
           try simp only [Act.put, putA, putZ, putS]
           refine wpAnyH_take (i := 8) (oi := ⟨some 102, _, _, _, _, _⟩) (v := ?_) rfl (by kernel_rfl) (by kernel_rfl) (by kernel_rfl) (fun _ _ _ h => h) (Or.inl ⟨by rfl, ?_⟩) (by assumption) ?_
           rotate_left
           · intro w _; go_simp; first | done | (with_reducible rfl)
           try simp only [Act.put, putA, putZ, putS]
           refine wpAnyH_take (i := 9) (oi := ⟨some 103, _, _, _, _, _⟩) (v := ?_) rfl (by kernel_rfl) (by kernel_rfl) (by kernel_rfl) (fun _ _ _ h => h) (Or.inl ⟨by rfl, ?_⟩) (by assumption) ?_
           rotate_left
           · intro w _; go_simp; first | done | (with_reducible rfl)
           try simp only [Act.put, putA, putZ, putS]
           refine wpAnyH_ready (rs := [10]) (by kernel_rfl) (by simp) ?_
           refine AllReadyH.cons (o := ⟨none, _, _, _, _, _⟩) rfl (fun K hK => ?_) ?_
           · go_simp
             refine hK.out _ _ ?_ (fun hHeld => ?_)
             · trivial
             clear hK K
             try simp only [Act.put, putA, putZ, putS]
             refine wpAnyH_done (by kernel_rfl) ?_ _
             go_wp2
             go_end0
             exact rd_good (by rw [Hres.out]; simp [Src.eraP, Src.kindP, Src.untilP, Src.noSpot, hk, o0, hf, hu']) hF.out
           exact AllReadyH.nil
         exact AllReadyH.nil
       exact AllReadyH.nil
     exact AllReadyH.nil
   exact AllReadyH.nil
 · have hu' : ¬ ws.length ≤ 3 := by omega
   have gU : (3 : Int) < n := by omega
   go_wp2_with fail
   go_at_call 87
   have HY := HYr 3 (by omega)
   by_cases u3 : Src.yearP (Src.tl ws 3) = 0
   · rw [if_pos u3] at HY
     refine (HY _ isext).out.bad ?_
     intro y
     go_wp2
     exact bodyPost_panic rfl (rd_bad (by rw [Hres.out]; simp [Src.eraP, Src.kindP, Src.untilP, hk, o0, hf, hu', u3]) (hxb.trans isext))
   rw [if_neg u3] at HY
   refine (HY _ isext).out.good ?_
   intro y7
   clear HY
   go_wp2_with fail
   go_at_call 88
   have HS := HSp 4 (by omega)
   unfold Src.spotG at HS
   cases hsp : Src.spotP ws 4 with
   | inl q =>
     obtain ⟨k, e⟩ := q
     rw [hsp] at HS
     refine (HS _ isext).out.bad ?_
     intro y
     go_wp2
     exact bodyPost_panic rfl (rd_bad (by rw [Hres.out]; simp [Src.eraP, Src.kindP, Src.untilP, hk, o0, hf, hu', u3, hsp]) (hxb.trans isext))
   | inr x =>
     rw [hsp] at HS
     obtain ⟨xm, xk, xwd, xd, xt, xr⟩ := x
     simp only [Spot.cells] at HS
     refine (HS _ isext).out.good ?_
     intro y8
     clear HS
     go_wp2_with fail
     refine wp_with_ext (A := w.setCell ⟨b, 6, none⟩ (.bool true)) (ext_store isext _) (fun hEx => ?_)
     obtain ⟨hblk6, htree6, hwords6⟩ := rd_flag (op' := true) hblk htree hwords
     have hV6 : (w.setCell ⟨b, 6, none⟩ (.bool true)).ownsRow B 56 13 (.slice av ne cv) z.es.length (eraRow z.es) := own_store hV (own_blk hblk (own_base hV (by omega)) (by decide))
     have hVo6 := hV6
     rw [hne1] at hVo6
     refine wp_region_past (by kernel_rfl) (by kernel_rfl) ?_
     repeat (go_big_quiet_step (fail))
     refine wpQuiet_nil ?_
     intro yR
     go_wp2_with fail
     refine wp_region_held_drew (S := fun _ => True) (by kernel_rfl) trivial (fun hHeld => ?_)
     refine wpAnyH_take (i := 0) (oi := ⟨some 94, _, _, _, _, _⟩) (v := ?_) rfl (by kernel_rfl) (by kernel_rfl) (by kernel_rfl) (fun _ _ _ h => h) (Or.inl ⟨by rfl, ?_⟩) (by assumption) ?_
     rotate_left
     · intro w _; go_simp; first | done | (with_reducible rfl)
     try simp only [Act.put, putA, putZ, putS]
     refine wpAnyH_take (i := 1) (oi := ⟨some 95, _, _, _, _, _⟩) (v := ?_) rfl (by kernel_rfl) (by kernel_rfl) (by kernel_rfl) (fun _ _ _ h => h) (Or.inl ⟨by rfl, ?_⟩) (by assumption) ?_
     rotate_left
     · intro w _; go_simp; first | done | (with_reducible rfl)
     try simp only [Act.put, putA, putZ, putS]
     refine wpAnyH_take (i := 2) (oi := ⟨some 96, _, _, _, _, _⟩) (v := ?_) rfl (by kernel_rfl) (by kernel_rfl) (by kernel_rfl) (fun _ _ _ h => h) (Or.inl ⟨by rfl, ?_⟩) (by assumption) ?_
     rotate_left
     · intro w _; go_simp; first | done | (with_reducible rfl)
     try simp only [Act.put, putA, putZ, putS]
     refine wpAnyH_take (i := 3) (oi := ⟨some 97, _, _, _, _, _⟩) (v := ?_) rfl (by kernel_rfl) (by kernel_rfl) (by kernel_rfl) (fun _ _ _ h => h) (Or.inl ⟨by rfl, ?_⟩) (by assumption) ?_
     rotate_left
     · intro w _; go_simp; first | done | (with_reducible rfl)
     try simp only [Act.put, putA, putZ, putS]
     refine wpAnyH_ready (rs := [4, 5]) (by kernel_rfl) (by simp) ?_
     refine AllReadyH.cons (o := ⟨some 98, _, _, _, _, _⟩) rfl (fun K hK => ?_) ?_
     · go_simp
       refine hK.out _ _ ?_ (fun hHeld => ?_)
       · trivial
       clear hK K
       try simp only [Act.put, putA, putZ, putS]
       refine wpAnyH_ready (rs := [5]) (by kernel_rfl) (by simp) ?_
       refine AllReadyH.cons (o := ⟨some 99, _, _, _, _, _⟩) rfl (fun K hK => ?_) ?_
       · go_simp
         refine hK.out _ _ ?_ (fun hHeld => ?_)
         · trivial
         clear hK K
         try simp only [Act.put, putA, putZ, putS]
         refine wpAnyH_ready (rs := [6]) (by kernel_rfl) (by simp) ?_
         refine AllReadyH.cons (o := ⟨some 100, _, _, _, _, _⟩) rfl (fun K hK => ?_) ?_
         · go_simp
           refine hK.out _ _ ?_ (fun hHeld => ?_)
           · trivial
           clear hK K
           try simp only [Act.put, putA, putZ, putS]
           refine wpAnyH_ready (rs := [7]) (by kernel_rfl) (by simp) ?_
           refine AllReadyH.cons (o := ⟨some 101, _, _, _, _, _⟩) rfl (fun K hK => ?_) ?_
           · refine wp_append_own _ _ _ 57 rfl B 56 i0 (.agg #[.int .i64 0, .int .i64 0, .int .i64 0, .string ByteArray.empty, .string ByteArray.empty, .bool false, .int .i64 0, .int .i64 0, .int .i64 0, .int .i64 0, .int .i64 0, .int .i64 0, .int .i64 0]) 13 120 Tryz.underlying57 hi0 hz0 hz1 hz2 rfl (by decide) (.slice av ne cv) ne (eraRow z.es) rfl (own_past hVo6 isext) _ 1 1 [.int .i64 (Src.offP (Src.tl ws 0) 86400).1, .int .i64 0, .int .i64 0, .string ⟨#[]⟩, .string (Src.tx ws 2), .bool true, .int .i64 (Src.yearP (Src.tl ws 3)), .int .i64 xm, .int .i64 xk, .int .i64 xwd, .int .i64 xd, .int .i64 xt, .int .i64 xr] rfl rfl (new_cells' _ _ _ _ (by simp)) (by simp [Value.oneCell']) (by unfold maxLen; omega) (by omega) (leB (a := w.setCell ⟨b, 6, none⟩ (.bool true)) (by rw [World.size_setCell]; exact hBs)) (fun v' w1 hown1 hgrow1 _ => ?_); obtain ⟨av', cap', rfl⟩ := owns_shape hown1; have hF := Lib.hid (rd_era (x := ⟨(Src.offP (Src.tl ws 0) 86400).1, 0, 0, ⟨#[]⟩, Src.tx ws 2, true, (Src.yearP (Src.tl ws 3)), xm, xk, xwd, xd, xt, xr⟩) (wb := wb) (ext_flag hxb hge hblk) hge hblk6 htree6 hwords6 isext hBb hlow hV6 (by rw [hne1]; unfold eraRow; rw [rowOf_snoc]; exact hown1) hgrow1 hgz); rw [hnzi] at hF; have hB1 := own_other (own_past (by have := htree6.zones; rw [hnz] at this; exact this) isext) (own_past hVo6 isext) (by decide) hgrow1; have c0' := (tree_cell_of hB1 hgz hnzi).1; have f0' := (tree_cell_of hB1 hgz hnzi).2; have i0' : InW gz w1 := ⟨(hB1.lt gz hgz).2⟩; clear hB1
             refine hK.out _ _ ?_ (fun hHeld => ?_)
             · trivial
             clear hK K
             try simp only [Act.put, putA, putZ, putS]
             refine wpAnyH_take (i := 8) (oi := ⟨some 102, _, _, _, _, _⟩) (v := ?_) rfl (by kernel_rfl) (by kernel_rfl) (by kernel_rfl) (fun _ _ _ h => h) (Or.inl ⟨by rfl, ?_⟩) (by assumption) ?_
             rotate_left
             · intro w _; go_simp; first | done | (with_reducible rfl)
             try simp only [Act.put, putA, putZ, putS]
             refine wpAnyH_take (i := 9) (oi := ⟨some 103, _, _, _, _, _⟩) (v := ?_) rfl (by kernel_rfl) (by kernel_rfl) (by kernel_rfl) (fun _ _ _ h => h) (Or.inl ⟨by rfl, ?_⟩) (by assumption) ?_
             rotate_left
             · intro w _; go_simp; first | done | (with_reducible rfl)
             try simp only [Act.put, putA, putZ, putS]
             refine wpAnyH_ready (rs := [10]) (by kernel_rfl) (by simp) ?_
             refine AllReadyH.cons (o := ⟨none, _, _, _, _, _⟩) rfl (fun K hK => ?_) ?_
             · go_simp
               refine hK.out _ _ ?_ (fun hHeld => ?_)
               · trivial
               clear hK K
               try simp only [Act.put, putA, putZ, putS]
               refine wpAnyH_done (by kernel_rfl) ?_ _
               go_wp2
               go_end0
               exact rd_good (by rw [Hres.out]; simp [Src.eraP, Src.kindP, Src.untilP, Src.noSpot, hk, o0, hf, hu', u3, hsp]) hF.out
             exact AllReadyH.nil
           exact AllReadyH.nil
         exact AllReadyH.nil
       exact AllReadyH.nil
     refine AllReadyH.cons (o := ⟨some 99, _, _, _, _, _⟩) rfl (fun K hK => ?_) ?_
     · go_simp
       refine hK.out _ _ ?_ (fun hHeld => ?_)
       · trivial
       clear hK K
       try simp only [Act.put, putA, putZ, putS]
       refine wpAnyH_ready (rs := [4, 6]) (by kernel_rfl) (by simp) ?_
       refine AllReadyH.cons (o := ⟨some 98, _, _, _, _, _⟩) rfl (fun K hK => ?_) ?_
       · go_simp
         refine hK.out _ _ ?_ (fun hHeld => ?_)
         · trivial
         clear hK K
         try simp only [Act.put, putA, putZ, putS]
         refine wpAnyH_ready (rs := [6]) (by kernel_rfl) (by simp) ?_
         refine AllReadyH.cons (o := ⟨some 100, _, _, _, _, _⟩) rfl (fun K hK => ?_) ?_
         · go_simp
           refine hK.out _ _ ?_ (fun hHeld => ?_)
           · trivial
           clear hK K
           try simp only [Act.put, putA, putZ, putS]
           refine wpAnyH_ready (rs := [7]) (by kernel_rfl) (by simp) ?_
           refine AllReadyH.cons (o := ⟨some 101, _, _, _, _, _⟩) rfl (fun K hK => ?_) ?_
           · refine wp_append_own _ _ _ 57 rfl B 56 i0 (.agg #[.int .i64 0, .int .i64 0, .int .i64 0, .string ByteArray.empty, .string ByteArray.empty, .bool false, .int .i64 0, .int .i64 0, .int .i64 0, .int .i64 0, .int .i64 0, .int .i64 0, .int .i64 0]) 13 120 Tryz.underlying57 hi0 hz0 hz1 hz2 rfl (by decide) (.slice av ne cv) ne (eraRow z.es) rfl (own_past hVo6 isext) _ 1 1 [.int .i64 (Src.offP (Src.tl ws 0) 86400).1, .int .i64 0, .int .i64 0, .string ⟨#[]⟩, .string (Src.tx ws 2), .bool true, .int .i64 (Src.yearP (Src.tl ws 3)), .int .i64 xm, .int .i64 xk, .int .i64 xwd, .int .i64 xd, .int .i64 xt, .int .i64 xr] rfl rfl (new_cells' _ _ _ _ (by simp)) (by simp [Value.oneCell']) (by unfold maxLen; omega) (by omega) (leB (a := w.setCell ⟨b, 6, none⟩ (.bool true)) (by rw [World.size_setCell]; exact hBs)) (fun v' w1 hown1 hgrow1 _ => ?_); obtain ⟨av', cap', rfl⟩ := owns_shape hown1; have hF := Lib.hid (rd_era (x := ⟨(Src.offP (Src.tl ws 0) 86400).1, 0, 0, ⟨#[]⟩, Src.tx ws 2, true, (Src.yearP (Src.tl ws 3)), xm, xk, xwd, xd, xt, xr⟩) (wb := wb) (ext_flag hxb hge hblk) hge hblk6 htree6 hwords6 isext hBb hlow hV6 (by rw [hne1]; unfold eraRow; rw [rowOf_snoc]; exact hown1) hgrow1 hgz); rw [hnzi] at hF; have hB1 := own_other (own_past (by have := htree6.zones; rw [hnz] at this; exact this) isext) (own_past hVo6 isext) (by decide) hgrow1; have c0' := (tree_cell_of hB1 hgz hnzi).1; have f0' := (tree_cell_of hB1 hgz hnzi).2; have i0' : InW gz w1 := ⟨(hB1.lt gz hgz).2⟩; clear hB1
             refine hK.out _ _ ?_ (fun hHeld => ?_)
             · trivial
             clear hK K
             try simp only [Act.put, putA, putZ, putS]
             refine wpAnyH_take (i := 8) (oi := ⟨some 102, _, _, _, _, _⟩) (v := ?_) rfl (by kernel_rfl) (by kernel_rfl) (by kernel_rfl) (fun _ _ _ h => h) (Or.inl ⟨by rfl, ?_⟩) (by assumption) ?_
             rotate_left
             · intro w _; go_simp; first | done | (with_reducible rfl)
             try simp only [Act.put, putA, putZ, putS]
             refine wpAnyH_take (i := 9) (oi := ⟨some 103, _, _, _, _, _⟩) (v := ?_) rfl (by kernel_rfl) (by kernel_rfl) (by kernel_rfl) (fun _ _ _ h => h) (Or.inl ⟨by rfl, ?_⟩) (by assumption) ?_
             rotate_left
             · intro w _; go_simp; first | done | (with_reducible rfl)
             try simp only [Act.put, putA, putZ, putS]
             refine wpAnyH_ready (rs := [10]) (by kernel_rfl) (by simp) ?_
             refine AllReadyH.cons (o := ⟨none, _, _, _, _, _⟩) rfl (fun K hK => ?_) ?_
             · go_simp
               refine hK.out _ _ ?_ (fun hHeld => ?_)
               · trivial
               clear hK K
               try simp only [Act.put, putA, putZ, putS]
               refine wpAnyH_done (by kernel_rfl) ?_ _
               go_wp2
               go_end0
               exact rd_good (by rw [Hres.out]; simp [Src.eraP, Src.kindP, Src.untilP, Src.noSpot, hk, o0, hf, hu', u3, hsp]) hF.out
             exact AllReadyH.nil
           exact AllReadyH.nil
         exact AllReadyH.nil
       refine AllReadyH.cons (o := ⟨some 100, _, _, _, _, _⟩) rfl (fun K hK => ?_) ?_
       · go_simp
         refine hK.out _ _ ?_ (fun hHeld => ?_)
         · trivial
         clear hK K
         try simp only [Act.put, putA, putZ, putS]
         refine wpAnyH_ready (rs := [4]) (by kernel_rfl) (by simp) ?_
         refine AllReadyH.cons (o := ⟨some 98, _, _, _, _, _⟩) rfl (fun K hK => ?_) ?_
         · go_simp
           refine hK.out _ _ ?_ (fun hHeld => ?_)
           · trivial
           clear hK K
           try simp only [Act.put, putA, putZ, putS]
           refine wpAnyH_ready (rs := [7]) (by kernel_rfl) (by simp) ?_
           refine AllReadyH.cons (o := ⟨some 101, _, _, _, _, _⟩) rfl (fun K hK => ?_) ?_
           · refine wp_append_own _ _ _ 57 rfl B 56 i0 (.agg #[.int .i64 0, .int .i64 0, .int .i64 0, .string ByteArray.empty, .string ByteArray.empty, .bool false, .int .i64 0, .int .i64 0, .int .i64 0, .int .i64 0, .int .i64 0, .int .i64 0, .int .i64 0]) 13 120 Tryz.underlying57 hi0 hz0 hz1 hz2 rfl (by decide) (.slice av ne cv) ne (eraRow z.es) rfl (own_past hVo6 isext) _ 1 1 [.int .i64 (Src.offP (Src.tl ws 0) 86400).1, .int .i64 0, .int .i64 0, .string ⟨#[]⟩, .string (Src.tx ws 2), .bool true, .int .i64 (Src.yearP (Src.tl ws 3)), .int .i64 xm, .int .i64 xk, .int .i64 xwd, .int .i64 xd, .int .i64 xt, .int .i64 xr] rfl rfl (new_cells' _ _ _ _ (by simp)) (by simp [Value.oneCell']) (by unfold maxLen; omega) (by omega) (leB (a := w.setCell ⟨b, 6, none⟩ (.bool true)) (by rw [World.size_setCell]; exact hBs)) (fun v' w1 hown1 hgrow1 _ => ?_); obtain ⟨av', cap', rfl⟩ := owns_shape hown1; have hF := Lib.hid (rd_era (x := ⟨(Src.offP (Src.tl ws 0) 86400).1, 0, 0, ⟨#[]⟩, Src.tx ws 2, true, (Src.yearP (Src.tl ws 3)), xm, xk, xwd, xd, xt, xr⟩) (wb := wb) (ext_flag hxb hge hblk) hge hblk6 htree6 hwords6 isext hBb hlow hV6 (by rw [hne1]; unfold eraRow; rw [rowOf_snoc]; exact hown1) hgrow1 hgz); rw [hnzi] at hF; have hB1 := own_other (own_past (by have := htree6.zones; rw [hnz] at this; exact this) isext) (own_past hVo6 isext) (by decide) hgrow1; have c0' := (tree_cell_of hB1 hgz hnzi).1; have f0' := (tree_cell_of hB1 hgz hnzi).2; have i0' : InW gz w1 := ⟨(hB1.lt gz hgz).2⟩; clear hB1
             refine hK.out _ _ ?_ (fun hHeld => ?_)
             · trivial
             clear hK K
             try simp only [Act.put, putA, putZ, putS]
             refine wpAnyH_take (i := 8) (oi := ⟨some 102, _, _, _, _, _⟩) (v := ?_) rfl (by kernel_rfl) (by kernel_rfl) (by kernel_rfl) (fun _ _ _ h => h) (Or.inl ⟨by rfl, ?_⟩) (by assumption) ?_
             rotate_left
             · intro w _; go_simp; first | done | (with_reducible rfl)
             try simp only [Act.put, putA, putZ, putS]
             refine wpAnyH_take (i := 9) (oi := ⟨some 103, _, _, _, _, _⟩) (v := ?_) rfl (by kernel_rfl) (by kernel_rfl) (by kernel_rfl) (fun _ _ _ h => h) (Or.inl ⟨by rfl, ?_⟩) (by assumption) ?_
             rotate_left
             · intro w _; go_simp; first | done | (with_reducible rfl)
             try simp only [Act.put, putA, putZ, putS]
             refine wpAnyH_ready (rs := [10]) (by kernel_rfl) (by simp) ?_
             refine AllReadyH.cons (o := ⟨none, _, _, _, _, _⟩) rfl (fun K hK => ?_) ?_
             · go_simp
               refine hK.out _ _ ?_ (fun hHeld => ?_)
               · trivial
               clear hK K
               try simp only [Act.put, putA, putZ, putS]
               refine wpAnyH_done (by kernel_rfl) ?_ _
               go_wp2
               go_end0
               exact rd_good (by rw [Hres.out]; simp [Src.eraP, Src.kindP, Src.untilP, Src.noSpot, hk, o0, hf, hu', u3, hsp]) hF.out
             exact AllReadyH.nil
           exact AllReadyH.nil
         exact AllReadyH.nil
       exact AllReadyH.nil
     exact AllReadyH.nil
set_option maxRecDepth 100000 in
set_option maxHeartbeats 16000000 in
theorem pera0_set (wb : Frm) (w : World) (b : Nat) (S : Source) (line : Int) (all : ByteArray) (ws : List Src.Wd) (hg : GoodW w) (h : Rd wb w b S line all ws) (hs : ∀ x ∈ ws, x.1.size ≤ 1000) (hlo : 3 ≤ ws.length) (hhi : ws.length ≤ 7) (hall : all.size ≤ 1048576) (hne : S.zones ≠ []) (hee : (Src.lastE S).length ≤ 100) (hzz : S.zones.length ≤ 1000) (t1 : (Src.tx ws 1 == ⟨#[45]⟩) = false) (t2 : ((Src.tx ws 1).toList == [45]) = false) (hk : ¬ Src.tl ws 1 = [45]) (hop : Src.opensB (Src.tl ws 1) = true) :
 Calls Tryz.prog 85 #[.pointer (some ⟨b, 0, none⟩), .int .i64 0] w (RdEnd wb b line all ws (eraO S ws 0 line)) := by
 obtain ⟨i0, hi0, hz0, hz1, hz2⟩ := info_partsS Tryz.infoEraS
 obtain ⟨hxb, hge, vr, vz, vl, lv, zp, Bw, hblk, htree, hwords⟩ := h
 have L := rdl_of hblk hwords
 have hlw : ∀ i, (Src.tx ws i).size ≤ 1048576 := fun i => Nat.le_trans (tx_size hs i) (by omega)
 have HNd := fun i hi ok w' (hx : Ext w w') => Lib.hid (pneed_any b line all ws i hi ok w' (L.ext hx))
 have HYr := fun i hi w' (hx : Ext w w') => Lib.hid (pyear_any b line all ws i hi (hlw i) w' (hg.ext hx) (L.ext hx))
 have HSp := fun i hi w' (hx : Ext w w') => Lib.hid (pspot_any b line all ws i hi (by omega) (by omega) hs w' (hg.ext hx) (L.ext hx))
 have HOf := fun i hi most m1 m2 w' (hx : Ext w w') => Lib.hid (poffset_any b line all ws i hi (hlw i) most m1 m2 w' (L.ext hx))
 have HOp : ∀ w, Hid (Rets Tryz.prog 29 #[.string (Src.tx ws 1)] w (.bool (Src.opensB (Src.tl ws 1)))) := fun w => Lib.hid (opens_any (Src.tx ws 1) (by have := hlw 1; unfold maxLen; omega) w)
 have HSt : ∀ w, Hid (Rets Tryz.prog 12 #[.string (Src.tx ws 1)] w (.bool (Src.setB (Src.tl ws 1)))) := fun w => Lib.hid (sset_any (Src.tx ws 1) (by have := hlw 1; unfold maxLen; omega) w)
 have HFm : ∀ w', Ext w w' → Hid (Rets Tryz.prog 72 #[.string (Src.tx ws 2)] w' (.bool (Src.fmtB (Src.tl ws 2)))) := fun w' hx => Lib.hid (format_any (Src.tx ws 2) (by have := hlw 2; unfold maxLen; omega) w' (hg.max.ext hx))
 have hres : eraO S ws 0 line = match Src.eraP ws 0 line with | .inl f => .inl f | .inr x => .inr ⟨S.rules, Src.addEra S.zones x, S.links⟩ := rfl
 generalize eraO S ws 0 line = OUT at hres ⊢
 have Hres := Lib.hid hres
 clear hres
 obtain ⟨zi, z, V, rfl⟩ := tree_split htree hne
 obtain ⟨B, hBb, hBs, hlow, hV⟩ := htree.last2 (by have := hblk.lt; omega)
 obtain ⟨h1, h2, h3, lv', h4, h5⟩ := L
 haveI : InW b w := ⟨h1⟩
 have e5 : lv' = lv := by have := (hblk.cell 5).symm.trans h4; simpa using this.symm
 subst e5
 obtain ⟨n, hn⟩ : ∃ n, ws.length = n := ⟨_, rfl⟩
 rw [hn] at h5
 rcases h5 with ⟨_, _, e9, h9, _⟩ | ⟨bl, o, c9, e9, k1, k2, m1', hcw⟩
 · exact absurd h9 (by omega)
 subst e9
 haveI : InW bl w := ⟨m1'⟩
 obtain ⟨d1, -⟩ := wd_at hcw 1 (by omega)
 obtain ⟨d2, -⟩ := wd_at hcw 2 (by omega)
 clear hcw
 simp only [Nat.reduceMul] at d1 d2
 obtain ⟨nz, hnz, hnzi⟩ : ∃ nz, S.zones.length = nz + 1 ∧ zi.length = nz := ⟨zi.length, by rw [tree_names htree]; simp, rfl⟩
 obtain ⟨ne, hne1⟩ : ∃ ne, z.es.length = ne := ⟨_, rfl⟩
 have hne2 : ne ≤ 100 := by rw [← hne1]; unfold Src.lastE at hee; rw [tree_names htree] at hee; simpa using hee
 have hzo := htree.zones
 rw [hnz] at hzo
 obtain ⟨gz, cz, rfl⟩ := owns_block hzo (by omega)
 have hgz : (Value.slice (some ⟨gz, 0, none⟩) (nz + 1) cz).ownBlock = some gz := rfl
 have hcz := tree_cells htree hgz
 rw [hnzi] at hcz
 obtain ⟨czV, czF⟩ := hcz
 obtain ⟨gz1, gz2⟩ := hzo.lt gz hgz
 have gzb : ¬ gz = b := by omega
 have gzb' : ¬ b = gz := by omega
 haveI : InW gz w := ⟨gz2⟩
 have hVo := hV
 rw [hne1] at hVo
 obtain ⟨av, cv, rfl⟩ := owns_shape hVo
 have b1 := len_of (owns_reads hzo (by decide))
 have b2 := len_of (owns_reads hVo (by decide))
 have c1 : w.cell? ⟨b, 1, none⟩ = some (.slice (some ⟨gz, 0, none⟩) (nz + 1) cz) := (hblk.cell 1).trans rfl
 have c6 : w.cell? ⟨b, 6, none⟩ = some (.bool (Src.openB S)) := (hblk.cell 6).trans rfl
 have f6 : w.frozen? ⟨b, 6, none⟩ = false := hblk.frozen 6
 go_enter Tryz.func85, Tryz.ntmps85
 go_wp2_with fail
 go_at_call 89
 have HO := HOf 0 (by omega) 86400 (by omega) (by omega)
 by_cases o0 : (Src.offP (Src.tl ws 0) 86400).2 = 0
 rotate_left
 · rw [if_neg o0] at HO
   refine (HO _ isext).out.bad ?_
   intro y
   go_wp2
   exact bodyPost_panic rfl (rd_bad (by rw [Hres.out]; simp [Src.eraP, o0]) (hxb.trans isext))
 rw [if_pos o0] at HO
 refine (HO _ isext).out.good ?_
 intro y1
 clear HO
 go_wp2_with (first | (go_at_call 29; refine Rets.use (HOp _).out ?_; rw [hop]; intro y2) | (go_at_call 12; refine Rets.use (HSt _).out ?_; intro y3))
 go_at_call 86
 cases hs1 : Src.setB (Src.tl ws 1)
 · have HN := HNd 1 (by omega) false
   simp only [Bool.false_eq_true, if_false] at HN
   try rw [hs1]
   refine (HN _ isext).out.bad ?_
   intro y
   go_wp2
   exact bodyPost_panic rfl (rd_bad (by rw [Hres.out]; simp [Src.eraP, Src.kindP, Src.untilP, hk, hop, o0, hs1]) (hxb.trans isext))
 have HN1 := HNd 1 (by omega) true
 simp only [if_true] at HN1
 try rw [hs1]
 refine (HN1 _ isext).out.good ?_
 intro y4
 clear HN1
 go_wp2_with (go_at_call 72; refine Rets.use (HFm _ isext).out ?_; intro y5)
 go_at_call 86
 cases hf : Src.fmtB (Src.tl ws 2)
 · have HN := HNd 2 (by omega) false
   simp only [Bool.false_eq_true, if_false] at HN
   try rw [hf]
   refine (HN _ isext).out.bad ?_
   intro y
   go_wp2
   exact bodyPost_panic rfl (rd_bad (by rw [Hres.out]; simp [Src.eraP, Src.kindP, Src.untilP, hk, hop, hs1, o0, hf]) (hxb.trans isext))
 have HN2 := HNd 2 (by omega) true
 simp only [if_true] at HN2
 try rw [hf]
 refine (HN2 _ isext).out.good ?_
 intro y6
 clear HN2
 by_cases hu : n ≤ 3
 · have hu' : ws.length ≤ 3 := by omega
   have gU : decide ((3 : Int) < n) = false := decide_eq_false (by omega)
   go_wp2_with fail
   refine wp_with_ext (A := w.setCell ⟨b, 6, none⟩ (.bool false)) (ext_store isext _) (fun hEx => ?_)
   obtain ⟨hblk6, htree6, hwords6⟩ := rd_flag (op' := false) hblk htree hwords
   have hV6 : (w.setCell ⟨b, 6, none⟩ (.bool false)).ownsRow B 56 13 (.slice av ne cv) z.es.length (eraRow z.es) := own_store hV (own_blk hblk (own_base hV (by omega)) (by decide))
   have hVo6 := hV6
   rw [hne1] at hVo6
   refine wp_region_past (by kernel_rfl) (by kernel_rfl) ?_
   repeat (go_big_quiet_step (fail))
   refine wpQuiet_nil ?_
   intro yR
   go_wp2_with fail
   refine wp_region_held_drew (S := fun _ => True) (by kernel_rfl) trivial (fun hHeld => ?_)
   refine wpAnyH_take (i := 0) (oi := ⟨some 94, _, _, _, _, _⟩) (v := ?_) rfl (by kernel_rfl) (by kernel_rfl) (by kernel_rfl) (fun _ _ _ h => h) (Or.inl ⟨by rfl, ?_⟩) (by assumption) ?_
   rotate_left
   · intro w _; go_simp; first | done | (with_reducible rfl)
   try simp only [Act.put, putA, putZ, putS]
   refine wpAnyH_take (i := 1) (oi := ⟨some 95, _, _, _, _, _⟩) (v := ?_) rfl (by kernel_rfl) (by kernel_rfl) (by kernel_rfl) (fun _ _ _ h => h) (Or.inl ⟨by rfl, ?_⟩) (by assumption) ?_
   rotate_left
   · intro w _; go_simp; first | done | (with_reducible rfl)
   try simp only [Act.put, putA, putZ, putS]
   refine wpAnyH_take (i := 2) (oi := ⟨some 96, _, _, _, _, _⟩) (v := ?_) rfl (by kernel_rfl) (by kernel_rfl) (by kernel_rfl) (fun _ _ _ h => h) (Or.inl ⟨by rfl, ?_⟩) (by assumption) ?_
   rotate_left
   · intro w _; go_simp; first | done | (with_reducible rfl)
   try simp only [Act.put, putA, putZ, putS]
   refine wpAnyH_take (i := 3) (oi := ⟨some 97, _, _, _, _, _⟩) (v := ?_) rfl (by kernel_rfl) (by kernel_rfl) (by kernel_rfl) (fun _ _ _ h => h) (Or.inl ⟨by rfl, ?_⟩) (by assumption) ?_
   rotate_left
   · intro w _; go_simp; first | done | (with_reducible rfl)
   try simp only [Act.put, putA, putZ, putS]
   refine wpAnyH_ready (rs := [4, 5]) (by kernel_rfl) (by simp) ?_
   refine AllReadyH.cons (o := ⟨some 98, _, _, _, _, _⟩) rfl (fun K hK => ?_) ?_
   · go_simp
     refine hK.out _ _ ?_ (fun hHeld => ?_)
     · trivial
     clear hK K
     try simp only [Act.put, putA, putZ, putS]
     refine wpAnyH_ready (rs := [5]) (by kernel_rfl) (by simp) ?_
     refine AllReadyH.cons (o := ⟨some 99, _, _, _, _, _⟩) rfl (fun K hK => ?_) ?_
     · go_simp
       refine hK.out _ _ ?_ (fun hHeld => ?_)
       · trivial
       clear hK K
       try simp only [Act.put, putA, putZ, putS]
       refine wpAnyH_ready (rs := [6]) (by kernel_rfl) (by simp) ?_
       refine AllReadyH.cons (o := ⟨some 100, _, _, _, _, _⟩) rfl (fun K hK => ?_) ?_
       · go_simp
         refine hK.out _ _ ?_ (fun hHeld => ?_)
         · trivial
         clear hK K
         try simp only [Act.put, putA, putZ, putS]
         refine wpAnyH_ready (rs := [7]) (by kernel_rfl) (by simp) ?_
         refine AllReadyH.cons (o := ⟨some 101, _, _, _, _, _⟩) rfl (fun K hK => ?_) ?_
         · refine wp_append_own _ _ _ 57 rfl B 56 i0 (.agg #[.int .i64 0, .int .i64 0, .int .i64 0, .string ByteArray.empty, .string ByteArray.empty, .bool false, .int .i64 0, .int .i64 0, .int .i64 0, .int .i64 0, .int .i64 0, .int .i64 0, .int .i64 0]) 13 120 Tryz.underlying57 hi0 hz0 hz1 hz2 rfl (by decide) (.slice av ne cv) ne (eraRow z.es) rfl (own_past hVo6 isext) _ 1 1 [.int .i64 (Src.offP (Src.tl ws 0) 86400).1, .int .i64 2, .int .i64 0, .string (Src.tx ws 1), .string (Src.tx ws 2), .bool false, .int .i64 0, .int .i64 0, .int .i64 0, .int .i64 0, .int .i64 0, .int .i64 0, .int .i64 0] rfl rfl (new_cells' _ _ _ _ (by simp)) (by simp [Value.oneCell']) (by unfold maxLen; omega) (by omega) (leB (a := w.setCell ⟨b, 6, none⟩ (.bool false)) (by rw [World.size_setCell]; exact hBs)) (fun v' w1 hown1 hgrow1 _ => ?_); obtain ⟨av', cap', rfl⟩ := owns_shape hown1; have hF := Lib.hid (rd_era (x := ⟨(Src.offP (Src.tl ws 0) 86400).1, 2, 0, (Src.tx ws 1), Src.tx ws 2, false, 0, 0, 0, 0, 0, 0, 0⟩) (wb := wb) (ext_flag hxb hge hblk) hge hblk6 htree6 hwords6 isext hBb hlow hV6 (by rw [hne1]; unfold eraRow; rw [rowOf_snoc]; exact hown1) hgrow1 hgz); rw [hnzi] at hF; have hB1 := own_other (own_past (by have := htree6.zones; rw [hnz] at this; exact this) isext) (own_past hVo6 isext) (by decide) hgrow1; have c0' := (tree_cell_of hB1 hgz hnzi).1; have f0' := (tree_cell_of hB1 hgz hnzi).2; have i0' : InW gz w1 := ⟨(hB1.lt gz hgz).2⟩; clear hB1
           refine hK.out _ _ ?_ (fun hHeld => ?_)
           · trivial
           clear hK K
           try simp only [Act.put, putA, putZ, putS]
           refine wpAnyH_take (i := 8) (oi := ⟨some 102, _, _, _, _, _⟩) (v := ?_) rfl (by kernel_rfl) (by kernel_rfl) (by kernel_rfl) (fun _ _ _ h => h) (Or.inl ⟨by rfl, ?_⟩) (by assumption) ?_
           rotate_left
           · intro w _; go_simp; first | done | (with_reducible rfl)
           try simp only [Act.put, putA, putZ, putS]
           refine wpAnyH_take (i := 9) (oi := ⟨some 103, _, _, _, _, _⟩) (v := ?_) rfl (by kernel_rfl) (by kernel_rfl) (by kernel_rfl) (fun _ _ _ h => h) (Or.inl ⟨by rfl, ?_⟩) (by assumption) ?_
           rotate_left
           · intro w _; go_simp; first | done | (with_reducible rfl)
           try simp only [Act.put, putA, putZ, putS]
           refine wpAnyH_ready (rs := [10]) (by kernel_rfl) (by simp) ?_
           refine AllReadyH.cons (o := ⟨none, _, _, _, _, _⟩) rfl (fun K hK => ?_) ?_
           · go_simp
             refine hK.out _ _ ?_ (fun hHeld => ?_)
             · trivial
             clear hK K
             try simp only [Act.put, putA, putZ, putS]
             refine wpAnyH_done (by kernel_rfl) ?_ _
             go_wp2
             go_end0
             exact rd_good (by rw [Hres.out]; simp [Src.eraP, Src.kindP, Src.untilP, Src.noSpot, hk, hop, hs1, o0, hf, hu']) hF.out
           exact AllReadyH.nil
         exact AllReadyH.nil
       exact AllReadyH.nil
     exact AllReadyH.nil
   refine AllReadyH.cons (o := ⟨some 99, _, _, _, _, _⟩) rfl (fun K hK => ?_) ?_
   · go_simp
     refine hK.out _ _ ?_ (fun hHeld => ?_)
     · trivial
     clear hK K
     try simp only [Act.put, putA, putZ, putS]
     refine wpAnyH_ready (rs := [4, 6]) (by kernel_rfl) (by simp) ?_
     refine AllReadyH.cons (o := ⟨some 98, _, _, _, _, _⟩) rfl (fun K hK => ?_) ?_
     · go_simp
       refine hK.out _ _ ?_ (fun hHeld => ?_)
       · trivial
       clear hK K
       try simp only [Act.put, putA, putZ, putS]
       refine wpAnyH_ready (rs := [6]) (by kernel_rfl) (by simp) ?_
       refine AllReadyH.cons (o := ⟨some 100, _, _, _, _, _⟩) rfl (fun K hK => ?_) ?_
       · go_simp
         refine hK.out _ _ ?_ (fun hHeld => ?_)
         · trivial
         clear hK K
         try simp only [Act.put, putA, putZ, putS]
         refine wpAnyH_ready (rs := [7]) (by kernel_rfl) (by simp) ?_
         refine AllReadyH.cons (o := ⟨some 101, _, _, _, _, _⟩) rfl (fun K hK => ?_) ?_
         · refine wp_append_own _ _ _ 57 rfl B 56 i0 (.agg #[.int .i64 0, .int .i64 0, .int .i64 0, .string ByteArray.empty, .string ByteArray.empty, .bool false, .int .i64 0, .int .i64 0, .int .i64 0, .int .i64 0, .int .i64 0, .int .i64 0, .int .i64 0]) 13 120 Tryz.underlying57 hi0 hz0 hz1 hz2 rfl (by decide) (.slice av ne cv) ne (eraRow z.es) rfl (own_past hVo6 isext) _ 1 1 [.int .i64 (Src.offP (Src.tl ws 0) 86400).1, .int .i64 2, .int .i64 0, .string (Src.tx ws 1), .string (Src.tx ws 2), .bool false, .int .i64 0, .int .i64 0, .int .i64 0, .int .i64 0, .int .i64 0, .int .i64 0, .int .i64 0] rfl rfl (new_cells' _ _ _ _ (by simp)) (by simp [Value.oneCell']) (by unfold maxLen; omega) (by omega) (leB (a := w.setCell ⟨b, 6, none⟩ (.bool false)) (by rw [World.size_setCell]; exact hBs)) (fun v' w1 hown1 hgrow1 _ => ?_); obtain ⟨av', cap', rfl⟩ := owns_shape hown1; have hF := Lib.hid (rd_era (x := ⟨(Src.offP (Src.tl ws 0) 86400).1, 2, 0, (Src.tx ws 1), Src.tx ws 2, false, 0, 0, 0, 0, 0, 0, 0⟩) (wb := wb) (ext_flag hxb hge hblk) hge hblk6 htree6 hwords6 isext hBb hlow hV6 (by rw [hne1]; unfold eraRow; rw [rowOf_snoc]; exact hown1) hgrow1 hgz); rw [hnzi] at hF; have hB1 := own_other (own_past (by have := htree6.zones; rw [hnz] at this; exact this) isext) (own_past hVo6 isext) (by decide) hgrow1; have c0' := (tree_cell_of hB1 hgz hnzi).1; have f0' := (tree_cell_of hB1 hgz hnzi).2; have i0' : InW gz w1 := ⟨(hB1.lt gz hgz).2⟩; clear hB1
           refine hK.out _ _ ?_ (fun hHeld => ?_)
           · trivial
           clear hK K
           try simp only [Act.put, putA, putZ, putS]
           refine wpAnyH_take (i := 8) (oi := ⟨some 102, _, _, _, _, _⟩) (v := ?_) rfl (by kernel_rfl) (by kernel_rfl) (by kernel_rfl) (fun _ _ _ h => h) (Or.inl ⟨by rfl, ?_⟩) (by assumption) ?_
           rotate_left
           · intro w _; go_simp; first | done | (with_reducible rfl)
           try simp only [Act.put, putA, putZ, putS]
           refine wpAnyH_take (i := 9) (oi := ⟨some 103, _, _, _, _, _⟩) (v := ?_) rfl (by kernel_rfl) (by kernel_rfl) (by kernel_rfl) (fun _ _ _ h => h) (Or.inl ⟨by rfl, ?_⟩) (by assumption) ?_
           rotate_left
           · intro w _; go_simp; first | done | (with_reducible rfl)
           try simp only [Act.put, putA, putZ, putS]
           refine wpAnyH_ready (rs := [10]) (by kernel_rfl) (by simp) ?_
           refine AllReadyH.cons (o := ⟨none, _, _, _, _, _⟩) rfl (fun K hK => ?_) ?_
           · go_simp
             refine hK.out _ _ ?_ (fun hHeld => ?_)
             · trivial
             clear hK K
             try simp only [Act.put, putA, putZ, putS]
             refine wpAnyH_done (by kernel_rfl) ?_ _
             go_wp2
             go_end0
             exact rd_good (by rw [Hres.out]; simp [Src.eraP, Src.kindP, Src.untilP, Src.noSpot, hk, hop, hs1, o0, hf, hu']) hF.out
           exact AllReadyH.nil
         exact AllReadyH.nil
       exact AllReadyH.nil
     refine AllReadyH.cons (o := ⟨some 100, _, _, _, _, _⟩) rfl (fun K hK => ?_) ?_
     · go_simp
       refine hK.out _ _ ?_ (fun hHeld => ?_)
       · trivial
       clear hK K
       try simp only [Act.put, putA, putZ, putS]
       refine wpAnyH_ready (rs := [4]) (by kernel_rfl) (by simp) ?_
       refine AllReadyH.cons (o := ⟨some 98, _, _, _, _, _⟩) rfl (fun K hK => ?_) ?_
       · go_simp
         refine hK.out _ _ ?_ (fun hHeld => ?_)
         · trivial
         clear hK K
         try simp only [Act.put, putA, putZ, putS]
         refine wpAnyH_ready (rs := [7]) (by kernel_rfl) (by simp) ?_
         refine AllReadyH.cons (o := ⟨some 101, _, _, _, _, _⟩) rfl (fun K hK => ?_) ?_
         · refine wp_append_own _ _ _ 57 rfl B 56 i0 (.agg #[.int .i64 0, .int .i64 0, .int .i64 0, .string ByteArray.empty, .string ByteArray.empty, .bool false, .int .i64 0, .int .i64 0, .int .i64 0, .int .i64 0, .int .i64 0, .int .i64 0, .int .i64 0]) 13 120 Tryz.underlying57 hi0 hz0 hz1 hz2 rfl (by decide) (.slice av ne cv) ne (eraRow z.es) rfl (own_past hVo6 isext) _ 1 1 [.int .i64 (Src.offP (Src.tl ws 0) 86400).1, .int .i64 2, .int .i64 0, .string (Src.tx ws 1), .string (Src.tx ws 2), .bool false, .int .i64 0, .int .i64 0, .int .i64 0, .int .i64 0, .int .i64 0, .int .i64 0, .int .i64 0] rfl rfl (new_cells' _ _ _ _ (by simp)) (by simp [Value.oneCell']) (by unfold maxLen; omega) (by omega) (leB (a := w.setCell ⟨b, 6, none⟩ (.bool false)) (by rw [World.size_setCell]; exact hBs)) (fun v' w1 hown1 hgrow1 _ => ?_); obtain ⟨av', cap', rfl⟩ := owns_shape hown1; have hF := Lib.hid (rd_era (x := ⟨(Src.offP (Src.tl ws 0) 86400).1, 2, 0, (Src.tx ws 1), Src.tx ws 2, false, 0, 0, 0, 0, 0, 0, 0⟩) (wb := wb) (ext_flag hxb hge hblk) hge hblk6 htree6 hwords6 isext hBb hlow hV6 (by rw [hne1]; unfold eraRow; rw [rowOf_snoc]; exact hown1) hgrow1 hgz); rw [hnzi] at hF; have hB1 := own_other (own_past (by have := htree6.zones; rw [hnz] at this; exact this) isext) (own_past hVo6 isext) (by decide) hgrow1; have c0' := (tree_cell_of hB1 hgz hnzi).1; have f0' := (tree_cell_of hB1 hgz hnzi).2; have i0' : InW gz w1 := ⟨(hB1.lt gz hgz).2⟩; clear hB1
           refine hK.out _ _ ?_ (fun hHeld => ?_)
           · trivial
           clear hK K
           try simp only [Act.put, putA, putZ, putS]
           refine wpAnyH_take (i := 8) (oi := ⟨some 102, _, _, _, _, _⟩) (v := ?_) rfl (by kernel_rfl) (by kernel_rfl) (by kernel_rfl) (fun _ _ _ h => h) (Or.inl ⟨by rfl, ?_⟩) (by assumption) ?_
           rotate_left
           · intro w _; go_simp; first | done | (with_reducible rfl)
           try simp only [Act.put, putA, putZ, putS]
           refine wpAnyH_take (i := 9) (oi := ⟨some 103, _, _, _, _, _⟩) (v := ?_) rfl (by kernel_rfl) (by kernel_rfl) (by kernel_rfl) (fun _ _ _ h => h) (Or.inl ⟨by rfl, ?_⟩) (by assumption) ?_
           rotate_left
           · intro w _; go_simp; first | done | (with_reducible rfl)
           try simp only [Act.put, putA, putZ, putS]
           refine wpAnyH_ready (rs := [10]) (by kernel_rfl) (by simp) ?_
           refine AllReadyH.cons (o := ⟨none, _, _, _, _, _⟩) rfl (fun K hK => ?_) ?_
           · go_simp
             refine hK.out _ _ ?_ (fun hHeld => ?_)
             · trivial
             clear hK K
             try simp only [Act.put, putA, putZ, putS]
             refine wpAnyH_done (by kernel_rfl) ?_ _
             go_wp2
             go_end0
             exact rd_good (by rw [Hres.out]; simp [Src.eraP, Src.kindP, Src.untilP, Src.noSpot, hk, hop, hs1, o0, hf, hu']) hF.out
           exact AllReadyH.nil
         exact AllReadyH.nil
       exact AllReadyH.nil
     exact AllReadyH.nil
   exact AllReadyH.nil
 · have hu' : ¬ ws.length ≤ 3 := by omega
   have gU : (3 : Int) < n := by omega
   go_wp2_with fail
   go_at_call 87
   have HY := HYr 3 (by omega)
   by_cases u3 : Src.yearP (Src.tl ws 3) = 0
   · rw [if_pos u3] at HY
     refine (HY _ isext).out.bad ?_
     intro y
     go_wp2
     exact bodyPost_panic rfl (rd_bad (by rw [Hres.out]; simp [Src.eraP, Src.kindP, Src.untilP, hk, hop, hs1, o0, hf, hu', u3]) (hxb.trans isext))
   rw [if_neg u3] at HY
   refine (HY _ isext).out.good ?_
   intro y7
   clear HY
   go_wp2_with fail
   go_at_call 88
   have HS := HSp 4 (by omega)
   unfold Src.spotG at HS
   cases hsp : Src.spotP ws 4 with
   | inl q =>
     obtain ⟨k, e⟩ := q
     rw [hsp] at HS
     refine (HS _ isext).out.bad ?_
     intro y
     go_wp2
     exact bodyPost_panic rfl (rd_bad (by rw [Hres.out]; simp [Src.eraP, Src.kindP, Src.untilP, hk, hop, hs1, o0, hf, hu', u3, hsp]) (hxb.trans isext))
   | inr x =>
     rw [hsp] at HS
     obtain ⟨xm, xk, xwd, xd, xt, xr⟩ := x
     simp only [Spot.cells] at HS
     refine (HS _ isext).out.good ?_
     intro y8
     clear HS
     go_wp2_with fail
     refine wp_with_ext (A := w.setCell ⟨b, 6, none⟩ (.bool true)) (ext_store isext _) (fun hEx => ?_)
     obtain ⟨hblk6, htree6, hwords6⟩ := rd_flag (op' := true) hblk htree hwords
     have hV6 : (w.setCell ⟨b, 6, none⟩ (.bool true)).ownsRow B 56 13 (.slice av ne cv) z.es.length (eraRow z.es) := own_store hV (own_blk hblk (own_base hV (by omega)) (by decide))
     have hVo6 := hV6
     rw [hne1] at hVo6
     refine wp_region_past (by kernel_rfl) (by kernel_rfl) ?_
     repeat (go_big_quiet_step (fail))
     refine wpQuiet_nil ?_
     intro yR
     go_wp2_with fail
     refine wp_region_held_drew (S := fun _ => True) (by kernel_rfl) trivial (fun hHeld => ?_)
     refine wpAnyH_take (i := 0) (oi := ⟨some 94, _, _, _, _, _⟩) (v := ?_) rfl (by kernel_rfl) (by kernel_rfl) (by kernel_rfl) (fun _ _ _ h => h) (Or.inl ⟨by rfl, ?_⟩) (by assumption) ?_
     rotate_left
     · intro w _; go_simp; first | done | (with_reducible rfl)
     try simp only [Act.put, putA, putZ, putS]
     refine wpAnyH_take (i := 1) (oi := ⟨some 95, _, _, _, _, _⟩) (v := ?_) rfl (by kernel_rfl) (by kernel_rfl) (by kernel_rfl) (fun _ _ _ h => h) (Or.inl ⟨by rfl, ?_⟩) (by assumption) ?_
     rotate_left
     · intro w _; go_simp; first | done | (with_reducible rfl)
     try simp only [Act.put, putA, putZ, putS]
     refine wpAnyH_take (i := 2) (oi := ⟨some 96, _, _, _, _, _⟩) (v := ?_) rfl (by kernel_rfl) (by kernel_rfl) (by kernel_rfl) (fun _ _ _ h => h) (Or.inl ⟨by rfl, ?_⟩) (by assumption) ?_
     rotate_left
     · intro w _; go_simp; first | done | (with_reducible rfl)
     try simp only [Act.put, putA, putZ, putS]
     refine wpAnyH_take (i := 3) (oi := ⟨some 97, _, _, _, _, _⟩) (v := ?_) rfl (by kernel_rfl) (by kernel_rfl) (by kernel_rfl) (fun _ _ _ h => h) (Or.inl ⟨by rfl, ?_⟩) (by assumption) ?_
     rotate_left
     · intro w _; go_simp; first | done | (with_reducible rfl)
     try simp only [Act.put, putA, putZ, putS]
     refine wpAnyH_ready (rs := [4, 5]) (by kernel_rfl) (by simp) ?_
     refine AllReadyH.cons (o := ⟨some 98, _, _, _, _, _⟩) rfl (fun K hK => ?_) ?_
     · go_simp
       refine hK.out _ _ ?_ (fun hHeld => ?_)
       · trivial
       clear hK K
       try simp only [Act.put, putA, putZ, putS]
       refine wpAnyH_ready (rs := [5]) (by kernel_rfl) (by simp) ?_
       refine AllReadyH.cons (o := ⟨some 99, _, _, _, _, _⟩) rfl (fun K hK => ?_) ?_
       · go_simp
         refine hK.out _ _ ?_ (fun hHeld => ?_)
         · trivial
         clear hK K
         try simp only [Act.put, putA, putZ, putS]
         refine wpAnyH_ready (rs := [6]) (by kernel_rfl) (by simp) ?_
         refine AllReadyH.cons (o := ⟨some 100, _, _, _, _, _⟩) rfl (fun K hK => ?_) ?_
         · go_simp
           refine hK.out _ _ ?_ (fun hHeld => ?_)
           · trivial
           clear hK K
           try simp only [Act.put, putA, putZ, putS]
           refine wpAnyH_ready (rs := [7]) (by kernel_rfl) (by simp) ?_
           refine AllReadyH.cons (o := ⟨some 101, _, _, _, _, _⟩) rfl (fun K hK => ?_) ?_
           · refine wp_append_own _ _ _ 57 rfl B 56 i0 (.agg #[.int .i64 0, .int .i64 0, .int .i64 0, .string ByteArray.empty, .string ByteArray.empty, .bool false, .int .i64 0, .int .i64 0, .int .i64 0, .int .i64 0, .int .i64 0, .int .i64 0, .int .i64 0]) 13 120 Tryz.underlying57 hi0 hz0 hz1 hz2 rfl (by decide) (.slice av ne cv) ne (eraRow z.es) rfl (own_past hVo6 isext) _ 1 1 [.int .i64 (Src.offP (Src.tl ws 0) 86400).1, .int .i64 2, .int .i64 0, .string (Src.tx ws 1), .string (Src.tx ws 2), .bool true, .int .i64 (Src.yearP (Src.tl ws 3)), .int .i64 xm, .int .i64 xk, .int .i64 xwd, .int .i64 xd, .int .i64 xt, .int .i64 xr] rfl rfl (new_cells' _ _ _ _ (by simp)) (by simp [Value.oneCell']) (by unfold maxLen; omega) (by omega) (leB (a := w.setCell ⟨b, 6, none⟩ (.bool true)) (by rw [World.size_setCell]; exact hBs)) (fun v' w1 hown1 hgrow1 _ => ?_); obtain ⟨av', cap', rfl⟩ := owns_shape hown1; have hF := Lib.hid (rd_era (x := ⟨(Src.offP (Src.tl ws 0) 86400).1, 2, 0, (Src.tx ws 1), Src.tx ws 2, true, (Src.yearP (Src.tl ws 3)), xm, xk, xwd, xd, xt, xr⟩) (wb := wb) (ext_flag hxb hge hblk) hge hblk6 htree6 hwords6 isext hBb hlow hV6 (by rw [hne1]; unfold eraRow; rw [rowOf_snoc]; exact hown1) hgrow1 hgz); rw [hnzi] at hF; have hB1 := own_other (own_past (by have := htree6.zones; rw [hnz] at this; exact this) isext) (own_past hVo6 isext) (by decide) hgrow1; have c0' := (tree_cell_of hB1 hgz hnzi).1; have f0' := (tree_cell_of hB1 hgz hnzi).2; have i0' : InW gz w1 := ⟨(hB1.lt gz hgz).2⟩; clear hB1
             refine hK.out _ _ ?_ (fun hHeld => ?_)
             · trivial
             clear hK K
             try simp only [Act.put, putA, putZ, putS]
             refine wpAnyH_take (i := 8) (oi := ⟨some 102, _, _, _, _, _⟩) (v := ?_) rfl (by kernel_rfl) (by kernel_rfl) (by kernel_rfl) (fun _ _ _ h => h) (Or.inl ⟨by rfl, ?_⟩) (by assumption) ?_
             rotate_left
             · intro w _; go_simp; first | done | (with_reducible rfl)
             try simp only [Act.put, putA, putZ, putS]
             refine wpAnyH_take (i := 9) (oi := ⟨some 103, _, _, _, _, _⟩) (v := ?_) rfl (by kernel_rfl) (by kernel_rfl) (by kernel_rfl) (fun _ _ _ h => h) (Or.inl ⟨by rfl, ?_⟩) (by assumption) ?_
             rotate_left
             · intro w _; go_simp; first | done | (with_reducible rfl)
             try simp only [Act.put, putA, putZ, putS]
             refine wpAnyH_ready (rs := [10]) (by kernel_rfl) (by simp) ?_
             refine AllReadyH.cons (o := ⟨none, _, _, _, _, _⟩) rfl (fun K hK => ?_) ?_
             · go_simp
               refine hK.out _ _ ?_ (fun hHeld => ?_)
               · trivial
               clear hK K
               try simp only [Act.put, putA, putZ, putS]
               refine wpAnyH_done (by kernel_rfl) ?_ _
               go_wp2
               go_end0
               exact rd_good (by rw [Hres.out]; simp [Src.eraP, Src.kindP, Src.untilP, Src.noSpot, hk, hop, hs1, o0, hf, hu', u3, hsp]) hF.out
             exact AllReadyH.nil
           exact AllReadyH.nil
         exact AllReadyH.nil
       exact AllReadyH.nil
     refine AllReadyH.cons (o := ⟨some 99, _, _, _, _, _⟩) rfl (fun K hK => ?_) ?_
     · go_simp
       refine hK.out _ _ ?_ (fun hHeld => ?_)
       · trivial
       clear hK K
       try simp only [Act.put, putA, putZ, putS]
       refine wpAnyH_ready (rs := [4, 6]) (by kernel_rfl) (by simp) ?_
       refine AllReadyH.cons (o := ⟨some 98, _, _, _, _, _⟩) rfl (fun K hK => ?_) ?_
       · go_simp
         refine hK.out _ _ ?_ (fun hHeld => ?_)
         · trivial
         clear hK K
         try simp only [Act.put, putA, putZ, putS]
         refine wpAnyH_ready (rs := [6]) (by kernel_rfl) (by simp) ?_
         refine AllReadyH.cons (o := ⟨some 100, _, _, _, _, _⟩) rfl (fun K hK => ?_) ?_
         · go_simp
           refine hK.out _ _ ?_ (fun hHeld => ?_)
           · trivial
           clear hK K
           try simp only [Act.put, putA, putZ, putS]
           refine wpAnyH_ready (rs := [7]) (by kernel_rfl) (by simp) ?_
           refine AllReadyH.cons (o := ⟨some 101, _, _, _, _, _⟩) rfl (fun K hK => ?_) ?_
           · refine wp_append_own _ _ _ 57 rfl B 56 i0 (.agg #[.int .i64 0, .int .i64 0, .int .i64 0, .string ByteArray.empty, .string ByteArray.empty, .bool false, .int .i64 0, .int .i64 0, .int .i64 0, .int .i64 0, .int .i64 0, .int .i64 0, .int .i64 0]) 13 120 Tryz.underlying57 hi0 hz0 hz1 hz2 rfl (by decide) (.slice av ne cv) ne (eraRow z.es) rfl (own_past hVo6 isext) _ 1 1 [.int .i64 (Src.offP (Src.tl ws 0) 86400).1, .int .i64 2, .int .i64 0, .string (Src.tx ws 1), .string (Src.tx ws 2), .bool true, .int .i64 (Src.yearP (Src.tl ws 3)), .int .i64 xm, .int .i64 xk, .int .i64 xwd, .int .i64 xd, .int .i64 xt, .int .i64 xr] rfl rfl (new_cells' _ _ _ _ (by simp)) (by simp [Value.oneCell']) (by unfold maxLen; omega) (by omega) (leB (a := w.setCell ⟨b, 6, none⟩ (.bool true)) (by rw [World.size_setCell]; exact hBs)) (fun v' w1 hown1 hgrow1 _ => ?_); obtain ⟨av', cap', rfl⟩ := owns_shape hown1; have hF := Lib.hid (rd_era (x := ⟨(Src.offP (Src.tl ws 0) 86400).1, 2, 0, (Src.tx ws 1), Src.tx ws 2, true, (Src.yearP (Src.tl ws 3)), xm, xk, xwd, xd, xt, xr⟩) (wb := wb) (ext_flag hxb hge hblk) hge hblk6 htree6 hwords6 isext hBb hlow hV6 (by rw [hne1]; unfold eraRow; rw [rowOf_snoc]; exact hown1) hgrow1 hgz); rw [hnzi] at hF; have hB1 := own_other (own_past (by have := htree6.zones; rw [hnz] at this; exact this) isext) (own_past hVo6 isext) (by decide) hgrow1; have c0' := (tree_cell_of hB1 hgz hnzi).1; have f0' := (tree_cell_of hB1 hgz hnzi).2; have i0' : InW gz w1 := ⟨(hB1.lt gz hgz).2⟩; clear hB1
             refine hK.out _ _ ?_ (fun hHeld => ?_)
             · trivial
             clear hK K
             try simp only [Act.put, putA, putZ, putS]
             refine wpAnyH_take (i := 8) (oi := ⟨some 102, _, _, _, _, _⟩) (v := ?_) rfl (by kernel_rfl) (by kernel_rfl) (by kernel_rfl) (fun _ _ _ h => h) (Or.inl ⟨by rfl, ?_⟩) (by assumption) ?_
             rotate_left
             · intro w _; go_simp; first | done | (with_reducible rfl)
             try simp only [Act.put, putA, putZ, putS]
             refine wpAnyH_take (i := 9) (oi := ⟨some 103, _, _, _, _, _⟩) (v := ?_) rfl (by kernel_rfl) (by kernel_rfl) (by kernel_rfl) (fun _ _ _ h => h) (Or.inl ⟨by rfl, ?_⟩) (by assumption) ?_
             rotate_left
             · intro w _; go_simp; first | done | (with_reducible rfl)
             try simp only [Act.put, putA, putZ, putS]
             refine wpAnyH_ready (rs := [10]) (by kernel_rfl) (by simp) ?_
             refine AllReadyH.cons (o := ⟨none, _, _, _, _, _⟩) rfl (fun K hK => ?_) ?_
             · go_simp
               refine hK.out _ _ ?_ (fun hHeld => ?_)
               · trivial
               clear hK K
               try simp only [Act.put, putA, putZ, putS]
               refine wpAnyH_done (by kernel_rfl) ?_ _
               go_wp2
               go_end0
               exact rd_good (by rw [Hres.out]; simp [Src.eraP, Src.kindP, Src.untilP, Src.noSpot, hk, hop, hs1, o0, hf, hu', u3, hsp]) hF.out
             exact AllReadyH.nil
           exact AllReadyH.nil
         exact AllReadyH.nil
       refine AllReadyH.cons (o := ⟨some 100, _, _, _, _, _⟩) rfl (fun K hK => ?_) ?_
       · go_simp
         refine hK.out _ _ ?_ (fun hHeld => ?_)
         · trivial
         clear hK K
         try simp only [Act.put, putA, putZ, putS]
         refine wpAnyH_ready (rs := [4]) (by kernel_rfl) (by simp) ?_
         refine AllReadyH.cons (o := ⟨some 98, _, _, _, _, _⟩) rfl (fun K hK => ?_) ?_
         · go_simp
           refine hK.out _ _ ?_ (fun hHeld => ?_)
           · trivial
           clear hK K
           try simp only [Act.put, putA, putZ, putS]
           refine wpAnyH_ready (rs := [7]) (by kernel_rfl) (by simp) ?_
           refine AllReadyH.cons (o := ⟨some 101, _, _, _, _, _⟩) rfl (fun K hK => ?_) ?_
           · refine wp_append_own _ _ _ 57 rfl B 56 i0 (.agg #[.int .i64 0, .int .i64 0, .int .i64 0, .string ByteArray.empty, .string ByteArray.empty, .bool false, .int .i64 0, .int .i64 0, .int .i64 0, .int .i64 0, .int .i64 0, .int .i64 0, .int .i64 0]) 13 120 Tryz.underlying57 hi0 hz0 hz1 hz2 rfl (by decide) (.slice av ne cv) ne (eraRow z.es) rfl (own_past hVo6 isext) _ 1 1 [.int .i64 (Src.offP (Src.tl ws 0) 86400).1, .int .i64 2, .int .i64 0, .string (Src.tx ws 1), .string (Src.tx ws 2), .bool true, .int .i64 (Src.yearP (Src.tl ws 3)), .int .i64 xm, .int .i64 xk, .int .i64 xwd, .int .i64 xd, .int .i64 xt, .int .i64 xr] rfl rfl (new_cells' _ _ _ _ (by simp)) (by simp [Value.oneCell']) (by unfold maxLen; omega) (by omega) (leB (a := w.setCell ⟨b, 6, none⟩ (.bool true)) (by rw [World.size_setCell]; exact hBs)) (fun v' w1 hown1 hgrow1 _ => ?_); obtain ⟨av', cap', rfl⟩ := owns_shape hown1; have hF := Lib.hid (rd_era (x := ⟨(Src.offP (Src.tl ws 0) 86400).1, 2, 0, (Src.tx ws 1), Src.tx ws 2, true, (Src.yearP (Src.tl ws 3)), xm, xk, xwd, xd, xt, xr⟩) (wb := wb) (ext_flag hxb hge hblk) hge hblk6 htree6 hwords6 isext hBb hlow hV6 (by rw [hne1]; unfold eraRow; rw [rowOf_snoc]; exact hown1) hgrow1 hgz); rw [hnzi] at hF; have hB1 := own_other (own_past (by have := htree6.zones; rw [hnz] at this; exact this) isext) (own_past hVo6 isext) (by decide) hgrow1; have c0' := (tree_cell_of hB1 hgz hnzi).1; have f0' := (tree_cell_of hB1 hgz hnzi).2; have i0' : InW gz w1 := ⟨(hB1.lt gz hgz).2⟩; clear hB1
             refine hK.out _ _ ?_ (fun hHeld => ?_)
             · trivial
             clear hK K
             try simp only [Act.put, putA, putZ, putS]
             refine wpAnyH_take (i := 8) (oi := ⟨some 102, _, _, _, _, _⟩) (v := ?_) rfl (by kernel_rfl) (by kernel_rfl) (by kernel_rfl) (fun _ _ _ h => h) (Or.inl ⟨by rfl, ?_⟩) (by assumption) ?_
             rotate_left
             · intro w _; go_simp; first | done | (with_reducible rfl)
             try simp only [Act.put, putA, putZ, putS]
             refine wpAnyH_take (i := 9) (oi := ⟨some 103, _, _, _, _, _⟩) (v := ?_) rfl (by kernel_rfl) (by kernel_rfl) (by kernel_rfl) (fun _ _ _ h => h) (Or.inl ⟨by rfl, ?_⟩) (by assumption) ?_
             rotate_left
             · intro w _; go_simp; first | done | (with_reducible rfl)
             try simp only [Act.put, putA, putZ, putS]
             refine wpAnyH_ready (rs := [10]) (by kernel_rfl) (by simp) ?_
             refine AllReadyH.cons (o := ⟨none, _, _, _, _, _⟩) rfl (fun K hK => ?_) ?_
             · go_simp
               refine hK.out _ _ ?_ (fun hHeld => ?_)
               · trivial
               clear hK K
               try simp only [Act.put, putA, putZ, putS]
               refine wpAnyH_done (by kernel_rfl) ?_ _
               go_wp2
               go_end0
               exact rd_good (by rw [Hres.out]; simp [Src.eraP, Src.kindP, Src.untilP, Src.noSpot, hk, hop, hs1, o0, hf, hu', u3, hsp]) hF.out
             exact AllReadyH.nil
           exact AllReadyH.nil
         exact AllReadyH.nil
       exact AllReadyH.nil
     exact AllReadyH.nil
end Go.Proofs.YtdhbgelijjlifaaGreatDoor
