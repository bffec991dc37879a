/- Walks of sources: the reader's rule. -/
import Derived.Test.YtdhbgelijjlifaaGreatDoorSrcRdQ
set_option linter.unusedVariables false
set_option linter.unusedSimpArgs false
namespace Go.Proofs.YtdhbgelijjlifaaGreatDoor
open Go.RowKit Go.Shelf
set_option maxRecDepth 100000 in
set_option maxHeartbeats 60000000 in
theorem prule_max (wb : Frm) (w : World) (b : Nat) (S : Source) (line : Int) (all : ByteArray) (ws : List Src.Wd) (hg : GoodW w) (h : Rd wb w b S line all ws) (hs : ∀ x ∈ ws, x.1.size ≤ 1000) (hw0 : 0 < ws.length) (hw16 : ws.length ≤ 100) (hall : all.size ≤ 1048576) (t1 : (Src.tx ws 3 == ⟨#[111, 110, 108, 121]⟩) = false) (t2 : ((Src.tx ws 3).toList == [111, 110, 108, 121]) = false) (t4 : (Src.tx ws 3 == ⟨#[109, 97, 120]⟩) = true) (t5 : ((Src.tx ws 3).toList == [109, 97, 120]) = true) (hto : Src.toP ws = 1000000) :
 Calls Tryz.prog 49 #[.pointer (some ⟨b, 0, none⟩)] w (RdEnd wb b line all ws (Src.ruleLineP S ws all.size line)) := by
 obtain ⟨i0, hi0, hz0, hz1, hz2⟩ := info_partsS Tryz.infoRuleS
 obtain ⟨hxb, hge, vr, vz, vl, lv, zp, Bw, hblk, htree, hwords⟩ := h
 have L := rdl_of hblk hwords
 have hlw : ∀ i, (Src.tx ws i).size ≤ 1048576 := fun i => Nat.le_trans (tx_size hs i) (by omega)
 have HRm := fun hv most w' (hx : Ext w w') => Lib.hid (proom_any b line all ws hw0 hv most w' (L.ext hx))
 have HMn := fun w' (hx : Ext w w') => Lib.hid (pmany_any b line all ws 10 10 (by omega) (by omega) (by omega) w' (L.ext hx))
 have HNd := fun i hi ok w' (hx : Ext w w') => Lib.hid (pneed_any b line all ws i hi ok w' (L.ext hx))
 have HYr := fun i hi w' (hx : Ext w w') => Lib.hid (pyear_any b line all ws i hi (hlw i) w' (hg.ext hx) (L.ext hx))
 have HSp := fun i hi w' (hx : Ext w w') => Lib.hid (pspot_any b line all ws i hi hw0 hw16 hs w' (hg.ext hx) (L.ext hx))
 have HOf := fun i hi w' (hx : Ext w w') => Lib.hid (poffset_any b line all ws i hi (hlw i) 43200 (by omega) (by omega) w' (L.ext hx))
 have HSt : ∀ w, Hid (Rets Tryz.prog 12 #[.string (Src.tx ws 1)] w (.bool (Src.setB (Src.tl ws 1)))) := fun w => Lib.hid (sset_any (Src.tx ws 1) (by have := hlw 1; unfold maxLen; omega) w)
 have HMd : ∀ w, Hid (Rets Tryz.prog 28 #[.string (Src.tx ws 9), .int .i64 8, .string ⟨#[43, 45]⟩] w (.bool (Src.madeB (Src.tl ws 9) 8 [43, 45]))) := fun w => Lib.hid (made_any (Src.tx ws 9) ⟨#[43, 45]⟩ 8 (by have := hlw 9; unfold maxLen; omega) w)
 have hres : Src.ruleLineP S ws all.size line = if 200 ≤ S.rules.length then .inl ⟨12, line, Src.pt ws 0⟩
  else match Src.countP ws all.size line 10 10 with
   | some f => .inl f
   | none => match Src.ruleP ws line with
     | .inl f => .inl f
     | .inr x => .inr ⟨S.rules ++ [x], S.zones, S.links⟩ := rfl
 generalize Src.ruleLineP S ws all.size line = OUT at *
 obtain ⟨h1, h2, h3, lv', h4, h5⟩ := L
 haveI : InW b w := ⟨h1⟩
 have e5 : lv' = lv := by have := (hblk.cell 5).symm.trans h4; simpa using this.symm
 subst e5
 have c0 : w.cell? ⟨b, 0, none⟩ = some vr := (hblk.cell 0).trans rfl
 obtain ⟨nr, hnr⟩ : ∃ n, S.rules.length = n := ⟨_, rfl⟩
 have hro := htree.rules
 rw [hnr] at hro hres
 obtain ⟨ar, cr, rfl⟩ := owns_shape hro
 have b1 := len_of (owns_reads hro (by decide))
 have Hres := Lib.hid hres
 clear hres
 go_enter Tryz.func49, Tryz.ntmps49
 go_wp2_with fail
 go_at_call 83
 by_cases q1 : 200 ≤ nr
 · have HR := HRm nr 200
   rw [if_pos q1] at HR
   refine (HR _ isext).out.bad ?_
   intro y
   go_wp2
   exact bodyPost_panic rfl (rd_bad (by rw [Hres.out, if_pos q1]) (hxb.trans isext))
 have HR := HRm nr 200
 rw [if_neg q1] at HR
 refine (HR _ isext).out.good ?_
 intro y1
 clear HR HRm
 go_wp2_with fail
 go_at_call 84
 cases hc : Src.countP ws all.size line 10 10 with
 | some f =>
   rw [hc] at HMn
   refine (HMn _ isext).out.bad ?_
   intro y
   go_wp2
   exact bodyPost_panic rfl (rd_bad (by rw [Hres.out, if_neg q1, hc]) (hxb.trans isext))
 | none =>
   rw [hc] at HMn
   refine (HMn _ isext).out.good ?_
   intro y2
   clear HMn
   have hn10 : ws.length = 10 := by
    unfold Src.countP at hc
    split at hc
    · cases hc
    · split at hc
      · cases hc
      · omega
   rw [hn10] at h5
   rcases h5 with ⟨_, _, e9, h9, _⟩ | ⟨bl, o, c9, e9, k1, k2, m1', hcw⟩
   · exact absurd h9 (by omega)
   subst e9
   haveI : InW bl w := ⟨m1'⟩
   obtain ⟨d1, -⟩ := wd_at hcw 1 (by omega)
   obtain ⟨d3, -⟩ := wd_at hcw 3 (by omega)
   obtain ⟨d4, -⟩ := wd_at hcw 4 (by omega)
   obtain ⟨d9, -⟩ := wd_at hcw 9 (by omega)
   clear hcw
   simp only [Nat.reduceMul] at d1 d3 d4 d9
   go_wp2_with (go_at_call 12; refine Rets.use (HSt _).out ?_; intro y3)
   go_at_call 86
   cases hs1 : Src.setB (Src.tl ws 1)
   · have HN := HNd 1 (by omega) false
     simp only [Bool.false_eq_true, if_false] at HN
     try rw [hs1]
     refine (HN _ isext).out.bad ?_
     intro y
     go_wp2
     exact bodyPost_panic rfl (rd_bad (by rw [Hres.out, if_neg q1, hc]; simp [Src.ruleP, hs1]) (hxb.trans isext))
   have HN1 := HNd 1 (by omega) true
   simp only [if_true] at HN1
   try rw [hs1]
   refine (HN1 _ isext).out.good ?_
   intro y4
   clear HN1
   go_wp2_with fail
   go_at_call 87
   have HY := HYr 2 (by omega)
   by_cases u0 : Src.yearP (Src.tl ws 2) = 0
   · rw [if_pos u0] at HY
     refine (HY _ isext).out.bad ?_
     intro y
     go_wp2
     exact bodyPost_panic rfl (rd_bad (by rw [Hres.out, if_neg q1, hc]; simp [Src.ruleP, hs1, u0]) (hxb.trans isext))
   rw [if_neg u0] at HY
   refine (HY _ isext).out.good ?_
   intro y5
   clear HY
   have hT0 : ¬ Src.toP ws = 0 := by rw [hto]; decide
   rcases lit_cases (Src.tx ws 4) ⟨#[45]⟩ [45] (by decide +kernel) with ⟨t1, t2, t3⟩ | ⟨t1, t2, t3⟩
   rotate_left
   · have e4 : ¬ Src.tl ws 4 = [45] := t3
     clear t3
     have HN := HNd 4 (by omega) false
     simp only [Bool.false_eq_true, if_false] at HN
     go_wp2_with fail
     go_at_call 86
     refine (HN _ isext).out.bad ?_
     intro y
     go_wp2
     exact bodyPost_panic rfl (rd_bad (by rw [Hres.out, if_neg q1, hc]; simp [Src.ruleP, hs1, u0, hto, e4]) (hxb.trans isext))
   have e4 : Src.tl ws 4 = [45] := by unfold Src.tl; rw [t3]
   clear t3
   have HN4 := HNd 4 (by omega) true
   simp only [if_true] at HN4
   go_wp2_with fail
   go_at_call 86
   refine (HN4 _ isext).out.good ?_
   intro y6
   clear HN4 t1 t2
   go_wp2_with fail
   go_at_call 88
   have HS := HSp 5 (by omega)
   unfold Src.spotG at HS
   cases hsp : Src.spotP ws 5 with
   | inl q =>
     obtain ⟨k, e⟩ := q
     rw [hsp] at HS
     refine (HS _ isext).out.bad ?_
     intro y
     go_wp2
     exact bodyPost_panic rfl (rd_bad (by rw [Hres.out, if_neg q1, hc]; simp [Src.ruleP, hs1, u0, hto, e4, hsp]) (hxb.trans isext))
   | inr x =>
     rw [hsp] at HS
     obtain ⟨xm, xk, xwd, xd, xt, xr⟩ := x
     simp only [Spot.cells] at HS
     refine (HS _ isext).out.good ?_
     intro y7
     clear HS
     go_wp2_with fail
     go_at_call 89
     have HO := HOf 8 (by omega)
     by_cases o0 : (Src.offP (Src.tl ws 8) 43200).2 = 0
     rotate_left
     · rw [if_neg o0] at HO
       refine (HO _ isext).out.bad ?_
       intro y
       go_wp2
       exact bodyPost_panic rfl (rd_bad (by rw [Hres.out, if_neg q1, hc]; simp [Src.ruleP, hs1, u0, hto, e4, hsp, o0]) (hxb.trans isext))
     rw [if_pos o0] at HO
     refine (HO _ isext).out.good ?_
     intro y8
     clear HO
     go_wp2_with (go_at_call 28; refine Rets.use (HMd _).out ?_; intro y9)
     go_at_call 86
     cases hm9 : Src.madeB (Src.tl ws 9) 8 [43, 45]
     · have HN := HNd 9 (by omega) false
       simp only [Bool.false_eq_true, if_false] at HN
       try rw [hm9]
       refine (HN _ isext).out.bad ?_
       intro y
       go_wp2
       exact bodyPost_panic rfl (rd_bad (by rw [Hres.out, if_neg q1, hc]; simp [Src.ruleP, hs1, u0, hto, e4, hsp, o0, hm9]) (hxb.trans isext))
     have HN9 := HNd 9 (by omega) true
     simp only [if_true] at HN9
     try rw [hm9]
     refine (HN9 _ isext).out.good ?_
     intro y10
     clear HN9
     rcases lit_cases (Src.tx ws 9) ⟨#[45]⟩ [45] (by decide +kernel) with ⟨t1, t2, t3⟩ | ⟨t1, t2, t3⟩
     · have e9 : Src.tl ws 9 = [45] := by unfold Src.tl; rw [t3]
       clear t3
       go_wp2_with fail
       refine wp_region_held_drew (S := fun _ => True) (by kernel_rfl) trivial (fun hHeld => ?_)
       refine wpAnyH_take (i := 0) (oi := ⟨some 76, _, _, _, _, _⟩) (v := ?_) rfl (by kernel_rfl) (by kernel_rfl) (by kernel_rfl) (fun _ _ _ h => h) (Or.inl ⟨by rfl, ?_⟩) (by assumption) ?_
       rotate_left
       · intro w _; go_simp; first | done | (with_reducible rfl)
       try simp only [Act.put, putA, putZ, putS]
       refine wpAnyH_take (i := 1) (oi := ⟨some 77, _, _, _, _, _⟩) (v := ?_) rfl (by kernel_rfl) (by kernel_rfl) (by kernel_rfl) (fun _ _ _ h => h) (Or.inl ⟨by rfl, ?_⟩) (by assumption) ?_
       rotate_left
       · intro w _; go_simp; first | done | (with_reducible rfl)
       try simp only [Act.put, putA, putZ, putS]
       refine wpAnyH_take (i := 2) (oi := ⟨some 78, _, _, _, _, _⟩) (v := ?_) rfl (by kernel_rfl) (by kernel_rfl) (by kernel_rfl) (fun _ _ _ h => h) (Or.inl ⟨by rfl, ?_⟩) (by assumption) ?_
       rotate_left
       · intro w _; go_simp; first | done | (with_reducible rfl)
       try simp only [Act.put, putA, putZ, putS]
       refine wpAnyH_take (i := 3) (oi := ⟨some 79, _, _, _, _, _⟩) (v := ?_) rfl (by kernel_rfl) (by kernel_rfl) (by kernel_rfl) (fun _ _ _ h => h) (Or.inl ⟨by rfl, ?_⟩) (by assumption) ?_
       rotate_left
       · intro w _; go_simp; first | done | (with_reducible rfl)
       try simp only [Act.put, putA, putZ, putS]
       refine wpAnyH_take (i := 4) (oi := ⟨some 80, _, _, _, _, _⟩) (v := ?_) rfl (by kernel_rfl) (by kernel_rfl) (by kernel_rfl) (fun _ _ _ h => h) (Or.inl ⟨by rfl, ?_⟩) (by assumption) ?_
       rotate_left
       · intro w _; go_simp; first | done | (with_reducible rfl)
       try simp only [Act.put, putA, putZ, putS]
       refine wpAnyH_ready (rs := [5, 6]) (by kernel_rfl) (by simp) ?_
       refine AllReadyH.cons (o := ⟨some 81, _, _, _, _, _⟩) rfl (fun K hK => ?_) ?_
       · go_simp
         refine hK.out _ _ ?_ (fun hHeld => ?_)
         · trivial
         clear hK K
         try simp only [Act.put, putA, putZ, putS]
         refine wpAnyH_ready (rs := [6]) (by kernel_rfl) (by simp) ?_
         refine AllReadyH.cons (o := ⟨some 82, _, _, _, _, _⟩) rfl (fun K hK => ?_) ?_
         · go_simp
           refine hK.out _ _ ?_ (fun hHeld => ?_)
           · trivial
           clear hK K
           try simp only [Act.put, putA, putZ, putS]
           refine wpAnyH_ready (rs := [7]) (by kernel_rfl) (by simp) ?_
           refine AllReadyH.cons (o := ⟨some 83, _, _, _, _, _⟩) rfl (fun K hK => ?_) ?_
           · go_simp
             refine hK.out _ _ ?_ (fun hHeld => ?_)
             · trivial
             clear hK K
             try simp only [Act.put, putA, putZ, putS]
             refine wpAnyH_ready (rs := [8]) (by kernel_rfl) (by simp) ?_
             refine AllReadyH.cons (o := ⟨some 84, _, _, _, _, _⟩) rfl (fun K hK => ?_) ?_
             · refine wp_append_own _ _ _ 22 rfl (b + 1) 61 i0 (.agg #[.string ByteArray.empty, .int .i64 0, .int .i64 0, .int .i64 0, .int .i64 0, .int .i64 0, .int .i64 0, .int .i64 0, .int .i64 0, .int .i64 0, .string ByteArray.empty]) 11 104 Tryz.underlying22 hi0 hz0 hz1 hz2 rfl (by decide) (.slice ar nr cr) nr (ruleRow S.rules) rfl (own_past hro isext) _ 1 1 [.string (Src.tx ws 1), .int .i64 (Src.yearP (Src.tl ws 2)), .int .i64 1000000, .int .i64 xm, .int .i64 xk, .int .i64 xwd, .int .i64 xd, .int .i64 xt, .int .i64 xr, .int .i64 (Src.offP (Src.tl ws 8) 43200).1, .string ⟨#[]⟩] rfl rfl (new_cells' _ _ _ _ (by simp)) (by simp [Value.oneCell']) (by unfold maxLen; omega) (by omega) (leB (a := w) (by omega)) (fun v' w1 hown1 hgrow1 _ => ?_); obtain ⟨av', cap', rfl⟩ := owns_shape hown1; have hF := Lib.hid (rd_rule (x := ⟨Src.tx ws 1, Src.yearP (Src.tl ws 2), 1000000, xm, xk, xwd, xd, xt, xr, (Src.offP (Src.tl ws 8) 43200).1, ⟨#[]⟩⟩) hxb hge hblk htree hwords isext (by rw [hnr, ruleRow_eq, rowOf_snoc, ← ruleRow_eq]; exact hown1) hgrow1); have hB1 := blk_grown (hblk.ext isext) (own_past hro isext) hgrow1; have c0' : w1.cell? ⟨b, 0, none⟩ = some (.slice ar nr cr) := (hB1.cell 0).trans rfl; have f0' : w1.frozen? ⟨b, 0, none⟩ = false := hB1.frozen 0; have i0' : InW b w1 := ⟨hB1.lt⟩; clear hB1
               refine hK.out _ _ ?_ (fun hHeld => ?_)
               · trivial
               clear hK K
               try simp only [Act.put, putA, putZ, putS]
               refine wpAnyH_take (i := 9) (oi := ⟨some 85, _, _, _, _, _⟩) (v := ?_) rfl (by kernel_rfl) (by kernel_rfl) (by kernel_rfl) (fun _ _ _ h => h) (Or.inl ⟨by rfl, ?_⟩) (by assumption) ?_
               rotate_left
               · intro w _; go_simp; first | done | (with_reducible rfl)
               try simp only [Act.put, putA, putZ, putS]
               refine wpAnyH_take (i := 10) (oi := ⟨some 86, _, _, _, _, _⟩) (v := ?_) rfl (by kernel_rfl) (by kernel_rfl) (by kernel_rfl) (fun _ _ _ h => h) (Or.inl ⟨by rfl, ?_⟩) (by assumption) ?_
               rotate_left
               · intro w _; go_simp; first | done | (with_reducible rfl)
               try simp only [Act.put, putA, putZ, putS]
               refine wpAnyH_take (i := 11) (oi := ⟨some 87, _, _, _, _, _⟩) (v := ?_) rfl (by kernel_rfl) (by kernel_rfl) (by kernel_rfl) (fun _ _ _ h => h) (Or.inl ⟨by rfl, ?_⟩) (by assumption) ?_
               rotate_left
               · intro w _; go_simp; first | done | (with_reducible rfl)
               try simp only [Act.put, putA, putZ, putS]
               refine wpAnyH_ready (rs := [12]) (by kernel_rfl) (by simp) ?_
               refine AllReadyH.cons (o := ⟨none, _, _, _, _, _⟩) rfl (fun K hK => ?_) ?_
               · go_simp
                 refine hK.out _ _ ?_ (fun hHeld => ?_)
                 · trivial
                 clear hK K
                 try simp only [Act.put, putA, putZ, putS]
                 refine wpAnyH_done (by kernel_rfl) ?_ _
                 go_wp2
                 go_end0
                 exact rd_good (by rw [Hres.out, if_neg q1, hc, rule_ok hs1 u0 hT0 e4 hsp o0 hm9, hto, letp_dash e9]) hF.out
               exact AllReadyH.nil
             exact AllReadyH.nil
           exact AllReadyH.nil
         exact AllReadyH.nil
       refine AllReadyH.cons (o := ⟨some 82, _, _, _, _, _⟩) rfl (fun K hK => ?_) ?_
       · go_simp
         refine hK.out _ _ ?_ (fun hHeld => ?_)
         · trivial
         clear hK K
         try simp only [Act.put, putA, putZ, putS]
         refine wpAnyH_ready (rs := [5, 7]) (by kernel_rfl) (by simp) ?_
         refine AllReadyH.cons (o := ⟨some 81, _, _, _, _, _⟩) rfl (fun K hK => ?_) ?_
         · go_simp
           refine hK.out _ _ ?_ (fun hHeld => ?_)
           · trivial
           clear hK K
           try simp only [Act.put, putA, putZ, putS]
           refine wpAnyH_ready (rs := [7]) (by kernel_rfl) (by simp) ?_
           refine AllReadyH.cons (o := ⟨some 83, _, _, _, _, _⟩) rfl (fun K hK => ?_) ?_
           · go_simp
             refine hK.out _ _ ?_ (fun hHeld => ?_)
             · trivial
             clear hK K
             try simp only [Act.put, putA, putZ, putS]
             refine wpAnyH_ready (rs := [8]) (by kernel_rfl) (by simp) ?_
             refine AllReadyH.cons (o := ⟨some 84, _, _, _, _, _⟩) rfl (fun K hK => ?_) ?_
             · refine wp_append_own _ _ _ 22 rfl (b + 1) 61 i0 (.agg #[.string ByteArray.empty, .int .i64 0, .int .i64 0, .int .i64 0, .int .i64 0, .int .i64 0, .int .i64 0, .int .i64 0, .int .i64 0, .int .i64 0, .string ByteArray.empty]) 11 104 Tryz.underlying22 hi0 hz0 hz1 hz2 rfl (by decide) (.slice ar nr cr) nr (ruleRow S.rules) rfl (own_past hro isext) _ 1 1 [.string (Src.tx ws 1), .int .i64 (Src.yearP (Src.tl ws 2)), .int .i64 1000000, .int .i64 xm, .int .i64 xk, .int .i64 xwd, .int .i64 xd, .int .i64 xt, .int .i64 xr, .int .i64 (Src.offP (Src.tl ws 8) 43200).1, .string ⟨#[]⟩] rfl rfl (new_cells' _ _ _ _ (by simp)) (by simp [Value.oneCell']) (by unfold maxLen; omega) (by omega) (leB (a := w) (by omega)) (fun v' w1 hown1 hgrow1 _ => ?_); obtain ⟨av', cap', rfl⟩ := owns_shape hown1; have hF := Lib.hid (rd_rule (x := ⟨Src.tx ws 1, Src.yearP (Src.tl ws 2), 1000000, xm, xk, xwd, xd, xt, xr, (Src.offP (Src.tl ws 8) 43200).1, ⟨#[]⟩⟩) hxb hge hblk htree hwords isext (by rw [hnr, ruleRow_eq, rowOf_snoc, ← ruleRow_eq]; exact hown1) hgrow1); have hB1 := blk_grown (hblk.ext isext) (own_past hro isext) hgrow1; have c0' : w1.cell? ⟨b, 0, none⟩ = some (.slice ar nr cr) := (hB1.cell 0).trans rfl; have f0' : w1.frozen? ⟨b, 0, none⟩ = false := hB1.frozen 0; have i0' : InW b w1 := ⟨hB1.lt⟩; clear hB1
               refine hK.out _ _ ?_ (fun hHeld => ?_)
               · trivial
               clear hK K
               try simp only [Act.put, putA, putZ, putS]
               refine wpAnyH_take (i := 9) (oi := ⟨some 85, _, _, _, _, _⟩) (v := ?_) rfl (by kernel_rfl) (by kernel_rfl) (by kernel_rfl) (fun _ _ _ h => h) (Or.inl ⟨by rfl, ?_⟩) (by assumption) ?_
               rotate_left
               · intro w _; go_simp; first | done | (with_reducible rfl)
               try simp only [Act.put, putA, putZ, putS]
               refine wpAnyH_take (i := 10) (oi := ⟨some 86, _, _, _, _, _⟩) (v := ?_) rfl (by kernel_rfl) (by kernel_rfl) (by kernel_rfl) (fun _ _ _ h => h) (Or.inl ⟨by rfl, ?_⟩) (by assumption) ?_
               rotate_left
               · intro w _; go_simp; first | done | (with_reducible rfl)
               try simp only [Act.put, putA, putZ, putS]
               refine wpAnyH_take (i := 11) (oi := ⟨some 87, _, _, _, _, _⟩) (v := ?_) rfl (by kernel_rfl) (by kernel_rfl) (by kernel_rfl) (fun _ _ _ h => h) (Or.inl ⟨by rfl, ?_⟩) (by assumption) ?_
               rotate_left
               · intro w _; go_simp; first | done | (with_reducible rfl)
               try simp only [Act.put, putA, putZ, putS]
               refine wpAnyH_ready (rs := [12]) (by kernel_rfl) (by simp) ?_
               refine AllReadyH.cons (o := ⟨none, _, _, _, _, _⟩) rfl (fun K hK => ?_) ?_
               · go_simp
                 refine hK.out _ _ ?_ (fun hHeld => ?_)
                 · trivial
                 clear hK K
                 try simp only [Act.put, putA, putZ, putS]
                 refine wpAnyH_done (by kernel_rfl) ?_ _
                 go_wp2
                 go_end0
                 exact rd_good (by rw [Hres.out, if_neg q1, hc, rule_ok hs1 u0 hT0 e4 hsp o0 hm9, hto, letp_dash e9]) hF.out
               exact AllReadyH.nil
             exact AllReadyH.nil
           exact AllReadyH.nil
         refine AllReadyH.cons (o := ⟨some 83, _, _, _, _, _⟩) rfl (fun K hK => ?_) ?_
         · go_simp
           refine hK.out _ _ ?_ (fun hHeld => ?_)
           · trivial
           clear hK K
           try simp only [Act.put, putA, putZ, putS]
           refine wpAnyH_ready (rs := [5]) (by kernel_rfl) (by simp) ?_
           refine AllReadyH.cons (o := ⟨some 81, _, _, _, _, _⟩) rfl (fun K hK => ?_) ?_
           · go_simp
             refine hK.out _ _ ?_ (fun hHeld => ?_)
             · trivial
             clear hK K
             try simp only [Act.put, putA, putZ, putS]
             refine wpAnyH_ready (rs := [8]) (by kernel_rfl) (by simp) ?_
             refine AllReadyH.cons (o := ⟨some 84, _, _, _, _, _⟩) rfl (fun K hK => ?_) ?_
             · refine wp_append_own _ _ _ 22 rfl (b + 1) 61 i0 (.agg #[.string ByteArray.empty, .int .i64 0, .int .i64 0, .int .i64 0, .int .i64 0, .int .i64 0, .int .i64 0, .int .i64 0, .int .i64 0, .int .i64 0, .string ByteArray.empty]) 11 104 Tryz.underlying22 hi0 hz0 hz1 hz2 rfl (by decide) (.slice ar nr cr) nr (ruleRow S.rules) rfl (own_past hro isext) _ 1 1 [.string (Src.tx ws 1), .int .i64 (Src.yearP (Src.tl ws 2)), .int .i64 1000000, .int .i64 xm, .int .i64 xk, .int .i64 xwd, .int .i64 xd, .int .i64 xt, .int .i64 xr, .int .i64 (Src.offP (Src.tl ws 8) 43200).1, .string ⟨#[]⟩] rfl rfl (new_cells' _ _ _ _ (by simp)) (by simp [Value.oneCell']) (by unfold maxLen; omega) (by omega) (leB (a := w) (by omega)) (fun v' w1 hown1 hgrow1 _ => ?_); obtain ⟨av', cap', rfl⟩ := owns_shape hown1; have hF := Lib.hid (rd_rule (x := ⟨Src.tx ws 1, Src.yearP (Src.tl ws 2), 1000000, xm, xk, xwd, xd, xt, xr, (Src.offP (Src.tl ws 8) 43200).1, ⟨#[]⟩⟩) hxb hge hblk htree hwords isext (by rw [hnr, ruleRow_eq, rowOf_snoc, ← ruleRow_eq]; exact hown1) hgrow1); have hB1 := blk_grown (hblk.ext isext) (own_past hro isext) hgrow1; have c0' : w1.cell? ⟨b, 0, none⟩ = some (.slice ar nr cr) := (hB1.cell 0).trans rfl; have f0' : w1.frozen? ⟨b, 0, none⟩ = false := hB1.frozen 0; have i0' : InW b w1 := ⟨hB1.lt⟩; clear hB1
               refine hK.out _ _ ?_ (fun hHeld => ?_)
               · trivial
               clear hK K
               try simp only [Act.put, putA, putZ, putS]
               refine wpAnyH_take (i := 9) (oi := ⟨some 85, _, _, _, _, _⟩) (v := ?_) rfl (by kernel_rfl) (by kernel_rfl) (by kernel_rfl) (fun _ _ _ h => h) (Or.inl ⟨by rfl, ?_⟩) (by assumption) ?_
               rotate_left
               · intro w _; go_simp; first | done | (with_reducible rfl)
               try simp only [Act.put, putA, putZ, putS]
               refine wpAnyH_take (i := 10) (oi := ⟨some 86, _, _, _, _, _⟩) (v := ?_) rfl (by kernel_rfl) (by kernel_rfl) (by kernel_rfl) (fun _ _ _ h => h) (Or.inl ⟨by rfl, ?_⟩) (by assumption) ?_
               rotate_left
               · intro w _; go_simp; first | done | (with_reducible rfl)
               try simp only [Act.put, putA, putZ, putS]
               refine wpAnyH_take (i := 11) (oi := ⟨some 87, _, _, _, _, _⟩) (v := ?_) rfl (by kernel_rfl) (by kernel_rfl) (by kernel_rfl) (fun _ _ _ h => h) (Or.inl ⟨by rfl, ?_⟩) (by assumption) ?_
               rotate_left
               · intro w _; go_simp; first | done | (with_reducible rfl)
               try simp only [Act.put, putA, putZ, putS]
               refine wpAnyH_ready (rs := [12]) (by kernel_rfl) (by simp) ?_
               refine AllReadyH.cons (o := ⟨none, _, _, _, _, _⟩) rfl (fun K hK => ?_) ?_
               · go_simp
                 refine hK.out _ _ ?_ (fun hHeld => ?_)
                 · trivial
                 clear hK K
                 try simp only [Act.put, putA, putZ, putS]
                 refine wpAnyH_done (by kernel_rfl) ?_ _
                 go_wp2
                 go_end0
                 exact rd_good (by rw [Hres.out, if_neg q1, hc, rule_ok hs1 u0 hT0 e4 hsp o0 hm9, hto, letp_dash e9]) hF.out
               exact AllReadyH.nil
             exact AllReadyH.nil
           exact AllReadyH.nil
         exact AllReadyH.nil
       exact AllReadyH.nil
     · have e9 : ¬ Src.tl ws 9 = [45] := t3
       clear t3
       go_wp2_with fail
       refine wp_region_held_drew (S := fun _ => True) (by kernel_rfl) trivial (fun hHeld => ?_)
       refine wpAnyH_take (i := 0) (oi := ⟨some 76, _, _, _, _, _⟩) (v := ?_) rfl (by kernel_rfl) (by kernel_rfl) (by kernel_rfl) (fun _ _ _ h => h) (Or.inl ⟨by rfl, ?_⟩) (by assumption) ?_
       rotate_left
       · intro w _; go_simp; first | done | (with_reducible rfl)
       try simp only [Act.put, putA, putZ, putS]
       refine wpAnyH_take (i := 1) (oi := ⟨some 77, _, _, _, _, _⟩) (v := ?_) rfl (by kernel_rfl) (by kernel_rfl) (by kernel_rfl) (fun _ _ _ h => h) (Or.inl ⟨by rfl, ?_⟩) (by assumption) ?_
       rotate_left
       · intro w _; go_simp; first | done | (with_reducible rfl)
       try simp only [Act.put, putA, putZ, putS]
       refine wpAnyH_take (i := 2) (oi := ⟨some 78, _, _, _, _, _⟩) (v := ?_) rfl (by kernel_rfl) (by kernel_rfl) (by kernel_rfl) (fun _ _ _ h => h) (Or.inl ⟨by rfl, ?_⟩) (by assumption) ?_
       rotate_left
       · intro w _; go_simp; first | done | (with_reducible rfl)
       try simp only [Act.put, putA, putZ, putS]
       refine wpAnyH_take (i := 3) (oi := ⟨some 79, _, _, _, _, _⟩) (v := ?_) rfl (by kernel_rfl) (by kernel_rfl) (by kernel_rfl) (fun _ _ _ h => h) (Or.inl ⟨by rfl, ?_⟩) (by assumption) ?_
       rotate_left
       · intro w _; go_simp; first | done | (with_reducible rfl)
       try simp only [Act.put, putA, putZ, putS]
       refine wpAnyH_take (i := 4) (oi := ⟨some 80, _, _, _, _, _⟩) (v := ?_) rfl (by kernel_rfl) (by kernel_rfl) (by kernel_rfl) (fun _ _ _ h => h) (Or.inl ⟨by rfl, ?_⟩) (by assumption) ?_
       rotate_left
       · intro w _; go_simp; first | done | (with_reducible rfl)
       try simp only [Act.put, putA, putZ, putS]
       refine wpAnyH_ready (rs := [5, 6]) (by kernel_rfl) (by simp) ?_
       refine AllReadyH.cons (o := ⟨some 81, _, _, _, _, _⟩) rfl (fun K hK => ?_) ?_
       · go_simp
         refine hK.out _ _ ?_ (fun hHeld => ?_)
         · trivial
         clear hK K
         try simp only [Act.put, putA, putZ, putS]
         refine wpAnyH_ready (rs := [6]) (by kernel_rfl) (by simp) ?_
         refine AllReadyH.cons (o := ⟨some 82, _, _, _, _, _⟩) rfl (fun K hK => ?_) ?_
         · go_simp
           refine hK.out _ _ ?_ (fun hHeld => ?_)
           · trivial
           clear hK K
           try simp only [Act.put, putA, putZ, putS]
           refine wpAnyH_ready (rs := [7]) (by kernel_rfl) (by simp) ?_
           refine AllReadyH.cons (o := ⟨some 83, _, _, _, _, _⟩) rfl (fun K hK => ?_) ?_
           · go_simp
             refine hK.out _ _ ?_ (fun hHeld => ?_)
             · trivial
             clear hK K
             try simp only [Act.put, putA, putZ, putS]
             refine wpAnyH_ready (rs := [8]) (by kernel_rfl) (by simp) ?_
             refine AllReadyH.cons (o := ⟨some 84, _, _, _, _, _⟩) rfl (fun K hK => ?_) ?_
             · refine wp_append_own _ _ _ 22 rfl (b + 1) 61 i0 (.agg #[.string ByteArray.empty, .int .i64 0, .int .i64 0, .int .i64 0, .int .i64 0, .int .i64 0, .int .i64 0, .int .i64 0, .int .i64 0, .int .i64 0, .string ByteArray.empty]) 11 104 Tryz.underlying22 hi0 hz0 hz1 hz2 rfl (by decide) (.slice ar nr cr) nr (ruleRow S.rules) rfl (own_past hro isext) _ 1 1 [.string (Src.tx ws 1), .int .i64 (Src.yearP (Src.tl ws 2)), .int .i64 1000000, .int .i64 xm, .int .i64 xk, .int .i64 xwd, .int .i64 xd, .int .i64 xt, .int .i64 xr, .int .i64 (Src.offP (Src.tl ws 8) 43200).1, .string (Src.tx ws 9)] rfl rfl (new_cells' _ _ _ _ (by simp)) (by simp [Value.oneCell']) (by unfold maxLen; omega) (by omega) (leB (a := w) (by omega)) (fun v' w1 hown1 hgrow1 _ => ?_); obtain ⟨av', cap', rfl⟩ := owns_shape hown1; have hF := Lib.hid (rd_rule (x := ⟨Src.tx ws 1, Src.yearP (Src.tl ws 2), 1000000, xm, xk, xwd, xd, xt, xr, (Src.offP (Src.tl ws 8) 43200).1, (Src.tx ws 9)⟩) hxb hge hblk htree hwords isext (by rw [hnr, ruleRow_eq, rowOf_snoc, ← ruleRow_eq]; exact hown1) hgrow1); have hB1 := blk_grown (hblk.ext isext) (own_past hro isext) hgrow1; have c0' : w1.cell? ⟨b, 0, none⟩ = some (.slice ar nr cr) := (hB1.cell 0).trans rfl; have f0' : w1.frozen? ⟨b, 0, none⟩ = false := hB1.frozen 0; have i0' : InW b w1 := ⟨hB1.lt⟩; clear hB1
               refine hK.out _ _ ?_ (fun hHeld => ?_)
               · trivial
               clear hK K
               try simp only [Act.put, putA, putZ, putS]
               refine wpAnyH_take (i := 9) (oi := ⟨some 85, _, _, _, _, _⟩) (v := ?_) rfl (by kernel_rfl) (by kernel_rfl) (by kernel_rfl) (fun _ _ _ h => h) (Or.inl ⟨by rfl, ?_⟩) (by assumption) ?_
               rotate_left
               · intro w _; go_simp; first | done | (with_reducible rfl)
               try simp only [Act.put, putA, putZ, putS]
               refine wpAnyH_take (i := 10) (oi := ⟨some 86, _, _, _, _, _⟩) (v := ?_) rfl (by kernel_rfl) (by kernel_rfl) (by kernel_rfl) (fun _ _ _ h => h) (Or.inl ⟨by rfl, ?_⟩) (by assumption) ?_
               rotate_left
               · intro w _; go_simp; first | done | (with_reducible rfl)
               try simp only [Act.put, putA, putZ, putS]
               refine wpAnyH_take (i := 11) (oi := ⟨some 87, _, _, _, _, _⟩) (v := ?_) rfl (by kernel_rfl) (by kernel_rfl) (by kernel_rfl) (fun _ _ _ h => h) (Or.inl ⟨by rfl, ?_⟩) (by assumption) ?_
               rotate_left
               · intro w _; go_simp; first | done | (with_reducible rfl)
               try simp only [Act.put, putA, putZ, putS]
               refine wpAnyH_ready (rs := [12]) (by kernel_rfl) (by simp) ?_
               refine AllReadyH.cons (o := ⟨none, _, _, _, _, _⟩) rfl (fun K hK => ?_) ?_
               · go_simp
                 refine hK.out _ _ ?_ (fun hHeld => ?_)
                 · trivial
                 clear hK K
                 try simp only [Act.put, putA, putZ, putS]
                 refine wpAnyH_done (by kernel_rfl) ?_ _
                 go_wp2
                 go_end0
                 exact rd_good (by rw [Hres.out, if_neg q1, hc, rule_ok hs1 u0 hT0 e4 hsp o0 hm9, hto, letp_text e9]) hF.out
               exact AllReadyH.nil
             exact AllReadyH.nil
           exact AllReadyH.nil
         exact AllReadyH.nil
       refine AllReadyH.cons (o := ⟨some 82, _, _, _, _, _⟩) rfl (fun K hK => ?_) ?_
       · go_simp
         refine hK.out _ _ ?_ (fun hHeld => ?_)
         · trivial
         clear hK K
         try simp only [Act.put, putA, putZ, putS]
         refine wpAnyH_ready (rs := [5, 7]) (by kernel_rfl) (by simp) ?_
         refine AllReadyH.cons (o := ⟨some 81, _, _, _, _, _⟩) rfl (fun K hK => ?_) ?_
         · go_simp
           refine hK.out _ _ ?_ (fun hHeld => ?_)
           · trivial
           clear hK K
           try simp only [Act.put, putA, putZ, putS]
           refine wpAnyH_ready (rs := [7]) (by kernel_rfl) (by simp) ?_
           refine AllReadyH.cons (o := ⟨some 83, _, _, _, _, _⟩) rfl (fun K hK => ?_) ?_
           · go_simp
             refine hK.out _ _ ?_ (fun hHeld => ?_)
             · trivial
             clear hK K
             try simp only [Act.put, putA, putZ, putS]
             refine wpAnyH_ready (rs := [8]) (by kernel_rfl) (by simp) ?_
             refine AllReadyH.cons (o := ⟨some 84, _, _, _, _, _⟩) rfl (fun K hK => ?_) ?_
             · refine wp_append_own _ _ _ 22 rfl (b + 1) 61 i0 (.agg #[.string ByteArray.empty, .int .i64 0, .int .i64 0, .int .i64 0, .int .i64 0, .int .i64 0, .int .i64 0, .int .i64 0, .int .i64 0, .int .i64 0, .string ByteArray.empty]) 11 104 Tryz.underlying22 hi0 hz0 hz1 hz2 rfl (by decide) (.slice ar nr cr) nr (ruleRow S.rules) rfl (own_past hro isext) _ 1 1 [.string (Src.tx ws 1), .int .i64 (Src.yearP (Src.tl ws 2)), .int .i64 1000000, .int .i64 xm, .int .i64 xk, .int .i64 xwd, .int .i64 xd, .int .i64 xt, .int .i64 xr, .int .i64 (Src.offP (Src.tl ws 8) 43200).1, .string (Src.tx ws 9)] rfl rfl (new_cells' _ _ _ _ (by simp)) (by simp [Value.oneCell']) (by unfold maxLen; omega) (by omega) (leB (a := w) (by omega)) (fun v' w1 hown1 hgrow1 _ => ?_); obtain ⟨av', cap', rfl⟩ := owns_shape hown1; have hF := Lib.hid (rd_rule (x := ⟨Src.tx ws 1, Src.yearP (Src.tl ws 2), 1000000, xm, xk, xwd, xd, xt, xr, (Src.offP (Src.tl ws 8) 43200).1, (Src.tx ws 9)⟩) hxb hge hblk htree hwords isext (by rw [hnr, ruleRow_eq, rowOf_snoc, ← ruleRow_eq]; exact hown1) hgrow1); have hB1 := blk_grown (hblk.ext isext) (own_past hro isext) hgrow1; have c0' : w1.cell? ⟨b, 0, none⟩ = some (.slice ar nr cr) := (hB1.cell 0).trans rfl; have f0' : w1.frozen? ⟨b, 0, none⟩ = false := hB1.frozen 0; have i0' : InW b w1 := ⟨hB1.lt⟩; clear hB1
               refine hK.out _ _ ?_ (fun hHeld => ?_)
               · trivial
               clear hK K
               try simp only [Act.put, putA, putZ, putS]
               refine wpAnyH_take (i := 9) (oi := ⟨some 85, _, _, _, _, _⟩) (v := ?_) rfl (by kernel_rfl) (by kernel_rfl) (by kernel_rfl) (fun _ _ _ h => h) (Or.inl ⟨by rfl, ?_⟩) (by assumption) ?_
               rotate_left
               · intro w _; go_simp; first | done | (with_reducible rfl)
               try simp only [Act.put, putA, putZ, putS]
               refine wpAnyH_take (i := 10) (oi := ⟨some 86, _, _, _, _, _⟩) (v := ?_) rfl (by kernel_rfl) (by kernel_rfl) (by kernel_rfl) (fun _ _ _ h => h) (Or.inl ⟨by rfl, ?_⟩) (by assumption) ?_
               rotate_left
               · intro w _; go_simp; first | done | (with_reducible rfl)
               try simp only [Act.put, putA, putZ, putS]
               refine wpAnyH_take (i := 11) (oi := ⟨some 87, _, _, _, _, _⟩) (v := ?_) rfl (by kernel_rfl) (by kernel_rfl) (by kernel_rfl) (fun _ _ _ h => h) (Or.inl ⟨by rfl, ?_⟩) (by assumption) ?_
               rotate_left
               · intro w _; go_simp; first | done | (with_reducible rfl)
               try simp only [Act.put, putA, putZ, putS]
               refine wpAnyH_ready (rs := [12]) (by kernel_rfl) (by simp) ?_
               refine AllReadyH.cons (o := ⟨none, _, _, _, _, _⟩) rfl (fun K hK => ?_) ?_
               · go_simp
                 refine hK.out _ _ ?_ (fun hHeld => ?_)
                 · trivial
                 clear hK K
                 try simp only [Act.put, putA, putZ, putS]
                 refine wpAnyH_done (by kernel_rfl) ?_ _
                 go_wp2
                 go_end0
                 exact rd_good (by rw [Hres.out, if_neg q1, hc, rule_ok hs1 u0 hT0 e4 hsp o0 hm9, hto, letp_text e9]) hF.out
               exact AllReadyH.nil
             exact AllReadyH.nil
           exact AllReadyH.nil
         refine AllReadyH.cons (o := ⟨some 83, _, _, _, _, _⟩) rfl (fun K hK => ?_) ?_
         · go_simp
           refine hK.out _ _ ?_ (fun hHeld => ?_)
           · trivial
           clear hK K
           try simp only [Act.put, putA, putZ, putS]
           refine wpAnyH_ready (rs := [5]) (by kernel_rfl) (by simp) ?_
           refine AllReadyH.cons (o := ⟨some 81, _, _, _, _, _⟩) rfl (fun K hK => ?_) ?_
           · go_simp
             refine hK.out _ _ ?_ (fun hHeld => ?_)
             · trivial
             clear hK K
             try simp only [Act.put, putA, putZ, putS]
             refine wpAnyH_ready (rs := [8]) (by kernel_rfl) (by simp) ?_
             refine AllReadyH.cons (o := ⟨some 84, _, _, _, _, _⟩) rfl (fun K hK => ?_) ?_
             · refine wp_append_own _ _ _ 22 rfl (b + 1) 61 i0 (.agg #[.string ByteArray.empty, .int .i64 0, .int .i64 0, .int .i64 0, .int .i64 0, .int .i64 0, .int .i64 0, .int .i64 0, .int .i64 0, .int .i64 0, .string ByteArray.empty]) 11 104 Tryz.underlying22 hi0 hz0 hz1 hz2 rfl (by decide) (.slice ar nr cr) nr (ruleRow S.rules) rfl (own_past hro isext) _ 1 1 [.string (Src.tx ws 1), .int .i64 (Src.yearP (Src.tl ws 2)), .int .i64 1000000, .int .i64 xm, .int .i64 xk, .int .i64 xwd, .int .i64 xd, .int .i64 xt, .int .i64 xr, .int .i64 (Src.offP (Src.tl ws 8) 43200).1, .string (Src.tx ws 9)] rfl rfl (new_cells' _ _ _ _ (by simp)) (by simp [Value.oneCell']) (by unfold maxLen; omega) (by omega) (leB (a := w) (by omega)) (fun v' w1 hown1 hgrow1 _ => ?_); obtain ⟨av', cap', rfl⟩ := owns_shape hown1; have hF := Lib.hid (rd_rule (x := ⟨Src.tx ws 1, Src.yearP (Src.tl ws 2), 1000000, xm, xk, xwd, xd, xt, xr, (Src.offP (Src.tl ws 8) 43200).1, (Src.tx ws 9)⟩) hxb hge hblk htree hwords isext (by rw [hnr, ruleRow_eq, rowOf_snoc, ← ruleRow_eq]; exact hown1) hgrow1); have hB1 := blk_grown (hblk.ext isext) (own_past hro isext) hgrow1; have c0' : w1.cell? ⟨b, 0, none⟩ = some (.slice ar nr cr) := (hB1.cell 0).trans rfl; have f0' : w1.frozen? ⟨b, 0, none⟩ = false := hB1.frozen 0; have i0' : InW b w1 := ⟨hB1.lt⟩; clear hB1
               refine hK.out _ _ ?_ (fun hHeld => ?_)
               · trivial
               clear hK K
               try simp only [Act.put, putA, putZ, putS]
               refine wpAnyH_take (i := 9) (oi := ⟨some 85, _, _, _, _, _⟩) (v := ?_) rfl (by kernel_rfl) (by kernel_rfl) (by kernel_rfl) (fun _ _ _ h => h) (Or.inl ⟨by rfl, ?_⟩) (by assumption) ?_
               rotate_left
               · intro w _; go_simp; first | done | (with_reducible rfl)
               try simp only [Act.put, putA, putZ, putS]
               refine wpAnyH_take (i := 10) (oi := ⟨some 86, _, _, _, _, _⟩) (v := ?_) rfl (by kernel_rfl) (by kernel_rfl) (by kernel_rfl) (fun _ _ _ h => h) (Or.inl ⟨by rfl, ?_⟩) (by assumption) ?_
               rotate_left
               · intro w _; go_simp; first | done | (with_reducible rfl)
               try simp only [Act.put, putA, putZ, putS]
               refine wpAnyH_take (i := 11) (oi := ⟨some 87, _, _, _, _, _⟩) (v := ?_) rfl (by kernel_rfl) (by kernel_rfl) (by kernel_rfl) (fun _ _ _ h => h) (Or.inl ⟨by rfl, ?_⟩) (by assumption) ?_
               rotate_left
               · intro w _; go_simp; first | done | (with_reducible rfl)
               try simp only [Act.put, putA, putZ, putS]
               refine wpAnyH_ready (rs := [12]) (by kernel_rfl) (by simp) ?_
               refine AllReadyH.cons (o := ⟨none, _, _, _, _, _⟩) rfl (fun K hK => ?_) ?_
               · go_simp
                 refine hK.out _ _ ?_ (fun hHeld => ?_)
                 · trivial
                 clear hK K
                 try simp only [Act.put, putA, putZ, putS]
                 refine wpAnyH_done (by kernel_rfl) ?_ _
                 go_wp2
                 go_end0
                 exact rd_good (by rw [Hres.out, if_neg q1, hc, rule_ok hs1 u0 hT0 e4 hsp o0 hm9, hto, letp_text e9]) hF.out
               exact AllReadyH.nil
             exact AllReadyH.nil
           exact AllReadyH.nil
         exact AllReadyH.nil
       exact AllReadyH.nil
end Go.Proofs.YtdhbgelijjlifaaGreatDoor
