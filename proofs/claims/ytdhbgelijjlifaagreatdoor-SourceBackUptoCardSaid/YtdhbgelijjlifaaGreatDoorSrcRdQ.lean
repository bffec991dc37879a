/- Walks of sources: the reader's link. -/
import Derived.Test.YtdhbgelijjlifaaGreatDoorSrcRdE
set_option linter.unusedVariables false
set_option linter.unusedSimpArgs false
namespace Go.Proofs.YtdhbgelijjlifaaGreatDoor
open Go.RowKit Go.Shelf
set_option maxRecDepth 100000 in
set_option maxHeartbeats 4000000 in
theorem plink_any (wb : Frm) (w : World) (b : Nat) (S : Source) (line : Int) (all : ByteArray) (ws : List Src.Wd) (hg : GoodW w) (h : Rd wb w b S line all ws) (hs : ∀ x ∈ ws, x.1.size ≤ 1000) (hw0 : 0 < ws.length) (hw16 : ws.length ≤ 100) (hall : all.size ≤ 1048576) :
 Calls Tryz.prog 51 #[.pointer (some ⟨b, 0, none⟩)] w (RdEnd wb b line all ws (Src.linkP S ws all.size line)) := by
 obtain ⟨i0, hi0, hz0, hz1, hz2⟩ := info_partsS Tryz.infoLinkS
 obtain ⟨hxb, hge, vr, vz, vl, lv, zp, Bw, hblk, htree, hwords⟩ := h
 have L := rdl_of hblk hwords
 have hlw : ∀ i, (Src.tx ws i).size ≤ 1048576 := fun i => Nat.le_trans (tx_size hs i) (by omega)
 have HRm := fun hv most w' (hx : Ext w w') => Lib.hid (proom_any b line all ws hw0 hv most w' (L.ext hx))
 have HMn := fun w' (hx : Ext w w') => Lib.hid (pmany_any b line all ws 3 3 (by omega) (by omega) (by omega) w' (L.ext hx))
 have HNd := fun i hi ok w' (hx : Ext w w') => Lib.hid (pneed_any b line all ws i hi ok w' (L.ext hx))
 have HP1 : ∀ w', Ext w w' → Hid (Rets Tryz.prog 14 #[.string (Src.tx ws 1)] w' (.bool (Src.placeB (Src.tl ws 1)))) := fun w' hx => Lib.hid (place_any (Src.tx ws 1) (by have := hlw 1; omega) w' (hg.max.ext hx))
 have HP2 : ∀ w', Ext w w' → Hid (Rets Tryz.prog 14 #[.string (Src.tx ws 2)] w' (.bool (Src.placeB (Src.tl ws 2)))) := fun w' hx => Lib.hid (place_any (Src.tx ws 2) (by have := hlw 2; omega) w' (hg.max.ext hx))
 have hres : Src.linkP S ws all.size line = if 100 ≤ S.links.length then .inl ⟨12, line, Src.pt ws 0⟩
  else match Src.countP ws all.size line 3 3 with
   | some f => .inl f
   | none => if Src.placeB (Src.tl ws 1) = false then .inl ⟨6, line, Src.pt ws 1⟩
     else if Src.placeB (Src.tl ws 2) = false then .inl ⟨6, line, Src.pt ws 2⟩
     else .inr ⟨S.rules, S.zones, S.links ++ [⟨Src.tx ws 1, Src.tx ws 2⟩]⟩ := rfl
 generalize Src.linkP S ws all.size line = OUT at *
 obtain ⟨h1, h2, h3, lv', h4, h5⟩ := L
 haveI : InW b w := ⟨h1⟩
 have e5 : lv' = lv := by have := (hblk.cell 5).symm.trans h4; simpa using this.symm
 subst e5
 have c2 : w.cell? ⟨b, 2, none⟩ = some vl := (hblk.cell 2).trans rfl
 obtain ⟨nl, hnl⟩ : ∃ n, S.links.length = n := ⟨_, rfl⟩
 have hlo := htree.links
 rw [hnl] at hlo hres
 obtain ⟨al, cl, rfl⟩ := owns_shape hlo
 have b1 := len_of (owns_reads hlo (by decide))
 have Hres := Lib.hid hres
 clear hres
 go_enter Tryz.func51, Tryz.ntmps51
 go_wp2_with fail
 go_at_call 83
 by_cases q1 : 100 ≤ nl
 · have HR := HRm nl 100
   rw [if_pos q1] at HR
   refine (HR _ isext).out.bad ?_
   intro y
   go_wp2
   exact bodyPost_panic rfl (rd_bad (by rw [Hres.out, if_pos q1]) (hxb.trans isext))
 have HR := HRm nl 100
 rw [if_neg q1] at HR
 refine (HR _ isext).out.good ?_
 intro y1
 clear HR HRm
 go_wp2_with fail
 go_at_call 84
 cases hc : Src.countP ws all.size line 3 3 with
 | some f =>
   rw [hc] at HMn
   refine (HMn _ isext).out.bad ?_
   intro y
   go_wp2
   exact bodyPost_panic rfl (rd_bad (by rw [Hres.out, if_neg q1, hc]) (hxb.trans isext))
 | none =>
   rw [hc] at HMn
   refine (HMn _ isext).out.good ?_
   intro y2
   clear HMn
   have hn3 : ws.length = 3 := by
    unfold Src.countP at hc
    split at hc
    · cases hc
    · split at hc
      · cases hc
      · omega
   rw [hn3] at h5
   rcases h5 with ⟨_, _, e9, h9, _⟩ | ⟨bl, o, c9, e9, k1, k2, m1', hcw⟩
   · exact absurd h9 (by omega)
   subst e9
   haveI : InW bl w := ⟨m1'⟩
   obtain ⟨d1, -⟩ := wd_at hcw 1 (by omega)
   obtain ⟨d2, -⟩ := wd_at hcw 2 (by omega)
   clear hcw
   simp only [Nat.reduceMul] at d1 d2
   go_wp2_with (go_at_call 14; refine Rets.use (HP1 _ isext).out ?_; intro y3)
   go_at_call 86
   cases hs1 : Src.placeB (Src.tl ws 1)
   · have HN := HNd 1 (by omega) false
     simp only [Bool.false_eq_true, if_false] at HN
     refine (HN _ isext).out.bad ?_
     intro y
     go_wp2
     exact bodyPost_panic rfl (rd_bad (by rw [Hres.out, if_neg q1, hc]; simp [hs1]) (hxb.trans isext))
   have HN1 := HNd 1 (by omega) true
   simp only [if_true] at HN1
   refine (HN1 _ isext).out.good ?_
   intro y4
   clear HN1
   go_wp2_with (go_at_call 14; refine Rets.use (HP2 _ isext).out ?_; intro y5)
   go_at_call 86
   cases hs2 : Src.placeB (Src.tl ws 2)
   · have HN := HNd 2 (by omega) false
     simp only [Bool.false_eq_true, if_false] at HN
     refine (HN _ isext).out.bad ?_
     intro y
     go_wp2
     exact bodyPost_panic rfl (rd_bad (by rw [Hres.out, if_neg q1, hc]; simp [hs1, hs2]) (hxb.trans isext))
   have HN2 := HNd 2 (by omega) true
   simp only [if_true] at HN2
   refine (HN2 _ isext).out.good ?_
   intro y6
   clear HN2 HNd
   go_wp2_with fail
   refine wp_region_held_drew (S := fun _ => True) (by kernel_rfl) trivial (fun hHeld => ?_)
   refine wpAnyH_take (i := 0) (oi := ⟨some 35, _, _, _, _, _⟩) (v := ?_) rfl (by kernel_rfl) (by kernel_rfl) (by kernel_rfl) (fun _ _ _ h => h) (Or.inl ⟨by rfl, ?_⟩) (by assumption) ?_
   rotate_left
   · intro w _; go_simp; first | done | (with_reducible rfl)
   try simp only [Act.put, putA, putZ, putS]
   refine wpAnyH_take (i := 1) (oi := ⟨some 36, _, _, _, _, _⟩) (v := ?_) rfl (by kernel_rfl) (by kernel_rfl) (by kernel_rfl) (fun _ _ _ h => h) (Or.inl ⟨by rfl, ?_⟩) (by assumption) ?_
   rotate_left
   · intro w _; go_simp; first | done | (with_reducible rfl)
   try simp only [Act.put, putA, putZ, putS]
   refine wpAnyH_take (i := 2) (oi := ⟨some 37, _, _, _, _, _⟩) (v := ?_) rfl (by kernel_rfl) (by kernel_rfl) (by kernel_rfl) (fun _ _ _ h => h) (Or.inl ⟨by rfl, ?_⟩) (by assumption) ?_
   rotate_left
   · intro w _; go_simp; first | done | (with_reducible rfl)
   try simp only [Act.put, putA, putZ, putS]
   refine wpAnyH_take (i := 3) (oi := ⟨some 38, _, _, _, _, _⟩) (v := ?_) rfl (by kernel_rfl) (by kernel_rfl) (by kernel_rfl) (fun _ _ _ h => h) (Or.inl ⟨by rfl, ?_⟩) (by assumption) ?_
   rotate_left
   · intro w _; go_simp; first | done | (with_reducible rfl)
   try simp only [Act.put, putA, putZ, putS]
   refine wpAnyH_take (i := 4) (oi := ⟨some 39, _, _, _, _, _⟩) (v := ?_) rfl (by kernel_rfl) (by kernel_rfl) (by kernel_rfl) (fun _ _ _ h => h) (Or.inl ⟨by rfl, ?_⟩) (by assumption) ?_
   rotate_left
   · intro w _; go_simp; first | done | (with_reducible rfl)
   try simp only [Act.put, putA, putZ, putS]
   refine wpAnyH_ready (rs := [5, 6]) (by kernel_rfl) (by simp) ?_
   refine AllReadyH.cons (o := ⟨some 40, _, _, _, _, _⟩) rfl (fun K hK => ?_) ?_
   · go_simp
     refine hK.out _ _ ?_ (fun hHeld => ?_)
     · trivial
     clear hK K
     try simp only [Act.put, putA, putZ, putS]
     refine wpAnyH_ready (rs := [6]) (by kernel_rfl) (by simp) ?_
     refine AllReadyH.cons (o := ⟨some 41, _, _, _, _, _⟩) rfl (fun K hK => ?_) ?_
     · go_simp
       refine hK.out _ _ ?_ (fun hHeld => ?_)
       · trivial
       clear hK K
       try simp only [Act.put, putA, putZ, putS]
       refine wpAnyH_ready (rs := [7]) (by kernel_rfl) (by simp) ?_
       refine AllReadyH.cons (o := ⟨some 42, _, _, _, _, _⟩) rfl (fun K hK => ?_) ?_
       · go_simp
         refine hK.out _ _ ?_ (fun hHeld => ?_)
         · trivial
         clear hK K
         try simp only [Act.put, putA, putZ, putS]
         refine wpAnyH_ready (rs := [8]) (by kernel_rfl) (by simp) ?_
         refine AllReadyH.cons (o := ⟨some 43, _, _, _, _, _⟩) rfl (fun K hK => ?_) ?_
         · refine wp_append_own _ _ _ 24 rfl (b + 1) 63 i0 (.agg #[.string ByteArray.empty, .string ByteArray.empty]) 2 32 Tryz.underlying24 hi0 hz0 hz1 hz2 rfl (by decide) (.slice al nl cl) nl (linkRow S.links) rfl (own_past hlo isext) _ 1 1 [.string (Src.tx ws 1), .string (Src.tx ws 2)] rfl rfl (new_cells' _ _ _ _ (by simp)) (by simp [Value.oneCell']) (by unfold maxLen; omega) (by omega) (leB (a := w) (by omega)) (fun v' w1 hown1 hgrow1 _ => ?_); obtain ⟨av', cap', rfl⟩ := owns_shape hown1; have hF := Lib.hid (rd_link (x := ⟨Src.tx ws 1, Src.tx ws 2⟩) hxb hge hblk htree hwords isext (by rw [hnl]; unfold linkRow; rw [rowOf_snoc]; exact hown1) hgrow1); have hB1 := blk_grown (hblk.ext isext) (own_past hlo isext) hgrow1; have c0' : w1.cell? ⟨b, 2, none⟩ = some (.slice al nl cl) := (hB1.cell 2).trans rfl; have f0' : w1.frozen? ⟨b, 2, none⟩ = false := hB1.frozen 2; have i0' : InW b w1 := ⟨hB1.lt⟩; clear hB1
           refine hK.out _ _ ?_ (fun hHeld => ?_)
           · trivial
           clear hK K
           try simp only [Act.put, putA, putZ, putS]
           refine wpAnyH_take (i := 9) (oi := ⟨some 44, _, _, _, _, _⟩) (v := ?_) rfl (by kernel_rfl) (by kernel_rfl) (by kernel_rfl) (fun _ _ _ h => h) (Or.inl ⟨by rfl, ?_⟩) (by assumption) ?_
           rotate_left
           · intro w _; go_simp; first | done | (with_reducible rfl)
           try simp only [Act.put, putA, putZ, putS]
           refine wpAnyH_take (i := 10) (oi := ⟨some 45, _, _, _, _, _⟩) (v := ?_) rfl (by kernel_rfl) (by kernel_rfl) (by kernel_rfl) (fun _ _ _ h => h) (Or.inl ⟨by rfl, ?_⟩) (by assumption) ?_
           rotate_left
           · intro w _; go_simp; first | done | (with_reducible rfl)
           try simp only [Act.put, putA, putZ, putS]
           refine wpAnyH_take (i := 11) (oi := ⟨some 46, _, _, _, _, _⟩) (v := ?_) rfl (by kernel_rfl) (by kernel_rfl) (by kernel_rfl) (fun _ _ _ h => h) (Or.inl ⟨by rfl, ?_⟩) (by assumption) ?_
           rotate_left
           · intro w _; go_simp; first | done | (with_reducible rfl)
           try simp only [Act.put, putA, putZ, putS]
           refine wpAnyH_ready (rs := [12]) (by kernel_rfl) (by simp) ?_
           refine AllReadyH.cons (o := ⟨none, _, _, _, _, _⟩) rfl (fun K hK => ?_) ?_
           · go_simp
             refine hK.out _ _ ?_ (fun hHeld => ?_)
             · trivial
             clear hK K
             try simp only [Act.put, putA, putZ, putS]
             refine wpAnyH_done (by kernel_rfl) ?_ _
             go_wp2
             go_end0
             exact rd_good (by rw [Hres.out, if_neg q1, hc]; simp [hs1, hs2]) hF.out
           exact AllReadyH.nil
         exact AllReadyH.nil
       exact AllReadyH.nil
     exact AllReadyH.nil
   refine AllReadyH.cons (o := ⟨some 41, _, _, _, _, _⟩) rfl (fun K hK => ?_) ?_
   · go_simp
     refine hK.out _ _ ?_ (fun hHeld => ?_)
     · trivial
     clear hK K
     try simp only [Act.put, putA, putZ, putS]
     refine wpAnyH_ready (rs := [5, 7]) (by kernel_rfl) (by simp) ?_
     refine AllReadyH.cons (o := ⟨some 40, _, _, _, _, _⟩) rfl (fun K hK => ?_) ?_
     · go_simp
       refine hK.out _ _ ?_ (fun hHeld => ?_)
       · trivial
       clear hK K
       try simp only [Act.put, putA, putZ, putS]
       refine wpAnyH_ready (rs := [7]) (by kernel_rfl) (by simp) ?_
       refine AllReadyH.cons (o := ⟨some 42, _, _, _, _, _⟩) rfl (fun K hK => ?_) ?_
       · go_simp
         refine hK.out _ _ ?_ (fun hHeld => ?_)
         · trivial
         clear hK K
         try simp only [Act.put, putA, putZ, putS]
         refine wpAnyH_ready (rs := [8]) (by kernel_rfl) (by simp) ?_
         refine AllReadyH.cons (o := ⟨some 43, _, _, _, _, _⟩) rfl (fun K hK => ?_) ?_
         · refine wp_append_own _ _ _ 24 rfl (b + 1) 63 i0 (.agg #[.string ByteArray.empty, .string ByteArray.empty]) 2 32 Tryz.underlying24 hi0 hz0 hz1 hz2 rfl (by decide) (.slice al nl cl) nl (linkRow S.links) rfl (own_past hlo isext) _ 1 1 [.string (Src.tx ws 1), .string (Src.tx ws 2)] rfl rfl (new_cells' _ _ _ _ (by simp)) (by simp [Value.oneCell']) (by unfold maxLen; omega) (by omega) (leB (a := w) (by omega)) (fun v' w1 hown1 hgrow1 _ => ?_); obtain ⟨av', cap', rfl⟩ := owns_shape hown1; have hF := Lib.hid (rd_link (x := ⟨Src.tx ws 1, Src.tx ws 2⟩) hxb hge hblk htree hwords isext (by rw [hnl]; unfold linkRow; rw [rowOf_snoc]; exact hown1) hgrow1); have hB1 := blk_grown (hblk.ext isext) (own_past hlo isext) hgrow1; have c0' : w1.cell? ⟨b, 2, none⟩ = some (.slice al nl cl) := (hB1.cell 2).trans rfl; have f0' : w1.frozen? ⟨b, 2, none⟩ = false := hB1.frozen 2; have i0' : InW b w1 := ⟨hB1.lt⟩; clear hB1
           refine hK.out _ _ ?_ (fun hHeld => ?_)
           · trivial
           clear hK K
           try simp only [Act.put, putA, putZ, putS]
           refine wpAnyH_take (i := 9) (oi := ⟨some 44, _, _, _, _, _⟩) (v := ?_) rfl (by kernel_rfl) (by kernel_rfl) (by kernel_rfl) (fun _ _ _ h => h) (Or.inl ⟨by rfl, ?_⟩) (by assumption) ?_
           rotate_left
           · intro w _; go_simp; first | done | (with_reducible rfl)
           try simp only [Act.put, putA, putZ, putS]
           refine wpAnyH_take (i := 10) (oi := ⟨some 45, _, _, _, _, _⟩) (v := ?_) rfl (by kernel_rfl) (by kernel_rfl) (by kernel_rfl) (fun _ _ _ h => h) (Or.inl ⟨by rfl, ?_⟩) (by assumption) ?_
           rotate_left
           · intro w _; go_simp; first | done | (with_reducible rfl)
           try simp only [Act.put, putA, putZ, putS]
           refine wpAnyH_take (i := 11) (oi := ⟨some 46, _, _, _, _, _⟩) (v := ?_) rfl (by kernel_rfl) (by kernel_rfl) (by kernel_rfl) (fun _ _ _ h => h) (Or.inl ⟨by rfl, ?_⟩) (by assumption) ?_
           rotate_left
           · intro w _; go_simp; first | done | (with_reducible rfl)
           try simp only [Act.put, putA, putZ, putS]
           refine wpAnyH_ready (rs := [12]) (by kernel_rfl) (by simp) ?_
           refine AllReadyH.cons (o := ⟨none, _, _, _, _, _⟩) rfl (fun K hK => ?_) ?_
           · go_simp
             refine hK.out _ _ ?_ (fun hHeld => ?_)
             · trivial
             clear hK K
             try simp only [Act.put, putA, putZ, putS]
             refine wpAnyH_done (by kernel_rfl) ?_ _
             go_wp2
             go_end0
             exact rd_good (by rw [Hres.out, if_neg q1, hc]; simp [hs1, hs2]) hF.out
           exact AllReadyH.nil
         exact AllReadyH.nil
       exact AllReadyH.nil
     refine AllReadyH.cons (o := ⟨some 42, _, _, _, _, _⟩) rfl (fun K hK => ?_) ?_
     · go_simp
       refine hK.out _ _ ?_ (fun hHeld => ?_)
       · trivial
       clear hK K
       try simp only [Act.put, putA, putZ, putS]
       refine wpAnyH_ready (rs := [5]) (by kernel_rfl) (by simp) ?_
       refine AllReadyH.cons (o := ⟨some 40, _, _, _, _, _⟩) rfl (fun K hK => ?_) ?_
       · go_simp
         refine hK.out _ _ ?_ (fun hHeld => ?_)
         · trivial
         clear hK K
         try simp only [Act.put, putA, putZ, putS]
         refine wpAnyH_ready (rs := [8]) (by kernel_rfl) (by simp) ?_
         refine AllReadyH.cons (o := ⟨some 43, _, _, _, _, _⟩) rfl (fun K hK => ?_) ?_
         · refine wp_append_own _ _ _ 24 rfl (b + 1) 63 i0 (.agg #[.string ByteArray.empty, .string ByteArray.empty]) 2 32 Tryz.underlying24 hi0 hz0 hz1 hz2 rfl (by decide) (.slice al nl cl) nl (linkRow S.links) rfl (own_past hlo isext) _ 1 1 [.string (Src.tx ws 1), .string (Src.tx ws 2)] rfl rfl (new_cells' _ _ _ _ (by simp)) (by simp [Value.oneCell']) (by unfold maxLen; omega) (by omega) (leB (a := w) (by omega)) (fun v' w1 hown1 hgrow1 _ => ?_); obtain ⟨av', cap', rfl⟩ := owns_shape hown1; have hF := Lib.hid (rd_link (x := ⟨Src.tx ws 1, Src.tx ws 2⟩) hxb hge hblk htree hwords isext (by rw [hnl]; unfold linkRow; rw [rowOf_snoc]; exact hown1) hgrow1); have hB1 := blk_grown (hblk.ext isext) (own_past hlo isext) hgrow1; have c0' : w1.cell? ⟨b, 2, none⟩ = some (.slice al nl cl) := (hB1.cell 2).trans rfl; have f0' : w1.frozen? ⟨b, 2, none⟩ = false := hB1.frozen 2; have i0' : InW b w1 := ⟨hB1.lt⟩; clear hB1
           refine hK.out _ _ ?_ (fun hHeld => ?_)
           · trivial
           clear hK K
           try simp only [Act.put, putA, putZ, putS]
           refine wpAnyH_take (i := 9) (oi := ⟨some 44, _, _, _, _, _⟩) (v := ?_) rfl (by kernel_rfl) (by kernel_rfl) (by kernel_rfl) (fun _ _ _ h => h) (Or.inl ⟨by rfl, ?_⟩) (by assumption) ?_
           rotate_left
           · intro w _; go_simp; first | done | (with_reducible rfl)
           try simp only [Act.put, putA, putZ, putS]
           refine wpAnyH_take (i := 10) (oi := ⟨some 45, _, _, _, _, _⟩) (v := ?_) rfl (by kernel_rfl) (by kernel_rfl) (by kernel_rfl) (fun _ _ _ h => h) (Or.inl ⟨by rfl, ?_⟩) (by assumption) ?_
           rotate_left
           · intro w _; go_simp; first | done | (with_reducible rfl)
           try simp only [Act.put, putA, putZ, putS]
           refine wpAnyH_take (i := 11) (oi := ⟨some 46, _, _, _, _, _⟩) (v := ?_) rfl (by kernel_rfl) (by kernel_rfl) (by kernel_rfl) (fun _ _ _ h => h) (Or.inl ⟨by rfl, ?_⟩) (by assumption) ?_
           rotate_left
           · intro w _; go_simp; first | done | (with_reducible rfl)
           try simp only [Act.put, putA, putZ, putS]
           refine wpAnyH_ready (rs := [12]) (by kernel_rfl) (by simp) ?_
           refine AllReadyH.cons (o := ⟨none, _, _, _, _, _⟩) rfl (fun K hK => ?_) ?_
           · go_simp
             refine hK.out _ _ ?_ (fun hHeld => ?_)
             · trivial
             clear hK K
             try simp only [Act.put, putA, putZ, putS]
             refine wpAnyH_done (by kernel_rfl) ?_ _
             go_wp2
             go_end0
             exact rd_good (by rw [Hres.out, if_neg q1, hc]; simp [hs1, hs2]) hF.out
           exact AllReadyH.nil
         exact AllReadyH.nil
       exact AllReadyH.nil
     exact AllReadyH.nil
   exact AllReadyH.nil
end Go.Proofs.YtdhbgelijjlifaaGreatDoor
namespace Go.Proofs.YtdhbgelijjlifaaGreatDoor
open Go.RowKit Go.Shelf
theorem rule_ok {ws : List Src.Wd} {line xm xk xwd xd xt xr : Int} (h1 : Src.setB (Src.tl ws 1) = true) (h2 : ¬ Src.yearP (Src.tl ws 2) = 0) (h3 : ¬ Src.toP ws = 0) (h4 : Src.tl ws 4 = [45]) (h5 : Src.spotP ws 5 = .inr ⟨xm, xk, xwd, xd, xt, xr⟩) (h6 : (Src.offP (Src.tl ws 8) 43200).2 = 0) (h7 : Src.madeB (Src.tl ws 9) 8 [43, 45] = true) :
 Src.ruleP ws line = .inr ⟨Src.tx ws 1, Src.yearP (Src.tl ws 2), Src.toP ws, xm, xk, xwd, xd, xt, xr, (Src.offP (Src.tl ws 8) 43200).1, Src.letP ws⟩ := by
 unfold Src.ruleP
 rw [if_neg (by rw [h1]; simp), if_neg h2, if_neg h3, if_neg (by simp [h4]), h5]
 simp only
 rw [if_neg (by simp [h6]), if_neg (by rw [h7]; simp)]
theorem letp_dash {ws : List Src.Wd} (h : Src.tl ws 9 = [45]) : Src.letP ws = ⟨#[]⟩ := by unfold Src.letP; rw [if_pos h]
theorem letp_text {ws : List Src.Wd} (h : ¬ Src.tl ws 9 = [45]) : Src.letP ws = Src.tx ws 9 := by unfold Src.letP; rw [if_neg h]
end Go.Proofs.YtdhbgelijjlifaaGreatDoor
