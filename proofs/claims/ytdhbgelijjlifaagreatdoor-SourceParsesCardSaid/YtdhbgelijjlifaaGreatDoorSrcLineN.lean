/- Walks of sources: the document's line: a zone. -/
import Derived.Test.YtdhbgelijjlifaaGreatDoorSrcLine
import Derived.Test.YtdhbgelijjlifaaGreatDoorSrcDocF
set_option linter.unusedVariables false
set_option linter.unusedSimpArgs false
namespace Go.Proofs.YtdhbgelijjlifaaGreatDoor
open Go.RowKit Go.Shelf
set_option maxRecDepth 100000 in
set_option maxHeartbeats 16000000 in
set_option synthInstance.maxSize 4000 in
set_option synthInstance.maxHeartbeats 400000 in
theorem dline_zone (F : Frm) (w : World) (vr vz vl lv : Value) (zp : List (Zone × Value)) (S : Source) (ws : List Src.Wd) (all : ByteArray) (line : Int) (h : LnIn F w vr vz vl lv zp S ws) (hf : Src.fitsN S) (hall : all.size ≤ 1048576) (r1 : (Src.tx ws 0 == ⟨#[82, 117, 108, 101]⟩) = false) (r2 : ((Src.tx ws 0).toList == [82, 117, 108, 101]) = false) (s1 : (Src.tx ws 0 == ⟨#[90, 111, 110, 101]⟩) = true) (s2 : ((Src.tx ws 0).toList == [90, 111, 110, 101]) = true) :
 Calls Tryz.prog 27 #[.agg #[vr, vz, vl], lv, .string all, .int .i64 line, .bool false] w (LineEnd F w (Src.zoneP S ws all.size line)) := by
 obtain ⟨hKp, hT, ⟨Bw, hwds⟩, hs, hpos, hle⟩ := h
 obtain ⟨f1, f2, f3, f4⟩ := hf
 have hlw : ∀ i, (Src.tx ws i).size ≤ 1000 := fun i => tx_size hs i
 have HB := fun e line a t w => Lib.hid (dbad_any e line a t w)
 have hres : ∃ o, Src.zoneP S ws all.size line = o := ⟨_, rfl⟩
 obtain ⟨OUT, hres⟩ := hres
 rw [hres]
 have Hres := Lib.hid hres
 clear hres
 have hFw := Below.size hKp.ext
 have hro := hT.rules
 have hzo := hT.zones
 have hlo := hT.links
 obtain ⟨nr, hnr⟩ : ∃ n, S.rules.length = n := ⟨_, rfl⟩
 obtain ⟨nz, hnz⟩ : ∃ n, S.zones.length = n := ⟨_, rfl⟩
 obtain ⟨nl, hnl⟩ : ∃ n, S.links.length = n := ⟨_, rfl⟩
 rw [hnr] at hro f1
 rw [hnz] at hzo f2
 rw [hnl] at hlo f3
 obtain ⟨ar, cr, rfl⟩ := owns_shape hro
 obtain ⟨az, cz, rfl⟩ := owns_shape hzo
 obtain ⟨al, cl, rfl⟩ := owns_shape hlo
 have b1 := len_of (owns_reads hro (by decide))
 have b2 := len_of (owns_reads hzo (by decide))
 have b3 := len_of (owns_reads hlo (by decide))
 have hwr := owns_reads hwds (by decide)
 obtain ⟨n, hn⟩ : ∃ n, ws.length = n := ⟨_, rfl⟩
 have hwo := hwds
 rw [hn] at hwo
 obtain ⟨bl, c9, rfl⟩ := row_block hwo (by omega)
 haveI : InW bl w := ⟨(hwo.lt bl rfl).2⟩
 obtain ⟨d0, q0⟩ := words_at hwo 0 (by omega)
 simp only [Nat.zero_mul, Nat.zero_add] at d0 q0
 have HBx := box3 w #[.slice ar nr cr, .slice az nz cz, .slice al nl cl] #[.slice none 0 0, .slice none 0 0, .slice none 0 0] #[.int .i64 0, .int .i64 0, .int .i64 0] 26 26 29
 have HC := fun w' (hx : Ext w w') => Lib.hid (dcount_any ws all line 5 9 (by omega) (by omega) hall (.slice (some ⟨bl, 0, none⟩) n c9) w' (by rw [← hn]; rw [← hn] at hwo; exact (owns_reads hwo (by decide)).ext hx))
 have HPl : ∀ w, Hid (Rets Tryz.prog 15 #[.string (Src.tx ws 1)] w (.bool (Src.placeB (Src.tl ws 1)))) := fun w => Lib.hid (dplace_any (Src.tx ws 1) (by have := hlw 1; unfold maxLen; omega) w)
 have HE := fun w' (hx : Ext w w') h1 h2 => Lib.hid (dera2_all ws line (.slice (some ⟨bl, 0, none⟩) n c9) w' (by rw [← hn]; rw [← hn] at hwo; exact (owns_reads hwo (by decide)).ext hx) h1 h2 hs)
 obtain ⟨i0, hi0, hz0, hz1, hz2⟩ := info_partsS Tryz.infoZoneT
 by_cases q1 : 50 ≤ nz
 · have g1 : (50 : Int) ≤ nz := by omega
   go_enter Tryz.func27, Tryz.ntmps27
   go_wp2_with fail
   refine wp_region_past_tail 6 (by kernel_rfl) (by kernel_rfl) ?_
   simp only [List.take_succ_cons, List.take_zero, List.drop_succ_cons, List.drop_zero]
   repeat (go_big_quiet_step ((go_at_call 52; exact Rets.quiet (HB _ _ _ _ _).out)))
   refine wpQuiet_nil ?_
   intro yE
   go_wp2
   refine bodyPost_ret (v := .tuple #[.agg #[.slice ar nr cr, .slice az nz cz, .slice al nl cl], faultC ⟨12, line, Src.pt ws 0⟩]) ?_ rfl (line_bad hKp (by rw [← Hres.out]; simp [Src.zoneP, hnz, q1]))
   simp [results, Tryz.results27, go_sem]
 have g1 : decide ((50 : Int) ≤ nz) = false := decide_eq_false (by omega)
 go_enter Tryz.func27, Tryz.ntmps27
 go_wp2_with fail
 go_at_call 53
 refine Rets.use (HC _ isext).out ?_
 intro y1
 clear HC
 cases hc : Src.countP ws all.size line 5 9 with
 | some f =>
   have hfe := (Src.count_line hc).2
   obtain ⟨e, l1, a1⟩ := f
   simp only at hfe
   have g2 : (e != 0) = true := by simpa using hfe
   simp only [faultO]
   go_wp2_with fail
   go_region
   all_goals
    go_wp2
    refine bodyPost_ret (v := .tuple #[.agg #[.slice ar nr cr, .slice az nz cz, .slice al nl cl], faultC ⟨e, l1, a1⟩]) ?_ rfl (line_bad hKp (by rw [← Hres.out]; simp [Src.zoneP, hnz, q1, hc]))
    simp [results, Tryz.results27, go_sem]
 | none =>
   simp only [faultO]
   have hbd := Src.count_bd hc
   obtain ⟨d1, q1'⟩ := words_at hwo 1 (by omega)
   simp only [Nat.reduceMul, Nat.one_mul] at d1 q1'
   go_wp2_with fail
   go_at_call 15
   cases hp : Src.placeB (Src.tl ws 1)
   · rw [hp] at HPl
     refine Rets.use (HPl _).out ?_
     intro y2
     go_wp2_with fail
     refine wp_region_past_tail 6 (by kernel_rfl) (by kernel_rfl) ?_
     simp only [List.take_succ_cons, List.take_zero, List.drop_succ_cons, List.drop_zero]
     repeat (go_big_quiet_step ((go_at_call 52; exact Rets.quiet (HB _ _ _ _ _).out)))
     refine wpQuiet_nil ?_
     intro yE
     go_wp2
     refine bodyPost_ret (v := .tuple #[.agg #[.slice ar nr cr, .slice az nz cz, .slice al nl cl], faultC ⟨6, line, Src.pt ws 1⟩]) ?_ rfl (line_bad hKp (by rw [← Hres.out]; simp [Src.zoneP, hnz, q1, hc, hp]))
     simp [results, Tryz.results27, go_sem]
   rw [hp] at HPl
   refine Rets.use (HPl _).out ?_
   intro y2
   clear HPl
   go_wp2_with fail
   go_at_call 54
   refine (HE _ isext (by omega) (by omega)).out.mono ?_
   rintro _ _ ⟨x, y3, rfl, hx, rfl⟩
   clear HE
   have hff : faultS OUT = faultS (Src.eraP ws 2 line) := by rw [← Hres.out]; simp only [Src.zoneP, hnz, if_neg q1, hc, hp]; cases Src.eraP ws 2 line <;> rfl
   have hgood : ∀ S', OUT = .inr S' → S' = ⟨S.rules, S.zones ++ [⟨Src.tx ws 1, [x]⟩], S.links⟩ := by
    intro S' e
    rw [← Hres.out] at e
    simp only [Src.zoneP, hnz, if_neg q1, hc, hp] at e
    cases hrp : Src.eraP ws 2 line with
    | inl f => rw [hrp] at e; cases e
    | inr r =>
      rw [hrp] at e
      injection e with e
      rw [← e, hx r hrp]
   generalize faultS (Src.eraP ws 2 line) = ff at *
   obtain ⟨fe, fl, fa⟩ := ff
   obtain ⟨xo, xk, xs, xr, xf, xu, xy, xm, xq, xw, xd, xt, xz⟩ := x
   have Hff := Lib.hid hff
   have Hgood := Lib.hid hgood
   have hwz : w.heap.size + 1 + 1 < y3.x.heap.size := (inferInstance : InW (w.heap.size + 1 + 1) y3.x).lt
   have q70 : ¬ w.heap.size = y3.x.heap.size + 1 := by omega
   have q71 : ¬ w.heap.size + 1 = y3.x.heap.size + 1 := by omega
   have q72 : ¬ w.heap.size + 1 + 1 = y3.x.heap.size + 1 := by omega
   have q73 : ¬ w.heap.size = y3.x.heap.size := by omega
   have q74 : ¬ w.heap.size + 1 = y3.x.heap.size := by omega
   have hwy : w.heap.size ≤ y3.x.heap.size := by omega
   have hFN : F.w.heap.size ≤ (y3.x.heap.size + 1 + 1) := by omega
   have hwN : w.heap.size ≤ (y3.x.heap.size + 1 + 1) := by omega
   have HB20 := box2a y3.x #[.int .i64 xo, .int .i64 xk, .int .i64 xs, .string xr, .string xf, .bool xu, .int .i64 xy, .int .i64 xm, .int .i64 xq, .int .i64 xw, .int .i64 xd, .int .i64 xt, .int .i64 xz] #[.int .i64 fe, .int .i64 fl, .int .i64 fa] 56 29
   have HB21 := box2 y3.x #[.int .i64 xo, .int .i64 xk, .int .i64 xs, .string xr, .string xf, .bool xu, .int .i64 xy, .int .i64 xm, .int .i64 xq, .int .i64 xw, .int .i64 xd, .int .i64 xt, .int .i64 xz] #[.int .i64 fe, .int .i64 fl, .int .i64 fa] 56 29
   have HV0 : ((((y3.x.alloc (.cells #[.int .i64 xo, .int .i64 xk, .int .i64 xs, .string xr, .string xf, .bool xu, .int .i64 xy, .int .i64 xm, .int .i64 xq, .int .i64 xw, .int .i64 xd, .int .i64 xt, .int .i64 xz] 56)).alloc (.cells #[.int .i64 fe, .int .i64 fl, .int .i64 fa] 29))).alloc (.cells #[.int .i64 xo, .int .i64 xk, .int .i64 xs, .string xr, .string xf, .bool xu, .int .i64 xy, .int .i64 xm, .int .i64 xq, .int .i64 xw, .int .i64 xd, .int .i64 xt, .int .i64 xz] 56)).ownsRow (y3.x.heap.size + 1 + 1) 56 13 (.slice (some ⟨(y3.x.heap.size + 1 + 1), 0, none⟩) 1 1) 1 [.int .i64 xo, .int .i64 xk, .int .i64 xs, .string xr, .string xf, .bool xu, .int .i64 xy, .int .i64 xm, .int .i64 xq, .int .i64 xw, .int .i64 xd, .int .i64 xt, .int .i64 xz] := by
    have := World.ownsRow_lit (base := (y3.x.heap.size + 1 + 1)) (e := 56) (size := 13) ((y3.x.alloc (.cells #[.int .i64 xo, .int .i64 xk, .int .i64 xs, .string xr, .string xf, .bool xu, .int .i64 xy, .int .i64 xm, .int .i64 xq, .int .i64 xw, .int .i64 xd, .int .i64 xt, .int .i64 xz] 56)).alloc (.cells #[.int .i64 fe, .int .i64 fl, .int .i64 fa] 29)) #[.int .i64 xo, .int .i64 xk, .int .i64 xs, .string xr, .string xf, .bool xu, .int .i64 xy, .int .i64 xm, .int .i64 xq, .int .i64 xw, .int .i64 xd, .int .i64 xt, .int .i64 xz] 1 (by rw [World.size_alloc, World.size_alloc]; exact Nat.le_refl _) (by unfold maxLen; omega) rfl
    rw [World.size_alloc, World.size_alloc] at this
    exact this
   clear hff hgood hx
   simp only [eraCells] at *
   go_wp2_with fail
   refine wp_region_held_drew (S := fun w' => w'.cell? ⟨bl, 2, none⟩ = some (.string (Src.tx ws 1)) ∧ w'.cell? ⟨y3.x.heap.size, 0, none⟩ = some (.int .i64 xo) ∧ w'.cell? ⟨y3.x.heap.size, 1, none⟩ = some (.int .i64 xk) ∧ w'.cell? ⟨y3.x.heap.size, 2, none⟩ = some (.int .i64 xs) ∧ w'.cell? ⟨y3.x.heap.size, 3, none⟩ = some (.string xr) ∧ w'.cell? ⟨y3.x.heap.size, 4, none⟩ = some (.string xf) ∧ w'.cell? ⟨y3.x.heap.size, 5, none⟩ = some (.bool xu) ∧ w'.cell? ⟨y3.x.heap.size, 6, none⟩ = some (.int .i64 xy) ∧ w'.cell? ⟨y3.x.heap.size, 7, none⟩ = some (.int .i64 xm) ∧ w'.cell? ⟨y3.x.heap.size, 8, none⟩ = some (.int .i64 xq) ∧ w'.cell? ⟨y3.x.heap.size, 9, none⟩ = some (.int .i64 xw) ∧ w'.cell? ⟨y3.x.heap.size, 10, none⟩ = some (.int .i64 xd) ∧ w'.cell? ⟨y3.x.heap.size, 11, none⟩ = some (.int .i64 xt) ∧ w'.cell? ⟨y3.x.heap.size, 12, none⟩ = some (.int .i64 xz)) (by kernel_rfl) (by (try dsimp only); ((repeat' apply And.intro) <;> (first | (go_simp; done) | (go_simp; rw [cell_alloc_eq _ _ (by simp [Past.set])]; rfl) | (simp [*, World.cell?_setCell_far]; done)))) (fun hHeld => ?_)
   refine wpAnyH_take (i := 0) (oi := ⟨some 157, _, _, _, _, _⟩) (v := ?_) rfl (by kernel_rfl) (by kernel_rfl) (by kernel_rfl) (fun _ _ _ h => h) (Or.inl ⟨by rfl, ?_⟩) (by assumption) ?_
   rotate_left
   · intro w hSw; (try dsimp only at hSw); go_simp; first | done | with_reducible rfl | rw [if_pos (by omega)] | rw [if_neg (by omega)]
   try simp only [Act.put, putA, putZ, putS]
   refine wpAnyH_take (i := 2) (oi := ⟨some 159, _, _, _, _, _⟩) (v := ?_) rfl (by kernel_rfl) (by kernel_rfl) (by kernel_rfl) (fun _ _ _ h => h) (Or.inl ⟨by rfl, ?_⟩) (by assumption) ?_
   rotate_left
   · intro w hSw; (try dsimp only at hSw); go_simp; first | done | with_reducible rfl | rw [if_pos (by omega)] | rw [if_neg (by omega)]
   try simp only [Act.put, putA, putZ, putS]
   refine wpAnyH_take (i := 3) (oi := ⟨some 160, _, _, _, _, _⟩) (v := ?_) rfl (by kernel_rfl) (by kernel_rfl) (by kernel_rfl) (fun _ _ _ h => h) (Or.inl ⟨by rfl, ?_⟩) (by assumption) ?_
   rotate_left
   · intro w hSw; (try dsimp only at hSw); go_simp; first | done | with_reducible rfl | rw [if_pos (by omega)] | rw [if_neg (by omega)]
   try simp only [Act.put, putA, putZ, putS]
   refine wpAnyH_take (i := 4) (oi := ⟨some 161, _, _, _, _, _⟩) (v := ?_) rfl (by kernel_rfl) (by kernel_rfl) (by kernel_rfl) (fun _ _ _ h => h) (Or.inl ⟨by rfl, ?_⟩) (by assumption) ?_
   rotate_left
   · intro w hSw; (try dsimp only at hSw); go_simp; first | done | with_reducible rfl | rw [if_pos (by omega)] | rw [if_neg (by omega)]
   try simp only [Act.put, putA, putZ, putS]
   refine wpAnyH_take (i := 5) (oi := ⟨some 162, _, _, _, _, _⟩) (v := ?_) rfl (by kernel_rfl) (by kernel_rfl) (by kernel_rfl) (fun _ _ _ h => h) (Or.inl ⟨by rfl, ?_⟩) (by assumption) ?_
   rotate_left
   · intro w hSw; (try dsimp only at hSw); go_simp; first | done | with_reducible rfl | rw [if_pos (by omega)] | rw [if_neg (by omega)]
   try simp only [Act.put, putA, putZ, putS]
   refine wpAnyH_take (i := 6) (oi := ⟨some 163, _, _, _, _, _⟩) (v := ?_) rfl (by kernel_rfl) (by kernel_rfl) (by kernel_rfl) (fun _ _ _ h => h) (Or.inl ⟨by rfl, ?_⟩) (by assumption) ?_
   rotate_left
   · intro w hSw; (try dsimp only at hSw); go_simp; first | done | with_reducible rfl | rw [if_pos (by omega)] | rw [if_neg (by omega)]
   try simp only [Act.put, putA, putZ, putS]
   refine wpAnyH_ready (rs := [1, 7]) (by kernel_rfl) (by simp) ?_
   refine AllReadyH.cons (o := ⟨some 158, _, _, _, _, _⟩) rfl (fun K hK => ?_) ?_
   · go_simp
     refine hK.out _ _ ?_ (fun hHeld => ?_)
     · (try dsimp only); ((repeat' apply And.intro) <;> (first | (go_simp; done) | (go_simp; rw [cell_alloc_eq _ _ (by simp [Past.set])]; rfl) | (simp [*, World.cell?_setCell_far]; done)))
     clear hK K
     try simp only [Act.put, putA, putZ, putS]
     refine wpAnyH_ready (rs := [7]) (by kernel_rfl) (by simp) ?_
     refine AllReadyH.cons (o := ⟨some 164, _, _, _, _, _⟩) rfl (fun K hK => ?_) ?_
     · go_simp
       refine hK.out _ _ ?_ (fun hHeld => ?_)
       · (try dsimp only); ((repeat' apply And.intro) <;> (first | (go_simp; done) | (go_simp; rw [cell_alloc_eq _ _ (by simp [Past.set])]; rfl) | (simp [*, World.cell?_setCell_far]; done)))
       clear hK K
       try simp only [Act.put, putA, putZ, putS]
       refine wpAnyH_take (i := 8) (oi := ⟨some 165, _, _, _, _, _⟩) (v := ?_) rfl (by kernel_rfl) (by kernel_rfl) (by kernel_rfl) (fun _ _ _ h => h) (Or.inl ⟨by rfl, ?_⟩) (by assumption) ?_
       rotate_left
       · intro w hSw; (try dsimp only at hSw); go_simp; first | done | with_reducible rfl | rw [if_pos (by omega)] | rw [if_neg (by omega)]
       try simp only [Act.put, putA, putZ, putS]
       refine wpAnyH_ready (rs := [9]) (by kernel_rfl) (by simp) ?_
       refine AllReadyH.cons (o := ⟨some 166, _, _, _, _, _⟩) rfl (fun K hK => ?_) ?_
       · go_simp
         refine hK.out _ _ ?_ (fun hHeld => ?_)
         · (try dsimp only); ((repeat' apply And.intro) <;> (first | (go_simp; done) | (go_simp; rw [cell_alloc_eq _ _ (by simp [Past.set])]; rfl) | (simp [*, World.cell?_setCell_far]; done)))
         clear hK K
         try simp only [Act.put, putA, putZ, putS]
         refine wpAnyH_ready (rs := [10]) (by kernel_rfl) (by simp) ?_
         refine AllReadyH.cons (o := ⟨some 167, _, _, _, _, _⟩) rfl (fun K hK => ?_) ?_
         · refine wp_append_own _ _ _ 23 rfl F.w.heap.size 59 i0 (.agg #[.string ByteArray.empty, .slice none 0 0]) 2 40 Tryz.underlying23 hi0 hz0 hz1 hz2 rfl (by decide) (.slice az nz cz) nz (zoneRow zp) rfl (own_past hzo isext) _ 1 1 [.string (Src.tx ws 1), .slice (some ⟨(y3.x.heap.size + 1 + 1), 0, none⟩) 1 1] rfl rfl (new_cells' _ _ _ _ (by simp)) (by simp [Value.oneCell']) (by unfold maxLen; omega) (by omega) (leB (a := w) hFw) (fun v' w1 hown1 hgrow1 _ => ?_); obtain ⟨av', cap', rfl⟩ := owns_shape hown1; have B5 := blk_newT (HBx.1.ext isext) hzo (by omega) hgrow1; have B10 := blk_newT (HBx.2.1.ext isext) hzo (by omega) hgrow1; have B11 := blk_newT (HBx.2.2.ext isext) hzo (by omega) hgrow1; have B20 := blk_newT (b := y3.x.heap.size) (HB20.ext isext) hzo hwy hgrow1; have i20 : InW y3.x.heap.size w1 := ⟨B20.lt⟩; have ec0 : w1.cell? ⟨y3.x.heap.size, 0, none⟩ = some (.int .i64 xo) := (B20.cell 0).trans rfl; have ec1 : w1.cell? ⟨y3.x.heap.size, 1, none⟩ = some (.int .i64 xk) := (B20.cell 1).trans rfl; have ec2 : w1.cell? ⟨y3.x.heap.size, 2, none⟩ = some (.int .i64 xs) := (B20.cell 2).trans rfl; have ec3 : w1.cell? ⟨y3.x.heap.size, 3, none⟩ = some (.string xr) := (B20.cell 3).trans rfl; have ec4 : w1.cell? ⟨y3.x.heap.size, 4, none⟩ = some (.string xf) := (B20.cell 4).trans rfl; have ec5 : w1.cell? ⟨y3.x.heap.size, 5, none⟩ = some (.bool xu) := (B20.cell 5).trans rfl; have ec6 : w1.cell? ⟨y3.x.heap.size, 6, none⟩ = some (.int .i64 xy) := (B20.cell 6).trans rfl; have ec7 : w1.cell? ⟨y3.x.heap.size, 7, none⟩ = some (.int .i64 xm) := (B20.cell 7).trans rfl; have ec8 : w1.cell? ⟨y3.x.heap.size, 8, none⟩ = some (.int .i64 xq) := (B20.cell 8).trans rfl; have ec9 : w1.cell? ⟨y3.x.heap.size, 9, none⟩ = some (.int .i64 xw) := (B20.cell 9).trans rfl; have ec10 : w1.cell? ⟨y3.x.heap.size, 10, none⟩ = some (.int .i64 xd) := (B20.cell 10).trans rfl; have ec11 : w1.cell? ⟨y3.x.heap.size, 11, none⟩ = some (.int .i64 xt) := (B20.cell 11).trans rfl; have ec12 : w1.cell? ⟨y3.x.heap.size, 12, none⟩ = some (.int .i64 xz) := (B20.cell 12).trans rfl; have B21 := blk_newT (b := y3.x.heap.size + 1) (HB21.ext isext) hzo (by omega) hgrow1; have hL : Ln F w w1 w.heap.size (w.heap.size + 1) (w.heap.size + 1 + 1) (.slice ar nr cr) (.slice av' (nz + 1) cap') (.slice al nl cl) (zp ++ [(⟨Src.tx ws 1, [⟨xo, xk, xs, xr, xf, xu, xy, xm, xq, xw, xd, xt, xz⟩]⟩, .slice (some ⟨(y3.x.heap.size + 1 + 1), 0, none⟩) 1 1)]) (some ⟨S.rules, S.zones ++ [⟨Src.tx ws 1, [⟨xo, xk, xs, xr, xf, xu, xy, xm, xq, xw, xd, xt, xz⟩]⟩], S.links⟩) := ⟨(hKp.trans isext).grownT (own_past hzo isext) (by decide) hgrow1, frame_grown isext (own_past hzo isext) (by decide) (by decide) hgrow1, ⟨by omega, by omega, by omega⟩, fun S' e => by injection e with e; subst e; exact Tree.zone (hT.past isext) (by rw [hnz]; unfold zoneRow; rw [rowOf_snoc]; exact hown1) hgrow1 (B := (y3.x.heap.size + 1 + 1)) hFN (fun p hp => (low_size (hT.all_eras p hp)).le hwN) (own_past HV0 isext), ⟨_, B5⟩, ⟨_, B10⟩, ⟨_, B11⟩, by omega, by omega, by omega⟩; have i5 : InW w.heap.size w1 := ⟨B5.lt⟩; have i10 : InW (w.heap.size + 1) w1 := ⟨B10.lt⟩; have i11 : InW (w.heap.size + 1 + 1) w1 := ⟨B11.lt⟩; have k0 : w1.cell? ⟨w.heap.size, 0, none⟩ = some (.slice ar nr cr) := (B5.cell 0).trans rfl; have k1 : w1.cell? ⟨w.heap.size, 1, none⟩ = some (.slice az nz cz) := (B5.cell 1).trans rfl; have k2 : w1.cell? ⟨w.heap.size, 2, none⟩ = some (.slice al nl cl) := (B5.cell 2).trans rfl; have rr0 : w1.cell? ⟨w.heap.size + 1, 0, none⟩ = some (.slice none 0 0) := (B10.cell 0).trans rfl; have rr1 : w1.cell? ⟨w.heap.size + 1, 1, none⟩ = some (.slice none 0 0) := (B10.cell 1).trans rfl; have rr2 : w1.cell? ⟨w.heap.size + 1, 2, none⟩ = some (.slice none 0 0) := (B10.cell 2).trans rfl; have pp0 : w1.cell? ⟨w.heap.size + 1 + 1, 0, none⟩ = some (.int .i64 0) := (B11.cell 0).trans rfl; have pp1 : w1.cell? ⟨w.heap.size + 1 + 1, 1, none⟩ = some (.int .i64 0) := (B11.cell 1).trans rfl; have pp2 : w1.cell? ⟨w.heap.size + 1 + 1, 2, none⟩ = some (.int .i64 0) := (B11.cell 2).trans rfl; have rf0 := B10.frozen 0; have rf1 := B10.frozen 1; have rf2 := B10.frozen 2; have pf0 := B11.frozen 0; have pf1 := B11.frozen 1; have pf2 := B11.frozen 2; have kf := B5.frozen 1; have hb9 := (hwo.lt bl rfl).2; have q5 : ¬ w.heap.size = y3.x.heap.size := (by omega); have q6 : ¬ w.heap.size = bl := (by omega); have hW1 := own_other (own_past hwo isext) (own_past hzo isext) (by decide) hgrow1; have e1 := (words_at hW1 1 (by omega)).1; simp only [Nat.reduceMul, Nat.one_mul] at e1; have i21 : InW (y3.x.heap.size + 1) w1 := ⟨B21.lt⟩; have l0 : w1.cell? ⟨y3.x.heap.size + 1, 0, none⟩ = some (.int .i64 fe) := (B21.cell 0).trans rfl; have l1 : w1.cell? ⟨y3.x.heap.size + 1, 1, none⟩ = some (.int .i64 fl) := (B21.cell 1).trans rfl; have l2 : w1.cell? ⟨y3.x.heap.size + 1, 2, none⟩ = some (.int .i64 fa) := (B21.cell 2).trans rfl
           refine hK.out _ _ ?_ (fun hHeld => ?_)
           · (try dsimp only); ((repeat' apply And.intro) <;> (first | (go_simp; done) | (go_simp; rw [cell_alloc_eq _ _ (by simp [Past.set])]; rfl) | (simp [*, World.cell?_setCell_far]; done)))
           clear hK K
           try simp only [Act.put, putA, putZ, putS]
           refine wpAnyH_take (i := 11) (oi := ⟨some 168, _, _, _, _, _⟩) (v := ?_) rfl (by kernel_rfl) (by kernel_rfl) (by kernel_rfl) (fun _ _ _ h => h) (Or.inl ⟨by rfl, ?_⟩) (by assumption) ?_
           rotate_left
           · intro w hSw; (try dsimp only at hSw); go_simp; first | done | with_reducible rfl | rw [if_pos (by omega)] | rw [if_neg (by omega)]
           try simp only [Act.put, putA, putZ, putS]
           refine wpAnyH_ready (rs := [12]) (by kernel_rfl) (by simp) ?_
           refine AllReadyH.cons (o := ⟨none, _, _, _, _, _⟩) rfl (fun K hK => ?_) ?_
           · go_simp
             refine hK.out _ _ ?_ (fun hHeld => ?_)
             · (try dsimp only); ((repeat' apply And.intro) <;> (first | (go_simp; done) | (go_simp; rw [cell_alloc_eq _ _ (by simp [Past.set])]; rfl) | (simp [*, World.cell?_setCell_far]; done)))
             clear hK K
             try simp only [Act.put, putA, putZ, putS]
             refine wpAnyH_done (by kernel_rfl) ?_ _
             go_wp2_with fail
             refine wp_region_held_drew (S := fun _ => True) (by kernel_rfl) trivial (fun hHeld => ?_)
             refine wpAnyH_ready (rs := [0, 1]) (by kernel_rfl) (by simp) ?_
             refine AllReadyH.cons (o := ⟨some 169, _, _, _, _, _⟩) rfl (fun K hK => ?_) ?_
             · go_simp
               refine hK.out _ _ ?_ (fun hHeld => ?_)
               · trivial
               clear hK K
               try simp only [Act.put, putA, putZ, putS]
               refine wpAnyH_ready (rs := [1, 2]) (by kernel_rfl) (by simp) ?_
               refine AllReadyH.cons (o := ⟨some 170, _, _, _, _, _⟩) rfl (fun K hK => ?_) ?_
               · go_simp
                 refine hK.out _ _ ?_ (fun hHeld => ?_)
                 · trivial
                 clear hK K
                 try simp only [Act.put, putA, putZ, putS]
                 refine wpAnyH_ready (rs := [2]) (by kernel_rfl) (by simp) ?_
                 refine AllReadyH.cons (o := ⟨none, _, _, _, _, _⟩) rfl (fun K hK => ?_) ?_
                 · go_simp
                   refine hK.out _ _ ?_ (fun hHeld => ?_)
                   · trivial
                   clear hK K
                   try simp only [Act.put, putA, putZ, putS]
                   refine wpAnyH_ready (rs := [3]) (by kernel_rfl) (by simp) ?_
                   refine AllReadyH.cons (o := ⟨none, _, _, _, _, _⟩) rfl (fun K hK => ?_) ?_
                   · go_simp
                     refine hK.out _ _ ?_ (fun hHeld => ?_)
                     · trivial
                     clear hK K
                     try simp only [Act.put, putA, putZ, putS]
                     refine wpAnyH_done (by kernel_rfl) ?_ _
                     go_wp2
                     refine bodyPost_ret (v := .tuple #[.agg #[.slice ar nr cr, .slice av' (nz + 1) cap', .slice al nl cl], faultC ⟨fe, fl, fa⟩]) ?_ rfl (line_end ((((((((hL.store (.inl rfl)).store (.inr (.inl rfl))).store (.inr (.inl rfl))).store (.inr (.inl rfl))).store (.inr (.inr rfl))).store (.inr (.inr rfl))).store (.inr (.inr rfl))).past (Ext.drew (Ext.refl _))) (by exact Hff.out) (fun S' e => by rw [Hgood.out S' e]))
                     simp [results, Tryz.results27, go_sem, rr0, rr1, rr2, pp0, pp1, pp2]
                   exact AllReadyH.nil
                 exact AllReadyH.nil
               refine AllReadyH.cons (o := ⟨none, _, _, _, _, _⟩) rfl (fun K hK => ?_) ?_
               · go_simp
                 refine hK.out _ _ ?_ (fun hHeld => ?_)
                 · trivial
                 clear hK K
                 try simp only [Act.put, putA, putZ, putS]
                 refine wpAnyH_ready (rs := [1]) (by kernel_rfl) (by simp) ?_
                 refine AllReadyH.cons (o := ⟨some 170, _, _, _, _, _⟩) rfl (fun K hK => ?_) ?_
                 · go_simp
                   refine hK.out _ _ ?_ (fun hHeld => ?_)
                   · trivial
                   clear hK K
                   try simp only [Act.put, putA, putZ, putS]
                   refine wpAnyH_ready (rs := [3]) (by kernel_rfl) (by simp) ?_
                   refine AllReadyH.cons (o := ⟨none, _, _, _, _, _⟩) rfl (fun K hK => ?_) ?_
                   · go_simp
                     refine hK.out _ _ ?_ (fun hHeld => ?_)
                     · trivial
                     clear hK K
                     try simp only [Act.put, putA, putZ, putS]
                     refine wpAnyH_done (by kernel_rfl) ?_ _
                     go_wp2
                     refine bodyPost_ret (v := .tuple #[.agg #[.slice ar nr cr, .slice av' (nz + 1) cap', .slice al nl cl], faultC ⟨fe, fl, fa⟩]) ?_ rfl (line_end ((((((((hL.store (.inl rfl)).store (.inr (.inl rfl))).store (.inr (.inl rfl))).store (.inr (.inl rfl))).store (.inr (.inr rfl))).store (.inr (.inr rfl))).store (.inr (.inr rfl))).past (Ext.drew (Ext.refl _))) (by exact Hff.out) (fun S' e => by rw [Hgood.out S' e]))
                     simp [results, Tryz.results27, go_sem, rr0, rr1, rr2, pp0, pp1, pp2]
                   exact AllReadyH.nil
                 exact AllReadyH.nil
               exact AllReadyH.nil
             refine AllReadyH.cons (o := ⟨some 170, _, _, _, _, _⟩) rfl (fun K hK => ?_) ?_
             · go_simp
               refine hK.out _ _ ?_ (fun hHeld => ?_)
               · trivial
               clear hK K
               try simp only [Act.put, putA, putZ, putS]
               refine wpAnyH_ready (rs := [0]) (by kernel_rfl) (by simp) ?_
               refine AllReadyH.cons (o := ⟨some 169, _, _, _, _, _⟩) rfl (fun K hK => ?_) ?_
               · go_simp
                 refine hK.out _ _ ?_ (fun hHeld => ?_)
                 · trivial
                 clear hK K
                 try simp only [Act.put, putA, putZ, putS]
                 refine wpAnyH_ready (rs := [2]) (by kernel_rfl) (by simp) ?_
                 refine AllReadyH.cons (o := ⟨none, _, _, _, _, _⟩) rfl (fun K hK => ?_) ?_
                 · go_simp
                   refine hK.out _ _ ?_ (fun hHeld => ?_)
                   · trivial
                   clear hK K
                   try simp only [Act.put, putA, putZ, putS]
                   refine wpAnyH_ready (rs := [3]) (by kernel_rfl) (by simp) ?_
                   refine AllReadyH.cons (o := ⟨none, _, _, _, _, _⟩) rfl (fun K hK => ?_) ?_
                   · go_simp
                     refine hK.out _ _ ?_ (fun hHeld => ?_)
                     · trivial
                     clear hK K
                     try simp only [Act.put, putA, putZ, putS]
                     refine wpAnyH_done (by kernel_rfl) ?_ _
                     go_wp2
                     refine bodyPost_ret (v := .tuple #[.agg #[.slice ar nr cr, .slice av' (nz + 1) cap', .slice al nl cl], faultC ⟨fe, fl, fa⟩]) ?_ rfl (line_end ((((((((hL.store (.inl rfl)).store (.inr (.inl rfl))).store (.inr (.inl rfl))).store (.inr (.inl rfl))).store (.inr (.inr rfl))).store (.inr (.inr rfl))).store (.inr (.inr rfl))).past (Ext.drew (Ext.refl _))) (by exact Hff.out) (fun S' e => by rw [Hgood.out S' e]))
                     simp [results, Tryz.results27, go_sem, rr0, rr1, rr2, pp0, pp1, pp2]
                   exact AllReadyH.nil
                 exact AllReadyH.nil
               exact AllReadyH.nil
             exact AllReadyH.nil
           exact AllReadyH.nil
         exact AllReadyH.nil
       exact AllReadyH.nil
     exact AllReadyH.nil
   refine AllReadyH.cons (o := ⟨some 164, _, _, _, _, _⟩) rfl (fun K hK => ?_) ?_
   · go_simp
     refine hK.out _ _ ?_ (fun hHeld => ?_)
     · (try dsimp only); ((repeat' apply And.intro) <;> (first | (go_simp; done) | (go_simp; rw [cell_alloc_eq _ _ (by simp [Past.set])]; rfl) | (simp [*, World.cell?_setCell_far]; done)))
     clear hK K
     try simp only [Act.put, putA, putZ, putS]
     refine wpAnyH_take (i := 8) (oi := ⟨some 165, _, _, _, _, _⟩) (v := ?_) rfl (by kernel_rfl) (by kernel_rfl) (by kernel_rfl) (fun _ _ _ h => h) (Or.inl ⟨by rfl, ?_⟩) (by assumption) ?_
     rotate_left
     · intro w hSw; (try dsimp only at hSw); go_simp; first | done | with_reducible rfl | rw [if_pos (by omega)] | rw [if_neg (by omega)]
     try simp only [Act.put, putA, putZ, putS]
     refine wpAnyH_ready (rs := [1, 9]) (by kernel_rfl) (by simp) ?_
     refine AllReadyH.cons (o := ⟨some 158, _, _, _, _, _⟩) rfl (fun K hK => ?_) ?_
     · go_simp
       refine hK.out _ _ ?_ (fun hHeld => ?_)
       · (try dsimp only); ((repeat' apply And.intro) <;> (first | (go_simp; done) | (go_simp; rw [cell_alloc_eq _ _ (by simp [Past.set])]; rfl) | (simp [*, World.cell?_setCell_far]; done)))
       clear hK K
       try simp only [Act.put, putA, putZ, putS]
       refine wpAnyH_ready (rs := [9]) (by kernel_rfl) (by simp) ?_
       refine AllReadyH.cons (o := ⟨some 166, _, _, _, _, _⟩) rfl (fun K hK => ?_) ?_
       · go_simp
         refine hK.out _ _ ?_ (fun hHeld => ?_)
         · (try dsimp only); ((repeat' apply And.intro) <;> (first | (go_simp; done) | (go_simp; rw [cell_alloc_eq _ _ (by simp [Past.set])]; rfl) | (simp [*, World.cell?_setCell_far]; done)))
         clear hK K
         try simp only [Act.put, putA, putZ, putS]
         refine wpAnyH_ready (rs := [10]) (by kernel_rfl) (by simp) ?_
         refine AllReadyH.cons (o := ⟨some 167, _, _, _, _, _⟩) rfl (fun K hK => ?_) ?_
         · refine wp_append_own _ _ _ 23 rfl F.w.heap.size 59 i0 (.agg #[.string ByteArray.empty, .slice none 0 0]) 2 40 Tryz.underlying23 hi0 hz0 hz1 hz2 rfl (by decide) (.slice az nz cz) nz (zoneRow zp) rfl (own_past hzo isext) _ 1 1 [.string (Src.tx ws 1), .slice (some ⟨(y3.x.heap.size + 1 + 1), 0, none⟩) 1 1] rfl rfl (new_cells' _ _ _ _ (by simp)) (by simp [Value.oneCell']) (by unfold maxLen; omega) (by omega) (leB (a := w) hFw) (fun v' w1 hown1 hgrow1 _ => ?_); obtain ⟨av', cap', rfl⟩ := owns_shape hown1; have B5 := blk_newT (HBx.1.ext isext) hzo (by omega) hgrow1; have B10 := blk_newT (HBx.2.1.ext isext) hzo (by omega) hgrow1; have B11 := blk_newT (HBx.2.2.ext isext) hzo (by omega) hgrow1; have B20 := blk_newT (b := y3.x.heap.size) (HB20.ext isext) hzo hwy hgrow1; have i20 : InW y3.x.heap.size w1 := ⟨B20.lt⟩; have ec0 : w1.cell? ⟨y3.x.heap.size, 0, none⟩ = some (.int .i64 xo) := (B20.cell 0).trans rfl; have ec1 : w1.cell? ⟨y3.x.heap.size, 1, none⟩ = some (.int .i64 xk) := (B20.cell 1).trans rfl; have ec2 : w1.cell? ⟨y3.x.heap.size, 2, none⟩ = some (.int .i64 xs) := (B20.cell 2).trans rfl; have ec3 : w1.cell? ⟨y3.x.heap.size, 3, none⟩ = some (.string xr) := (B20.cell 3).trans rfl; have ec4 : w1.cell? ⟨y3.x.heap.size, 4, none⟩ = some (.string xf) := (B20.cell 4).trans rfl; have ec5 : w1.cell? ⟨y3.x.heap.size, 5, none⟩ = some (.bool xu) := (B20.cell 5).trans rfl; have ec6 : w1.cell? ⟨y3.x.heap.size, 6, none⟩ = some (.int .i64 xy) := (B20.cell 6).trans rfl; have ec7 : w1.cell? ⟨y3.x.heap.size, 7, none⟩ = some (.int .i64 xm) := (B20.cell 7).trans rfl; have ec8 : w1.cell? ⟨y3.x.heap.size, 8, none⟩ = some (.int .i64 xq) := (B20.cell 8).trans rfl; have ec9 : w1.cell? ⟨y3.x.heap.size, 9, none⟩ = some (.int .i64 xw) := (B20.cell 9).trans rfl; have ec10 : w1.cell? ⟨y3.x.heap.size, 10, none⟩ = some (.int .i64 xd) := (B20.cell 10).trans rfl; have ec11 : w1.cell? ⟨y3.x.heap.size, 11, none⟩ = some (.int .i64 xt) := (B20.cell 11).trans rfl; have ec12 : w1.cell? ⟨y3.x.heap.size, 12, none⟩ = some (.int .i64 xz) := (B20.cell 12).trans rfl; have B21 := blk_newT (b := y3.x.heap.size + 1) (HB21.ext isext) hzo (by omega) hgrow1; have hL : Ln F w w1 w.heap.size (w.heap.size + 1) (w.heap.size + 1 + 1) (.slice ar nr cr) (.slice av' (nz + 1) cap') (.slice al nl cl) (zp ++ [(⟨Src.tx ws 1, [⟨xo, xk, xs, xr, xf, xu, xy, xm, xq, xw, xd, xt, xz⟩]⟩, .slice (some ⟨(y3.x.heap.size + 1 + 1), 0, none⟩) 1 1)]) (some ⟨S.rules, S.zones ++ [⟨Src.tx ws 1, [⟨xo, xk, xs, xr, xf, xu, xy, xm, xq, xw, xd, xt, xz⟩]⟩], S.links⟩) := ⟨(hKp.trans isext).grownT (own_past hzo isext) (by decide) hgrow1, frame_grown isext (own_past hzo isext) (by decide) (by decide) hgrow1, ⟨by omega, by omega, by omega⟩, fun S' e => by injection e with e; subst e; exact Tree.zone (hT.past isext) (by rw [hnz]; unfold zoneRow; rw [rowOf_snoc]; exact hown1) hgrow1 (B := (y3.x.heap.size + 1 + 1)) hFN (fun p hp => (low_size (hT.all_eras p hp)).le hwN) (own_past HV0 isext), ⟨_, B5⟩, ⟨_, B10⟩, ⟨_, B11⟩, by omega, by omega, by omega⟩; have i5 : InW w.heap.size w1 := ⟨B5.lt⟩; have i10 : InW (w.heap.size + 1) w1 := ⟨B10.lt⟩; have i11 : InW (w.heap.size + 1 + 1) w1 := ⟨B11.lt⟩; have k0 : w1.cell? ⟨w.heap.size, 0, none⟩ = some (.slice ar nr cr) := (B5.cell 0).trans rfl; have k1 : w1.cell? ⟨w.heap.size, 1, none⟩ = some (.slice az nz cz) := (B5.cell 1).trans rfl; have k2 : w1.cell? ⟨w.heap.size, 2, none⟩ = some (.slice al nl cl) := (B5.cell 2).trans rfl; have rr0 : w1.cell? ⟨w.heap.size + 1, 0, none⟩ = some (.slice none 0 0) := (B10.cell 0).trans rfl; have rr1 : w1.cell? ⟨w.heap.size + 1, 1, none⟩ = some (.slice none 0 0) := (B10.cell 1).trans rfl; have rr2 : w1.cell? ⟨w.heap.size + 1, 2, none⟩ = some (.slice none 0 0) := (B10.cell 2).trans rfl; have pp0 : w1.cell? ⟨w.heap.size + 1 + 1, 0, none⟩ = some (.int .i64 0) := (B11.cell 0).trans rfl; have pp1 : w1.cell? ⟨w.heap.size + 1 + 1, 1, none⟩ = some (.int .i64 0) := (B11.cell 1).trans rfl; have pp2 : w1.cell? ⟨w.heap.size + 1 + 1, 2, none⟩ = some (.int .i64 0) := (B11.cell 2).trans rfl; have rf0 := B10.frozen 0; have rf1 := B10.frozen 1; have rf2 := B10.frozen 2; have pf0 := B11.frozen 0; have pf1 := B11.frozen 1; have pf2 := B11.frozen 2; have kf := B5.frozen 1; have hb9 := (hwo.lt bl rfl).2; have q5 : ¬ w.heap.size = y3.x.heap.size := (by omega); have q6 : ¬ w.heap.size = bl := (by omega); have hW1 := own_other (own_past hwo isext) (own_past hzo isext) (by decide) hgrow1; have e1 := (words_at hW1 1 (by omega)).1; simp only [Nat.reduceMul, Nat.one_mul] at e1; have i21 : InW (y3.x.heap.size + 1) w1 := ⟨B21.lt⟩; have l0 : w1.cell? ⟨y3.x.heap.size + 1, 0, none⟩ = some (.int .i64 fe) := (B21.cell 0).trans rfl; have l1 : w1.cell? ⟨y3.x.heap.size + 1, 1, none⟩ = some (.int .i64 fl) := (B21.cell 1).trans rfl; have l2 : w1.cell? ⟨y3.x.heap.size + 1, 2, none⟩ = some (.int .i64 fa) := (B21.cell 2).trans rfl
           refine hK.out _ _ ?_ (fun hHeld => ?_)
           · (try dsimp only); ((repeat' apply And.intro) <;> (first | (go_simp; done) | (go_simp; rw [cell_alloc_eq _ _ (by simp [Past.set])]; rfl) | (simp [*, World.cell?_setCell_far]; done)))
           clear hK K
           try simp only [Act.put, putA, putZ, putS]
           refine wpAnyH_take (i := 11) (oi := ⟨some 168, _, _, _, _, _⟩) (v := ?_) rfl (by kernel_rfl) (by kernel_rfl) (by kernel_rfl) (fun _ _ _ h => h) (Or.inl ⟨by rfl, ?_⟩) (by assumption) ?_
           rotate_left
           · intro w hSw; (try dsimp only at hSw); go_simp; first | done | with_reducible rfl | rw [if_pos (by omega)] | rw [if_neg (by omega)]
           try simp only [Act.put, putA, putZ, putS]
           refine wpAnyH_ready (rs := [12]) (by kernel_rfl) (by simp) ?_
           refine AllReadyH.cons (o := ⟨none, _, _, _, _, _⟩) rfl (fun K hK => ?_) ?_
           · go_simp
             refine hK.out _ _ ?_ (fun hHeld => ?_)
             · (try dsimp only); ((repeat' apply And.intro) <;> (first | (go_simp; done) | (go_simp; rw [cell_alloc_eq _ _ (by simp [Past.set])]; rfl) | (simp [*, World.cell?_setCell_far]; done)))
             clear hK K
             try simp only [Act.put, putA, putZ, putS]
             refine wpAnyH_done (by kernel_rfl) ?_ _
             go_wp2_with fail
             refine wp_region_held_drew (S := fun _ => True) (by kernel_rfl) trivial (fun hHeld => ?_)
             refine wpAnyH_ready (rs := [0, 1]) (by kernel_rfl) (by simp) ?_
             refine AllReadyH.cons (o := ⟨some 169, _, _, _, _, _⟩) rfl (fun K hK => ?_) ?_
             · go_simp
               refine hK.out _ _ ?_ (fun hHeld => ?_)
               · trivial
               clear hK K
               try simp only [Act.put, putA, putZ, putS]
               refine wpAnyH_ready (rs := [1, 2]) (by kernel_rfl) (by simp) ?_
               refine AllReadyH.cons (o := ⟨some 170, _, _, _, _, _⟩) rfl (fun K hK => ?_) ?_
               · go_simp
                 refine hK.out _ _ ?_ (fun hHeld => ?_)
                 · trivial
                 clear hK K
                 try simp only [Act.put, putA, putZ, putS]
                 refine wpAnyH_ready (rs := [2]) (by kernel_rfl) (by simp) ?_
                 refine AllReadyH.cons (o := ⟨none, _, _, _, _, _⟩) rfl (fun K hK => ?_) ?_
                 · go_simp
                   refine hK.out _ _ ?_ (fun hHeld => ?_)
                   · trivial
                   clear hK K
                   try simp only [Act.put, putA, putZ, putS]
                   refine wpAnyH_ready (rs := [3]) (by kernel_rfl) (by simp) ?_
                   refine AllReadyH.cons (o := ⟨none, _, _, _, _, _⟩) rfl (fun K hK => ?_) ?_
                   · go_simp
                     refine hK.out _ _ ?_ (fun hHeld => ?_)
                     · trivial
                     clear hK K
                     try simp only [Act.put, putA, putZ, putS]
                     refine wpAnyH_done (by kernel_rfl) ?_ _
                     go_wp2
                     refine bodyPost_ret (v := .tuple #[.agg #[.slice ar nr cr, .slice av' (nz + 1) cap', .slice al nl cl], faultC ⟨fe, fl, fa⟩]) ?_ rfl (line_end ((((((((hL.store (.inl rfl)).store (.inr (.inl rfl))).store (.inr (.inl rfl))).store (.inr (.inl rfl))).store (.inr (.inr rfl))).store (.inr (.inr rfl))).store (.inr (.inr rfl))).past (Ext.drew (Ext.refl _))) (by exact Hff.out) (fun S' e => by rw [Hgood.out S' e]))
                     simp [results, Tryz.results27, go_sem, rr0, rr1, rr2, pp0, pp1, pp2]
                   exact AllReadyH.nil
                 exact AllReadyH.nil
               refine AllReadyH.cons (o := ⟨none, _, _, _, _, _⟩) rfl (fun K hK => ?_) ?_
               · go_simp
                 refine hK.out _ _ ?_ (fun hHeld => ?_)
                 · trivial
                 clear hK K
                 try simp only [Act.put, putA, putZ, putS]
                 refine wpAnyH_ready (rs := [1]) (by kernel_rfl) (by simp) ?_
                 refine AllReadyH.cons (o := ⟨some 170, _, _, _, _, _⟩) rfl (fun K hK => ?_) ?_
                 · go_simp
                   refine hK.out _ _ ?_ (fun hHeld => ?_)
                   · trivial
                   clear hK K
                   try simp only [Act.put, putA, putZ, putS]
                   refine wpAnyH_ready (rs := [3]) (by kernel_rfl) (by simp) ?_
                   refine AllReadyH.cons (o := ⟨none, _, _, _, _, _⟩) rfl (fun K hK => ?_) ?_
                   · go_simp
                     refine hK.out _ _ ?_ (fun hHeld => ?_)
                     · trivial
                     clear hK K
                     try simp only [Act.put, putA, putZ, putS]
                     refine wpAnyH_done (by kernel_rfl) ?_ _
                     go_wp2
                     refine bodyPost_ret (v := .tuple #[.agg #[.slice ar nr cr, .slice av' (nz + 1) cap', .slice al nl cl], faultC ⟨fe, fl, fa⟩]) ?_ rfl (line_end ((((((((hL.store (.inl rfl)).store (.inr (.inl rfl))).store (.inr (.inl rfl))).store (.inr (.inl rfl))).store (.inr (.inr rfl))).store (.inr (.inr rfl))).store (.inr (.inr rfl))).past (Ext.drew (Ext.refl _))) (by exact Hff.out) (fun S' e => by rw [Hgood.out S' e]))
                     simp [results, Tryz.results27, go_sem, rr0, rr1, rr2, pp0, pp1, pp2]
                   exact AllReadyH.nil
                 exact AllReadyH.nil
               exact AllReadyH.nil
             refine AllReadyH.cons (o := ⟨some 170, _, _, _, _, _⟩) rfl (fun K hK => ?_) ?_
             · go_simp
               refine hK.out _ _ ?_ (fun hHeld => ?_)
               · trivial
               clear hK K
               try simp only [Act.put, putA, putZ, putS]
               refine wpAnyH_ready (rs := [0]) (by kernel_rfl) (by simp) ?_
               refine AllReadyH.cons (o := ⟨some 169, _, _, _, _, _⟩) rfl (fun K hK => ?_) ?_
               · go_simp
                 refine hK.out _ _ ?_ (fun hHeld => ?_)
                 · trivial
                 clear hK K
                 try simp only [Act.put, putA, putZ, putS]
                 refine wpAnyH_ready (rs := [2]) (by kernel_rfl) (by simp) ?_
                 refine AllReadyH.cons (o := ⟨none, _, _, _, _, _⟩) rfl (fun K hK => ?_) ?_
                 · go_simp
                   refine hK.out _ _ ?_ (fun hHeld => ?_)
                   · trivial
                   clear hK K
                   try simp only [Act.put, putA, putZ, putS]
                   refine wpAnyH_ready (rs := [3]) (by kernel_rfl) (by simp) ?_
                   refine AllReadyH.cons (o := ⟨none, _, _, _, _, _⟩) rfl (fun K hK => ?_) ?_
                   · go_simp
                     refine hK.out _ _ ?_ (fun hHeld => ?_)
                     · trivial
                     clear hK K
                     try simp only [Act.put, putA, putZ, putS]
                     refine wpAnyH_done (by kernel_rfl) ?_ _
                     go_wp2
                     refine bodyPost_ret (v := .tuple #[.agg #[.slice ar nr cr, .slice av' (nz + 1) cap', .slice al nl cl], faultC ⟨fe, fl, fa⟩]) ?_ rfl (line_end ((((((((hL.store (.inl rfl)).store (.inr (.inl rfl))).store (.inr (.inl rfl))).store (.inr (.inl rfl))).store (.inr (.inr rfl))).store (.inr (.inr rfl))).store (.inr (.inr rfl))).past (Ext.drew (Ext.refl _))) (by exact Hff.out) (fun S' e => by rw [Hgood.out S' e]))
                     simp [results, Tryz.results27, go_sem, rr0, rr1, rr2, pp0, pp1, pp2]
                   exact AllReadyH.nil
                 exact AllReadyH.nil
               exact AllReadyH.nil
             exact AllReadyH.nil
           exact AllReadyH.nil
         exact AllReadyH.nil
       exact AllReadyH.nil
     refine AllReadyH.cons (o := ⟨some 166, _, _, _, _, _⟩) rfl (fun K hK => ?_) ?_
     · go_simp
       refine hK.out _ _ ?_ (fun hHeld => ?_)
       · (try dsimp only); ((repeat' apply And.intro) <;> (first | (go_simp; done) | (go_simp; rw [cell_alloc_eq _ _ (by simp [Past.set])]; rfl) | (simp [*, World.cell?_setCell_far]; done)))
       clear hK K
       try simp only [Act.put, putA, putZ, putS]
       refine wpAnyH_ready (rs := [1]) (by kernel_rfl) (by simp) ?_
       refine AllReadyH.cons (o := ⟨some 158, _, _, _, _, _⟩) rfl (fun K hK => ?_) ?_
       · go_simp
         refine hK.out _ _ ?_ (fun hHeld => ?_)
         · (try dsimp only); ((repeat' apply And.intro) <;> (first | (go_simp; done) | (go_simp; rw [cell_alloc_eq _ _ (by simp [Past.set])]; rfl) | (simp [*, World.cell?_setCell_far]; done)))
         clear hK K
         try simp only [Act.put, putA, putZ, putS]
         refine wpAnyH_ready (rs := [10]) (by kernel_rfl) (by simp) ?_
         refine AllReadyH.cons (o := ⟨some 167, _, _, _, _, _⟩) rfl (fun K hK => ?_) ?_
         · refine wp_append_own _ _ _ 23 rfl F.w.heap.size 59 i0 (.agg #[.string ByteArray.empty, .slice none 0 0]) 2 40 Tryz.underlying23 hi0 hz0 hz1 hz2 rfl (by decide) (.slice az nz cz) nz (zoneRow zp) rfl (own_past hzo isext) _ 1 1 [.string (Src.tx ws 1), .slice (some ⟨(y3.x.heap.size + 1 + 1), 0, none⟩) 1 1] rfl rfl (new_cells' _ _ _ _ (by simp)) (by simp [Value.oneCell']) (by unfold maxLen; omega) (by omega) (leB (a := w) hFw) (fun v' w1 hown1 hgrow1 _ => ?_); obtain ⟨av', cap', rfl⟩ := owns_shape hown1; have B5 := blk_newT (HBx.1.ext isext) hzo (by omega) hgrow1; have B10 := blk_newT (HBx.2.1.ext isext) hzo (by omega) hgrow1; have B11 := blk_newT (HBx.2.2.ext isext) hzo (by omega) hgrow1; have B20 := blk_newT (b := y3.x.heap.size) (HB20.ext isext) hzo hwy hgrow1; have i20 : InW y3.x.heap.size w1 := ⟨B20.lt⟩; have ec0 : w1.cell? ⟨y3.x.heap.size, 0, none⟩ = some (.int .i64 xo) := (B20.cell 0).trans rfl; have ec1 : w1.cell? ⟨y3.x.heap.size, 1, none⟩ = some (.int .i64 xk) := (B20.cell 1).trans rfl; have ec2 : w1.cell? ⟨y3.x.heap.size, 2, none⟩ = some (.int .i64 xs) := (B20.cell 2).trans rfl; have ec3 : w1.cell? ⟨y3.x.heap.size, 3, none⟩ = some (.string xr) := (B20.cell 3).trans rfl; have ec4 : w1.cell? ⟨y3.x.heap.size, 4, none⟩ = some (.string xf) := (B20.cell 4).trans rfl; have ec5 : w1.cell? ⟨y3.x.heap.size, 5, none⟩ = some (.bool xu) := (B20.cell 5).trans rfl; have ec6 : w1.cell? ⟨y3.x.heap.size, 6, none⟩ = some (.int .i64 xy) := (B20.cell 6).trans rfl; have ec7 : w1.cell? ⟨y3.x.heap.size, 7, none⟩ = some (.int .i64 xm) := (B20.cell 7).trans rfl; have ec8 : w1.cell? ⟨y3.x.heap.size, 8, none⟩ = some (.int .i64 xq) := (B20.cell 8).trans rfl; have ec9 : w1.cell? ⟨y3.x.heap.size, 9, none⟩ = some (.int .i64 xw) := (B20.cell 9).trans rfl; have ec10 : w1.cell? ⟨y3.x.heap.size, 10, none⟩ = some (.int .i64 xd) := (B20.cell 10).trans rfl; have ec11 : w1.cell? ⟨y3.x.heap.size, 11, none⟩ = some (.int .i64 xt) := (B20.cell 11).trans rfl; have ec12 : w1.cell? ⟨y3.x.heap.size, 12, none⟩ = some (.int .i64 xz) := (B20.cell 12).trans rfl; have B21 := blk_newT (b := y3.x.heap.size + 1) (HB21.ext isext) hzo (by omega) hgrow1; have hL : Ln F w w1 w.heap.size (w.heap.size + 1) (w.heap.size + 1 + 1) (.slice ar nr cr) (.slice av' (nz + 1) cap') (.slice al nl cl) (zp ++ [(⟨Src.tx ws 1, [⟨xo, xk, xs, xr, xf, xu, xy, xm, xq, xw, xd, xt, xz⟩]⟩, .slice (some ⟨(y3.x.heap.size + 1 + 1), 0, none⟩) 1 1)]) (some ⟨S.rules, S.zones ++ [⟨Src.tx ws 1, [⟨xo, xk, xs, xr, xf, xu, xy, xm, xq, xw, xd, xt, xz⟩]⟩], S.links⟩) := ⟨(hKp.trans isext).grownT (own_past hzo isext) (by decide) hgrow1, frame_grown isext (own_past hzo isext) (by decide) (by decide) hgrow1, ⟨by omega, by omega, by omega⟩, fun S' e => by injection e with e; subst e; exact Tree.zone (hT.past isext) (by rw [hnz]; unfold zoneRow; rw [rowOf_snoc]; exact hown1) hgrow1 (B := (y3.x.heap.size + 1 + 1)) hFN (fun p hp => (low_size (hT.all_eras p hp)).le hwN) (own_past HV0 isext), ⟨_, B5⟩, ⟨_, B10⟩, ⟨_, B11⟩, by omega, by omega, by omega⟩; have i5 : InW w.heap.size w1 := ⟨B5.lt⟩; have i10 : InW (w.heap.size + 1) w1 := ⟨B10.lt⟩; have i11 : InW (w.heap.size + 1 + 1) w1 := ⟨B11.lt⟩; have k0 : w1.cell? ⟨w.heap.size, 0, none⟩ = some (.slice ar nr cr) := (B5.cell 0).trans rfl; have k1 : w1.cell? ⟨w.heap.size, 1, none⟩ = some (.slice az nz cz) := (B5.cell 1).trans rfl; have k2 : w1.cell? ⟨w.heap.size, 2, none⟩ = some (.slice al nl cl) := (B5.cell 2).trans rfl; have rr0 : w1.cell? ⟨w.heap.size + 1, 0, none⟩ = some (.slice none 0 0) := (B10.cell 0).trans rfl; have rr1 : w1.cell? ⟨w.heap.size + 1, 1, none⟩ = some (.slice none 0 0) := (B10.cell 1).trans rfl; have rr2 : w1.cell? ⟨w.heap.size + 1, 2, none⟩ = some (.slice none 0 0) := (B10.cell 2).trans rfl; have pp0 : w1.cell? ⟨w.heap.size + 1 + 1, 0, none⟩ = some (.int .i64 0) := (B11.cell 0).trans rfl; have pp1 : w1.cell? ⟨w.heap.size + 1 + 1, 1, none⟩ = some (.int .i64 0) := (B11.cell 1).trans rfl; have pp2 : w1.cell? ⟨w.heap.size + 1 + 1, 2, none⟩ = some (.int .i64 0) := (B11.cell 2).trans rfl; have rf0 := B10.frozen 0; have rf1 := B10.frozen 1; have rf2 := B10.frozen 2; have pf0 := B11.frozen 0; have pf1 := B11.frozen 1; have pf2 := B11.frozen 2; have kf := B5.frozen 1; have hb9 := (hwo.lt bl rfl).2; have q5 : ¬ w.heap.size = y3.x.heap.size := (by omega); have q6 : ¬ w.heap.size = bl := (by omega); have hW1 := own_other (own_past hwo isext) (own_past hzo isext) (by decide) hgrow1; have e1 := (words_at hW1 1 (by omega)).1; simp only [Nat.reduceMul, Nat.one_mul] at e1; have i21 : InW (y3.x.heap.size + 1) w1 := ⟨B21.lt⟩; have l0 : w1.cell? ⟨y3.x.heap.size + 1, 0, none⟩ = some (.int .i64 fe) := (B21.cell 0).trans rfl; have l1 : w1.cell? ⟨y3.x.heap.size + 1, 1, none⟩ = some (.int .i64 fl) := (B21.cell 1).trans rfl; have l2 : w1.cell? ⟨y3.x.heap.size + 1, 2, none⟩ = some (.int .i64 fa) := (B21.cell 2).trans rfl
           refine hK.out _ _ ?_ (fun hHeld => ?_)
           · (try dsimp only); ((repeat' apply And.intro) <;> (first | (go_simp; done) | (go_simp; rw [cell_alloc_eq _ _ (by simp [Past.set])]; rfl) | (simp [*, World.cell?_setCell_far]; done)))
           clear hK K
           try simp only [Act.put, putA, putZ, putS]
           refine wpAnyH_take (i := 11) (oi := ⟨some 168, _, _, _, _, _⟩) (v := ?_) rfl (by kernel_rfl) (by kernel_rfl) (by kernel_rfl) (fun _ _ _ h => h) (Or.inl ⟨by rfl, ?_⟩) (by assumption) ?_
           rotate_left
           · intro w hSw; (try dsimp only at hSw); go_simp; first | done | with_reducible rfl | rw [if_pos (by omega)] | rw [if_neg (by omega)]
           try simp only [Act.put, putA, putZ, putS]
           refine wpAnyH_ready (rs := [12]) (by kernel_rfl) (by simp) ?_
           refine AllReadyH.cons (o := ⟨none, _, _, _, _, _⟩) rfl (fun K hK => ?_) ?_
           · go_simp
             refine hK.out _ _ ?_ (fun hHeld => ?_)
             · (try dsimp only); ((repeat' apply And.intro) <;> (first | (go_simp; done) | (go_simp; rw [cell_alloc_eq _ _ (by simp [Past.set])]; rfl) | (simp [*, World.cell?_setCell_far]; done)))
             clear hK K
             try simp only [Act.put, putA, putZ, putS]
             refine wpAnyH_done (by kernel_rfl) ?_ _
             go_wp2_with fail
             refine wp_region_held_drew (S := fun _ => True) (by kernel_rfl) trivial (fun hHeld => ?_)
             refine wpAnyH_ready (rs := [0, 1]) (by kernel_rfl) (by simp) ?_
             refine AllReadyH.cons (o := ⟨some 169, _, _, _, _, _⟩) rfl (fun K hK => ?_) ?_
             · go_simp
               refine hK.out _ _ ?_ (fun hHeld => ?_)
               · trivial
               clear hK K
               try simp only [Act.put, putA, putZ, putS]
               refine wpAnyH_ready (rs := [1, 2]) (by kernel_rfl) (by simp) ?_
               refine AllReadyH.cons (o := ⟨some 170, _, _, _, _, _⟩) rfl (fun K hK => ?_) ?_
               · go_simp
                 refine hK.out _ _ ?_ (fun hHeld => ?_)
                 · trivial
                 clear hK K
                 try simp only [Act.put, putA, putZ, putS]
                 refine wpAnyH_ready (rs := [2]) (by kernel_rfl) (by simp) ?_
                 refine AllReadyH.cons (o := ⟨none, _, _, _, _, _⟩) rfl (fun K hK => ?_) ?_
                 · go_simp
                   refine hK.out _ _ ?_ (fun hHeld => ?_)
                   · trivial
                   clear hK K
                   try simp only [Act.put, putA, putZ, putS]
                   refine wpAnyH_ready (rs := [3]) (by kernel_rfl) (by simp) ?_
                   refine AllReadyH.cons (o := ⟨none, _, _, _, _, _⟩) rfl (fun K hK => ?_) ?_
                   · go_simp
                     refine hK.out _ _ ?_ (fun hHeld => ?_)
                     · trivial
                     clear hK K
                     try simp only [Act.put, putA, putZ, putS]
                     refine wpAnyH_done (by kernel_rfl) ?_ _
                     go_wp2
                     refine bodyPost_ret (v := .tuple #[.agg #[.slice ar nr cr, .slice av' (nz + 1) cap', .slice al nl cl], faultC ⟨fe, fl, fa⟩]) ?_ rfl (line_end ((((((((hL.store (.inl rfl)).store (.inr (.inl rfl))).store (.inr (.inl rfl))).store (.inr (.inl rfl))).store (.inr (.inr rfl))).store (.inr (.inr rfl))).store (.inr (.inr rfl))).past (Ext.drew (Ext.refl _))) (by exact Hff.out) (fun S' e => by rw [Hgood.out S' e]))
                     simp [results, Tryz.results27, go_sem, rr0, rr1, rr2, pp0, pp1, pp2]
                   exact AllReadyH.nil
                 exact AllReadyH.nil
               refine AllReadyH.cons (o := ⟨none, _, _, _, _, _⟩) rfl (fun K hK => ?_) ?_
               · go_simp
                 refine hK.out _ _ ?_ (fun hHeld => ?_)
                 · trivial
                 clear hK K
                 try simp only [Act.put, putA, putZ, putS]
                 refine wpAnyH_ready (rs := [1]) (by kernel_rfl) (by simp) ?_
                 refine AllReadyH.cons (o := ⟨some 170, _, _, _, _, _⟩) rfl (fun K hK => ?_) ?_
                 · go_simp
                   refine hK.out _ _ ?_ (fun hHeld => ?_)
                   · trivial
                   clear hK K
                   try simp only [Act.put, putA, putZ, putS]
                   refine wpAnyH_ready (rs := [3]) (by kernel_rfl) (by simp) ?_
                   refine AllReadyH.cons (o := ⟨none, _, _, _, _, _⟩) rfl (fun K hK => ?_) ?_
                   · go_simp
                     refine hK.out _ _ ?_ (fun hHeld => ?_)
                     · trivial
                     clear hK K
                     try simp only [Act.put, putA, putZ, putS]
                     refine wpAnyH_done (by kernel_rfl) ?_ _
                     go_wp2
                     refine bodyPost_ret (v := .tuple #[.agg #[.slice ar nr cr, .slice av' (nz + 1) cap', .slice al nl cl], faultC ⟨fe, fl, fa⟩]) ?_ rfl (line_end ((((((((hL.store (.inl rfl)).store (.inr (.inl rfl))).store (.inr (.inl rfl))).store (.inr (.inl rfl))).store (.inr (.inr rfl))).store (.inr (.inr rfl))).store (.inr (.inr rfl))).past (Ext.drew (Ext.refl _))) (by exact Hff.out) (fun S' e => by rw [Hgood.out S' e]))
                     simp [results, Tryz.results27, go_sem, rr0, rr1, rr2, pp0, pp1, pp2]
                   exact AllReadyH.nil
                 exact AllReadyH.nil
               exact AllReadyH.nil
             refine AllReadyH.cons (o := ⟨some 170, _, _, _, _, _⟩) rfl (fun K hK => ?_) ?_
             · go_simp
               refine hK.out _ _ ?_ (fun hHeld => ?_)
               · trivial
               clear hK K
               try simp only [Act.put, putA, putZ, putS]
               refine wpAnyH_ready (rs := [0]) (by kernel_rfl) (by simp) ?_
               refine AllReadyH.cons (o := ⟨some 169, _, _, _, _, _⟩) rfl (fun K hK => ?_) ?_
               · go_simp
                 refine hK.out _ _ ?_ (fun hHeld => ?_)
                 · trivial
                 clear hK K
                 try simp only [Act.put, putA, putZ, putS]
                 refine wpAnyH_ready (rs := [2]) (by kernel_rfl) (by simp) ?_
                 refine AllReadyH.cons (o := ⟨none, _, _, _, _, _⟩) rfl (fun K hK => ?_) ?_
                 · go_simp
                   refine hK.out _ _ ?_ (fun hHeld => ?_)
                   · trivial
                   clear hK K
                   try simp only [Act.put, putA, putZ, putS]
                   refine wpAnyH_ready (rs := [3]) (by kernel_rfl) (by simp) ?_
                   refine AllReadyH.cons (o := ⟨none, _, _, _, _, _⟩) rfl (fun K hK => ?_) ?_
                   · go_simp
                     refine hK.out _ _ ?_ (fun hHeld => ?_)
                     · trivial
                     clear hK K
                     try simp only [Act.put, putA, putZ, putS]
                     refine wpAnyH_done (by kernel_rfl) ?_ _
                     go_wp2
                     refine bodyPost_ret (v := .tuple #[.agg #[.slice ar nr cr, .slice av' (nz + 1) cap', .slice al nl cl], faultC ⟨fe, fl, fa⟩]) ?_ rfl (line_end ((((((((hL.store (.inl rfl)).store (.inr (.inl rfl))).store (.inr (.inl rfl))).store (.inr (.inl rfl))).store (.inr (.inr rfl))).store (.inr (.inr rfl))).store (.inr (.inr rfl))).past (Ext.drew (Ext.refl _))) (by exact Hff.out) (fun S' e => by rw [Hgood.out S' e]))
                     simp [results, Tryz.results27, go_sem, rr0, rr1, rr2, pp0, pp1, pp2]
                   exact AllReadyH.nil
                 exact AllReadyH.nil
               exact AllReadyH.nil
             exact AllReadyH.nil
           exact AllReadyH.nil
         exact AllReadyH.nil
       exact AllReadyH.nil
     exact AllReadyH.nil
   exact AllReadyH.nil
end Go.Proofs.YtdhbgelijjlifaaGreatDoor
namespace Go.Proofs.YtdhbgelijjlifaaGreatDoor
open Go.RowKit Go.Shelf
set_option maxRecDepth 100000 in
set_option maxHeartbeats 16000000 in
set_option synthInstance.maxSize 4000 in
set_option synthInstance.maxHeartbeats 400000 in
theorem dline_next (F : Frm) (w : World) (vr vz vl lv : Value) (zp : List (Zone × Value)) (S : Source) (ws : List Src.Wd) (all : ByteArray) (line : Int) (h : LnIn F w vr vz vl lv zp S ws) (hf : Src.fitsN S) (hall : all.size ≤ 1048576) (hop : Src.openB S = true) :
 Calls Tryz.prog 27 #[.agg #[vr, vz, vl], lv, .string all, .int .i64 line, .bool true] w (LineEnd F w (Src.nextP S ws all.size line)) := by
 obtain ⟨hKp, hT, ⟨Bw, hwds⟩, hs, hpos, hle⟩ := h
 obtain ⟨f1, f2, f3, f4⟩ := hf
 have hlw : ∀ i, (Src.tx ws i).size ≤ 1000 := fun i => tx_size hs i
 have HB := fun e line a t w => Lib.hid (dbad_any e line a t w)
 have hres : ∃ o, Src.nextP S ws all.size line = o := ⟨_, rfl⟩
 obtain ⟨OUT, hres⟩ := hres
 rw [hres]
 have Hres := Lib.hid hres
 clear hres
 have hFw := Below.size hKp.ext
 have hro := hT.rules
 have hzo := hT.zones
 have hlo := hT.links
 obtain ⟨nr, hnr⟩ : ∃ n, S.rules.length = n := ⟨_, rfl⟩
 obtain ⟨nz, hnz⟩ : ∃ n, S.zones.length = n := ⟨_, rfl⟩
 obtain ⟨nl, hnl⟩ : ∃ n, S.links.length = n := ⟨_, rfl⟩
 rw [hnr] at hro f1
 rw [hnz] at hzo f2
 rw [hnl] at hlo f3
 obtain ⟨ar, cr, rfl⟩ := owns_shape hro
 obtain ⟨az, cz, rfl⟩ := owns_shape hzo
 obtain ⟨al, cl, rfl⟩ := owns_shape hlo
 have b1 := len_of (owns_reads hro (by decide))
 have b2 := len_of (owns_reads hzo (by decide))
 have b3 := len_of (owns_reads hlo (by decide))
 have hwr := owns_reads hwds (by decide)
 obtain ⟨n, hn⟩ : ∃ n, ws.length = n := ⟨_, rfl⟩
 have hwo := hwds
 rw [hn] at hwo
 obtain ⟨bl, c9, rfl⟩ := row_block hwo (by omega)
 haveI : InW bl w := ⟨(hwo.lt bl rfl).2⟩
 obtain ⟨d0, q0⟩ := words_at hwo 0 (by omega)
 simp only [Nat.zero_mul, Nat.zero_add] at d0 q0
 have HBx := box3 w #[.slice ar nr cr, .slice az nz cz, .slice al nl cl] #[.slice none 0 0, .slice none 0 0, .slice none 0 0] #[.int .i64 0, .int .i64 0, .int .i64 0] 26 26 29
 have HC := fun w' (hx : Ext w w') => Lib.hid (dcount_any ws all line 3 7 (by omega) (by omega) hall (.slice (some ⟨bl, 0, none⟩) n c9) w' (by rw [← hn]; rw [← hn] at hwo; exact (owns_reads hwo (by decide)).ext hx))
 have HE := fun w' (hx : Ext w w') h1 h2 => Lib.hid (dera0_all ws line (.slice (some ⟨bl, 0, none⟩) n c9) w' (by rw [← hn]; rw [← hn] at hwo; exact (owns_reads hwo (by decide)).ext hx) h1 h2 hs)
 obtain ⟨i0, hi0, hz0, hz1, hz2⟩ := info_partsS Tryz.infoEraT
 obtain ⟨zi, z, V, rfl⟩ := tree_split hT (Src.open_zones hop)
 have hnm := tree_names hT
 have hzi : zi.length + 1 = nz := by rw [← hnz, hnm]; simp
 obtain ⟨k, hk⟩ : ∃ k, zi.length = k := ⟨_, rfl⟩
 rw [hk] at hzi
 subst hzi
 have hlast : Src.lastE S = z.es := by unfold Src.lastE; rw [hnm]; simp
 obtain ⟨B, hB1, hB2, hB3, hV⟩ := hT.last2 hFw
 obtain ⟨ne, hne⟩ : ∃ m, z.es.length = m := ⟨_, rfl⟩
 have hVo := hV
 rw [hne] at hVo
 obtain ⟨av, cv, rfl⟩ := owns_shape hVo
 have b4 := len_of (owns_reads hVo (by decide))
 obtain ⟨gz, cz', e8⟩ := row_block hzo (by omega)
 injection e8 with e8 e7 e6
 subst e8
 clear e7 e6
 haveI : InW gz w := ⟨(hzo.lt gz rfl).2⟩
 have hgz := (hzo.lt gz rfl)
 obtain ⟨z1, z2⟩ := zone_cell (V := .slice av ne cv) (k := k) (by rw [← hne]; rw [← hne] at hzo; exact hzo) rfl hk
 rw [hlast, hne] at f4
 by_cases q1 : 40 ≤ ne
 · have g1 : (40 : Int) ≤ ne := by omega
   go_enter Tryz.func27, Tryz.ntmps27
   go_wp2_with fail
   refine wp_region_past_tail 6 (by kernel_rfl) (by kernel_rfl) ?_
   simp only [List.take_succ_cons, List.take_zero, List.drop_succ_cons, List.drop_zero]
   repeat (go_big_quiet_step ((go_at_call 52; exact Rets.quiet (HB _ _ _ _ _).out)))
   refine wpQuiet_nil ?_
   intro yE
   go_wp2
   refine bodyPost_ret (v := .tuple #[.agg #[.slice ar nr cr, .slice (some ⟨gz, 0, none⟩) (k + 1) cz, .slice al nl cl], faultC ⟨12, line, Src.pt ws 0⟩]) ?_ rfl (line_bad hKp (by rw [← Hres.out]; simp [Src.nextP, hlast, hne, q1]))
   simp [results, Tryz.results27, go_sem]
 have g1 : decide ((40 : Int) ≤ ne) = false := decide_eq_false (by omega)
 go_enter Tryz.func27, Tryz.ntmps27
 go_wp2_with fail
 go_at_call 53
 refine Rets.use (HC _ isext).out ?_
 intro y1
 clear HC
 cases hc : Src.countP ws all.size line 3 7 with
 | some f =>
   have hfe := (Src.count_line hc).2
   obtain ⟨e, l1, a1⟩ := f
   simp only at hfe
   have g2 : (e != 0) = true := by simpa using hfe
   simp only [faultO]
   go_wp2_with fail
   go_region
   all_goals
    go_wp2
    refine bodyPost_ret (v := .tuple #[.agg #[.slice ar nr cr, .slice (some ⟨gz, 0, none⟩) (k + 1) cz, .slice al nl cl], faultC ⟨e, l1, a1⟩]) ?_ rfl (line_bad hKp (by rw [← Hres.out]; simp [Src.nextP, hlast, hne, q1, hc]))
    simp [results, Tryz.results27, go_sem]
 | none =>
   simp only [faultO]
   have hbd := Src.count_bd hc
   go_wp2_with fail
   go_at_call 54
   refine (HE _ isext (by omega) (by omega)).out.mono ?_
   rintro _ _ ⟨x, y3, rfl, hx, rfl⟩
   have hwy : w.heap.size ≤ y3.x.heap.size := Below.size (isext (w := w) (w' := y3.x))
   clear HE
   cases hrp : Src.eraP ws 0 line with
   | inl f =>
     have hfe := (Src.era_line hrp).2
     obtain ⟨xo, xk, xs, xr, xf, xu, xy, xm, xq, xw, xd, xt, xz⟩ := x
     obtain ⟨e, l1, a1⟩ := f
     simp only at hfe
     have g3 : (e != 0) = true := by simpa using hfe
     simp only [faultS, eraCells]
     go_wp2_with fail
     go_region
     all_goals
      go_wp2
      refine bodyPost_ret (v := .tuple #[.agg #[.slice ar nr cr, .slice (some ⟨gz, 0, none⟩) (k + 1) cz, .slice al nl cl], faultC ⟨e, l1, a1⟩]) ?_ rfl (line_bad hKp (by rw [← Hres.out]; simp [Src.nextP, hlast, hne, q1, hc, hrp]))
      simp [results, Tryz.results27, go_sem]
   | inr r =>
     obtain rfl : x = r := by exact hx r hrp
     have HO : Hid (OUT = .inr ⟨S.rules, Src.addEra S.zones x, S.links⟩) := by show _ = _; rw [← Hres.out]; simp [Src.nextP, hlast, hne, q1, hc, hrp]
     obtain ⟨xo, xk, xs, xr, xf, xu, xy, xm, xq, xw, xd, xt, xz⟩ := x
     clear hx hrp
     have HB20 := box2a y3.x #[.int .i64 xo, .int .i64 xk, .int .i64 xs, .string xr, .string xf, .bool xu, .int .i64 xy, .int .i64 xm, .int .i64 xq, .int .i64 xw, .int .i64 xd, .int .i64 xt, .int .i64 xz] #[.int .i64 0, .int .i64 0, .int .i64 0] 56 29
     simp only [faultS, eraCells]
     go_wp2_with fail
     refine wp_region_held_drew (S := fun w' => w'.cell? ⟨w.heap.size, 1, none⟩ = some (.slice (some ⟨gz, 0, none⟩) (k + 1) cz) ∧ w'.cell? ⟨y3.x.heap.size, 0, none⟩ = some (.int .i64 xo) ∧ w'.cell? ⟨y3.x.heap.size, 1, none⟩ = some (.int .i64 xk) ∧ w'.cell? ⟨y3.x.heap.size, 2, none⟩ = some (.int .i64 xs) ∧ w'.cell? ⟨y3.x.heap.size, 3, none⟩ = some (.string xr) ∧ w'.cell? ⟨y3.x.heap.size, 4, none⟩ = some (.string xf) ∧ w'.cell? ⟨y3.x.heap.size, 5, none⟩ = some (.bool xu) ∧ w'.cell? ⟨y3.x.heap.size, 6, none⟩ = some (.int .i64 xy) ∧ w'.cell? ⟨y3.x.heap.size, 7, none⟩ = some (.int .i64 xm) ∧ w'.cell? ⟨y3.x.heap.size, 8, none⟩ = some (.int .i64 xq) ∧ w'.cell? ⟨y3.x.heap.size, 9, none⟩ = some (.int .i64 xw) ∧ w'.cell? ⟨y3.x.heap.size, 10, none⟩ = some (.int .i64 xd) ∧ w'.cell? ⟨y3.x.heap.size, 11, none⟩ = some (.int .i64 xt) ∧ w'.cell? ⟨y3.x.heap.size, 12, none⟩ = some (.int .i64 xz)) (by kernel_rfl) (by (try dsimp only); ((repeat' apply And.intro) <;> (first | (go_simp; done) | (go_simp; rw [cell_alloc_eq _ _ (by simp [Past.set])]; rfl) | (simp [*, World.cell?_setCell_far]; done)))) (fun hHeld => ?_)
     refine wpAnyH_take (i := 0) (oi := ⟨some 63, _, _, _, _, _⟩) (v := ?_) rfl (by kernel_rfl) (by kernel_rfl) (by kernel_rfl) (fun _ _ _ h => h) (Or.inl ⟨by rfl, ?_⟩) (by assumption) ?_
     rotate_left
     · intro w hSw; (try dsimp only at hSw); go_simp; first | done | with_reducible rfl | rw [if_pos (by omega)] | rw [if_neg (by omega)]
     try simp only [Act.put, putA, putZ, putS]
     refine wpAnyH_take (i := 1) (oi := ⟨some 64, _, _, _, _, _⟩) (v := ?_) rfl (by kernel_rfl) (by kernel_rfl) (by kernel_rfl) (fun _ _ _ h => h) (Or.inl ⟨by rfl, ?_⟩) (by assumption) ?_
     rotate_left
     · intro w hSw; (try dsimp only at hSw); go_simp; first | done | with_reducible rfl | rw [if_pos (by omega)] | rw [if_neg (by omega)]
     try simp only [Act.put, putA, putZ, putS]
     refine wpAnyH_take (i := 2) (oi := ⟨some 65, _, _, _, _, _⟩) (v := ?_) rfl (by kernel_rfl) (by kernel_rfl) (by kernel_rfl) (fun _ _ _ h => h) (Or.inl ⟨by rfl, ?_⟩) (by assumption) ?_
     rotate_left
     · intro w hSw; (try dsimp only at hSw); go_simp; first | done | with_reducible rfl | rw [if_pos (by omega)] | rw [if_neg (by omega)]
     try simp only [Act.put, putA, putZ, putS]
     refine wpAnyH_take (i := 3) (oi := ⟨some 66, _, _, _, _, _⟩) (v := ?_) rfl (by kernel_rfl) (by kernel_rfl) (by kernel_rfl) (fun _ _ _ h => h) (Or.inl ⟨by rfl, ?_⟩) (by assumption) ?_
     rotate_left
     · intro w hSw; (try dsimp only at hSw); go_simp; first | done | with_reducible rfl | rw [if_pos (by omega)] | rw [if_neg (by omega)]
     try simp only [Act.put, putA, putZ, putS]
     refine wpAnyH_take (i := 4) (oi := ⟨some 67, _, _, _, _, _⟩) (v := ?_) rfl (by kernel_rfl) (by kernel_rfl) (by kernel_rfl) (fun _ _ _ h => h) (Or.inl ⟨by rfl, ?_⟩) (by assumption) ?_
     rotate_left
     · intro w hSw; (try dsimp only at hSw); go_simp; first | done | with_reducible rfl | rw [if_pos (by omega)] | rw [if_neg (by omega)]
     try simp only [Act.put, putA, putZ, putS]
     refine wpAnyH_take (i := 5) (oi := ⟨some 68, _, _, _, _, _⟩) (v := ?_) rfl (by kernel_rfl) (by kernel_rfl) (by kernel_rfl) (fun _ _ _ h => h) (Or.inl ⟨by rfl, ?_⟩) (by assumption) ?_
     rotate_left
     · intro w hSw; (try dsimp only at hSw); go_simp; first | done | with_reducible rfl | rw [if_pos (by omega)] | rw [if_neg (by omega)]
     try simp only [Act.put, putA, putZ, putS]
     refine wpAnyH_take (i := 6) (oi := ⟨some 69, _, _, _, _, _⟩) (v := ?_) rfl (by kernel_rfl) (by kernel_rfl) (by kernel_rfl) (fun _ _ _ h => h) (Or.inl ⟨by rfl, ?_⟩) (by assumption) ?_
     rotate_left
     · intro w hSw; (try dsimp only at hSw); go_simp; first | done | with_reducible rfl | rw [if_pos (by omega)] | rw [if_neg (by omega)]
     try simp only [Act.put, putA, putZ, putS]
     refine wpAnyH_take (i := 7) (oi := ⟨some 70, _, _, _, _, _⟩) (v := ?_) rfl (by kernel_rfl) (by kernel_rfl) (by kernel_rfl) (fun _ _ _ h => h) (Or.inl ⟨by rfl, ?_⟩) (by assumption) ?_
     rotate_left
     · intro w hSw; (try dsimp only at hSw); go_simp; first | done | with_reducible rfl | rw [if_pos (by omega)] | rw [if_neg (by omega)]
     try simp only [Act.put, putA, putZ, putS]
     refine wpAnyH_take (i := 9) (oi := ⟨some 72, _, _, _, _, _⟩) (v := ?_) rfl (by kernel_rfl) (by kernel_rfl) (by kernel_rfl) (fun _ _ _ h => h) (Or.inl ⟨by rfl, ?_⟩) (by assumption) ?_
     rotate_left
     · intro w hSw; (try dsimp only at hSw); go_simp; first | done | with_reducible rfl | rw [if_pos (by omega)] | rw [if_neg (by omega)]
     try simp only [Act.put, putA, putZ, putS]
     refine wpAnyH_ready (rs := [8, 10]) (by kernel_rfl) (by simp) ?_
     refine AllReadyH.cons (o := ⟨some 71, _, _, _, _, _⟩) rfl (fun K hK => ?_) ?_
     · go_simp
       refine hK.out _ _ ?_ (fun hHeld => ?_)
       · (try dsimp only); ((repeat' apply And.intro) <;> (first | (go_simp; done) | (go_simp; rw [cell_alloc_eq _ _ (by simp [Past.set])]; rfl) | (simp [*, World.cell?_setCell_far]; done)))
       clear hK K
       try simp only [Act.put, putA, putZ, putS]
       refine wpAnyH_ready (rs := [10]) (by kernel_rfl) (by simp) ?_
       refine AllReadyH.cons (o := ⟨some 73, _, _, _, _, _⟩) rfl (fun K hK => ?_) ?_
       · go_simp
         refine hK.out _ _ ?_ (fun hHeld => ?_)
         · (try dsimp only); ((repeat' apply And.intro) <;> (first | (go_simp; done) | (go_simp; rw [cell_alloc_eq _ _ (by simp [Past.set])]; rfl) | (simp [*, World.cell?_setCell_far]; done)))
         clear hK K
         try simp only [Act.put, putA, putZ, putS]
         refine wpAnyH_ready (rs := [11]) (by kernel_rfl) (by simp) ?_
         refine AllReadyH.cons (o := ⟨some 74, _, _, _, _, _⟩) rfl (fun K hK => ?_) ?_
         · refine wp_append_own _ _ _ 57 rfl B 56 i0 (.agg #[.int .i64 0, .int .i64 0, .int .i64 0, .string ByteArray.empty, .string ByteArray.empty, .bool false, .int .i64 0, .int .i64 0, .int .i64 0, .int .i64 0, .int .i64 0, .int .i64 0, .int .i64 0]) 13 120 Tryz.underlying57 hi0 hz0 hz1 hz2 rfl (by decide) (.slice av ne cv) ne (eraRow z.es) rfl (own_past hVo isext) _ 1 1 [.int .i64 xo, .int .i64 xk, .int .i64 xs, .string xr, .string xf, .bool xu, .int .i64 xy, .int .i64 xm, .int .i64 xq, .int .i64 xw, .int .i64 xd, .int .i64 xt, .int .i64 xz] rfl rfl (new_cells' _ _ _ _ (by simp)) (by simp [Value.oneCell']) (by unfold maxLen; omega) (by omega) (leB (a := w) hB2) (fun v' w1 hown1 hgrow1 _ => ?_); obtain ⟨av', cap', rfl⟩ := owns_shape hown1; have B5 := blk_newT (HBx.1.ext isext) hVo (by omega) hgrow1; have B10 := blk_newT (HBx.2.1.ext isext) hVo (by omega) hgrow1; have B11 := blk_newT (HBx.2.2.ext isext) hVo (by omega) hgrow1; have B20 := blk_newT (b := y3.x.heap.size) (HB20.ext isext) hVo hwy hgrow1; have i20 : InW y3.x.heap.size w1 := ⟨B20.lt⟩; have ec0 : w1.cell? ⟨y3.x.heap.size, 0, none⟩ = some (.int .i64 xo) := (B20.cell 0).trans rfl; have ec1 : w1.cell? ⟨y3.x.heap.size, 1, none⟩ = some (.int .i64 xk) := (B20.cell 1).trans rfl; have ec2 : w1.cell? ⟨y3.x.heap.size, 2, none⟩ = some (.int .i64 xs) := (B20.cell 2).trans rfl; have ec3 : w1.cell? ⟨y3.x.heap.size, 3, none⟩ = some (.string xr) := (B20.cell 3).trans rfl; have ec4 : w1.cell? ⟨y3.x.heap.size, 4, none⟩ = some (.string xf) := (B20.cell 4).trans rfl; have ec5 : w1.cell? ⟨y3.x.heap.size, 5, none⟩ = some (.bool xu) := (B20.cell 5).trans rfl; have ec6 : w1.cell? ⟨y3.x.heap.size, 6, none⟩ = some (.int .i64 xy) := (B20.cell 6).trans rfl; have ec7 : w1.cell? ⟨y3.x.heap.size, 7, none⟩ = some (.int .i64 xm) := (B20.cell 7).trans rfl; have ec8 : w1.cell? ⟨y3.x.heap.size, 8, none⟩ = some (.int .i64 xq) := (B20.cell 8).trans rfl; have ec9 : w1.cell? ⟨y3.x.heap.size, 9, none⟩ = some (.int .i64 xw) := (B20.cell 9).trans rfl; have ec10 : w1.cell? ⟨y3.x.heap.size, 10, none⟩ = some (.int .i64 xd) := (B20.cell 10).trans rfl; have ec11 : w1.cell? ⟨y3.x.heap.size, 11, none⟩ = some (.int .i64 xt) := (B20.cell 11).trans rfl; have ec12 : w1.cell? ⟨y3.x.heap.size, 12, none⟩ = some (.int .i64 xz) := (B20.cell 12).trans rfl; have hZ1 := own_other (own_past hzo isext) (own_past hVo isext) (by decide) hgrow1; have hZc := zone_cell (V := .slice av ne cv) (k := k) hZ1 rfl hk; have hL : Ln F w (w1.setCell ⟨gz, k * 2 + 1, none⟩ (.slice av' (ne + 1) cap')) w.heap.size (w.heap.size + 1) (w.heap.size + 1 + 1) (.slice ar nr cr) (.slice (some ⟨gz, 0, none⟩) (k + 1) cz) (.slice al nl cl) (zi ++ [(⟨z.nm, z.es ++ [⟨xo, xk, xs, xr, xf, xu, xy, xm, xq, xw, xd, xt, xz⟩]⟩, .slice av' (ne + 1) cap')]) (some ⟨S.rules, Src.addEra S.zones ⟨xo, xk, xs, xr, xf, xu, xy, xm, xq, xw, xd, xt, xz⟩, S.links⟩) := ⟨((hKp.trans isext).grownT (own_base (own_past hVo isext) hB1) (by decide) hgrow1).cell hZ1 rfl hgz.1 _ _, fun b C T hT hb => blk_otherT (frame_grown isext (own_past hVo isext) (by decide) (by decide) hgrow1 b C T hT hb) hZ1 rfl hT, ⟨by omega, by omega, by omega⟩, fun S' e => by injection e with e; subst e; have hE := Tree.era (x := ⟨xo, xk, xs, xr, xf, xu, xy, xm, xq, xw, xd, xt, xz⟩) (hT.past isext) hB1 hB3 (own_past hV isext) (by rw [hne]; unfold eraRow; rw [rowOf_snoc]; exact hown1) hgrow1 rfl; rw [hk] at hE; exact hE, ⟨_, blk_other B5 (by omega)⟩, ⟨_, blk_other B10 (by omega)⟩, ⟨_, blk_other B11 (by omega)⟩, by omega, by omega, by omega⟩; have i5 : InW w.heap.size w1 := ⟨B5.lt⟩; have i10 : InW (w.heap.size + 1) w1 := ⟨B10.lt⟩; have i11 : InW (w.heap.size + 1 + 1) w1 := ⟨B11.lt⟩; have k0 : w1.cell? ⟨w.heap.size, 0, none⟩ = some (.slice ar nr cr) := (B5.cell 0).trans rfl; have k1 : w1.cell? ⟨w.heap.size, 1, none⟩ = some (.slice (some ⟨gz, 0, none⟩) (k + 1) cz) := (B5.cell 1).trans rfl; have k2 : w1.cell? ⟨w.heap.size, 2, none⟩ = some (.slice al nl cl) := (B5.cell 2).trans rfl; have rr0 : w1.cell? ⟨w.heap.size + 1, 0, none⟩ = some (.slice none 0 0) := (B10.cell 0).trans rfl; have rr1 : w1.cell? ⟨w.heap.size + 1, 1, none⟩ = some (.slice none 0 0) := (B10.cell 1).trans rfl; have rr2 : w1.cell? ⟨w.heap.size + 1, 2, none⟩ = some (.slice none 0 0) := (B10.cell 2).trans rfl; have pp0 : w1.cell? ⟨w.heap.size + 1 + 1, 0, none⟩ = some (.int .i64 0) := (B11.cell 0).trans rfl; have pp1 : w1.cell? ⟨w.heap.size + 1 + 1, 1, none⟩ = some (.int .i64 0) := (B11.cell 1).trans rfl; have pp2 : w1.cell? ⟨w.heap.size + 1 + 1, 2, none⟩ = some (.int .i64 0) := (B11.cell 2).trans rfl; have rf0 := B10.frozen 0; have rf1 := B10.frozen 1; have rf2 := B10.frozen 2; have pf0 := B11.frozen 0; have pf1 := B11.frozen 1; have pf2 := B11.frozen 2; have q5 : ¬ gz = y3.x.heap.size := (by omega); have q6 : ¬ gz = w.heap.size := (by omega); have c0' := hZc.1; have f0' := hZc.2; have i0' : InW gz w1 := ⟨(hZ1.lt gz rfl).2⟩
           refine hK.out _ _ ?_ (fun hHeld => ?_)
           · (try dsimp only); ((repeat' apply And.intro) <;> (first | (go_simp; done) | (go_simp; rw [cell_alloc_eq _ _ (by simp [Past.set])]; rfl) | (simp [*, World.cell?_setCell_far]; done)))
           clear hK K
           try simp only [Act.put, putA, putZ, putS]
           refine wpAnyH_take (i := 12) (oi := ⟨some 75, _, _, _, _, _⟩) (v := ?_) rfl (by kernel_rfl) (by kernel_rfl) (by kernel_rfl) (fun _ _ _ h => h) (Or.inl ⟨by rfl, ?_⟩) (by assumption) ?_
           rotate_left
           · intro w hSw; (try dsimp only at hSw); go_simp; first | done | with_reducible rfl | rw [if_pos (by omega)] | rw [if_neg (by omega)]
           try simp only [Act.put, putA, putZ, putS]
           refine wpAnyH_take (i := 13) (oi := ⟨some 76, _, _, _, _, _⟩) (v := ?_) rfl (by kernel_rfl) (by kernel_rfl) (by kernel_rfl) (fun _ _ _ h => h) (Or.inl ⟨by rfl, ?_⟩) (by assumption) ?_
           rotate_left
           · intro w hSw; (try dsimp only at hSw); go_simp; first | done | with_reducible rfl | rw [if_pos (by omega)] | rw [if_neg (by omega)]
           try simp only [Act.put, putA, putZ, putS]
           refine wpAnyH_ready (rs := [14]) (by kernel_rfl) (by simp) ?_
           refine AllReadyH.cons (o := ⟨none, _, _, _, _, _⟩) rfl (fun K hK => ?_) ?_
           · go_simp
             refine hK.out _ _ ?_ (fun hHeld => ?_)
             · (try dsimp only); ((repeat' apply And.intro) <;> (first | (go_simp; done) | (go_simp; rw [cell_alloc_eq _ _ (by simp [Past.set])]; rfl) | (simp [*, World.cell?_setCell_far]; done)))
             clear hK K
             try simp only [Act.put, putA, putZ, putS]
             refine wpAnyH_done (by kernel_rfl) ?_ _
             go_wp2
             refine bodyPost_ret (v := .tuple #[.agg #[.slice ar nr cr, .slice (some ⟨gz, 0, none⟩) (k + 1) cz, .slice al nl cl], faultC ⟨0, 0, 0⟩]) ?_ rfl (line_end ((((((hL.store (.inr (.inl rfl))).store (.inr (.inl rfl))).store (.inr (.inl rfl))).store (.inr (.inr rfl))).store (.inr (.inr rfl))).store (.inr (.inr rfl))) (by rw [HO.out]; rfl) (fun S' e => by rw [HO.out] at e; injection e with e; rw [e]))
             simp [results, Tryz.results27, go_sem, rr0, rr1, rr2, pp0, pp1, pp2]
           exact AllReadyH.nil
         exact AllReadyH.nil
       exact AllReadyH.nil
     refine AllReadyH.cons (o := ⟨some 73, _, _, _, _, _⟩) rfl (fun K hK => ?_) ?_
     · go_simp
       refine hK.out _ _ ?_ (fun hHeld => ?_)
       · (try dsimp only); ((repeat' apply And.intro) <;> (first | (go_simp; done) | (go_simp; rw [cell_alloc_eq _ _ (by simp [Past.set])]; rfl) | (simp [*, World.cell?_setCell_far]; done)))
       clear hK K
       try simp only [Act.put, putA, putZ, putS]
       refine wpAnyH_ready (rs := [8]) (by kernel_rfl) (by simp) ?_
       refine AllReadyH.cons (o := ⟨some 71, _, _, _, _, _⟩) rfl (fun K hK => ?_) ?_
       · go_simp
         refine hK.out _ _ ?_ (fun hHeld => ?_)
         · (try dsimp only); ((repeat' apply And.intro) <;> (first | (go_simp; done) | (go_simp; rw [cell_alloc_eq _ _ (by simp [Past.set])]; rfl) | (simp [*, World.cell?_setCell_far]; done)))
         clear hK K
         try simp only [Act.put, putA, putZ, putS]
         refine wpAnyH_ready (rs := [11]) (by kernel_rfl) (by simp) ?_
         refine AllReadyH.cons (o := ⟨some 74, _, _, _, _, _⟩) rfl (fun K hK => ?_) ?_
         · refine wp_append_own _ _ _ 57 rfl B 56 i0 (.agg #[.int .i64 0, .int .i64 0, .int .i64 0, .string ByteArray.empty, .string ByteArray.empty, .bool false, .int .i64 0, .int .i64 0, .int .i64 0, .int .i64 0, .int .i64 0, .int .i64 0, .int .i64 0]) 13 120 Tryz.underlying57 hi0 hz0 hz1 hz2 rfl (by decide) (.slice av ne cv) ne (eraRow z.es) rfl (own_past hVo isext) _ 1 1 [.int .i64 xo, .int .i64 xk, .int .i64 xs, .string xr, .string xf, .bool xu, .int .i64 xy, .int .i64 xm, .int .i64 xq, .int .i64 xw, .int .i64 xd, .int .i64 xt, .int .i64 xz] rfl rfl (new_cells' _ _ _ _ (by simp)) (by simp [Value.oneCell']) (by unfold maxLen; omega) (by omega) (leB (a := w) hB2) (fun v' w1 hown1 hgrow1 _ => ?_); obtain ⟨av', cap', rfl⟩ := owns_shape hown1; have B5 := blk_newT (HBx.1.ext isext) hVo (by omega) hgrow1; have B10 := blk_newT (HBx.2.1.ext isext) hVo (by omega) hgrow1; have B11 := blk_newT (HBx.2.2.ext isext) hVo (by omega) hgrow1; have B20 := blk_newT (b := y3.x.heap.size) (HB20.ext isext) hVo hwy hgrow1; have i20 : InW y3.x.heap.size w1 := ⟨B20.lt⟩; have ec0 : w1.cell? ⟨y3.x.heap.size, 0, none⟩ = some (.int .i64 xo) := (B20.cell 0).trans rfl; have ec1 : w1.cell? ⟨y3.x.heap.size, 1, none⟩ = some (.int .i64 xk) := (B20.cell 1).trans rfl; have ec2 : w1.cell? ⟨y3.x.heap.size, 2, none⟩ = some (.int .i64 xs) := (B20.cell 2).trans rfl; have ec3 : w1.cell? ⟨y3.x.heap.size, 3, none⟩ = some (.string xr) := (B20.cell 3).trans rfl; have ec4 : w1.cell? ⟨y3.x.heap.size, 4, none⟩ = some (.string xf) := (B20.cell 4).trans rfl; have ec5 : w1.cell? ⟨y3.x.heap.size, 5, none⟩ = some (.bool xu) := (B20.cell 5).trans rfl; have ec6 : w1.cell? ⟨y3.x.heap.size, 6, none⟩ = some (.int .i64 xy) := (B20.cell 6).trans rfl; have ec7 : w1.cell? ⟨y3.x.heap.size, 7, none⟩ = some (.int .i64 xm) := (B20.cell 7).trans rfl; have ec8 : w1.cell? ⟨y3.x.heap.size, 8, none⟩ = some (.int .i64 xq) := (B20.cell 8).trans rfl; have ec9 : w1.cell? ⟨y3.x.heap.size, 9, none⟩ = some (.int .i64 xw) := (B20.cell 9).trans rfl; have ec10 : w1.cell? ⟨y3.x.heap.size, 10, none⟩ = some (.int .i64 xd) := (B20.cell 10).trans rfl; have ec11 : w1.cell? ⟨y3.x.heap.size, 11, none⟩ = some (.int .i64 xt) := (B20.cell 11).trans rfl; have ec12 : w1.cell? ⟨y3.x.heap.size, 12, none⟩ = some (.int .i64 xz) := (B20.cell 12).trans rfl; have hZ1 := own_other (own_past hzo isext) (own_past hVo isext) (by decide) hgrow1; have hZc := zone_cell (V := .slice av ne cv) (k := k) hZ1 rfl hk; have hL : Ln F w (w1.setCell ⟨gz, k * 2 + 1, none⟩ (.slice av' (ne + 1) cap')) w.heap.size (w.heap.size + 1) (w.heap.size + 1 + 1) (.slice ar nr cr) (.slice (some ⟨gz, 0, none⟩) (k + 1) cz) (.slice al nl cl) (zi ++ [(⟨z.nm, z.es ++ [⟨xo, xk, xs, xr, xf, xu, xy, xm, xq, xw, xd, xt, xz⟩]⟩, .slice av' (ne + 1) cap')]) (some ⟨S.rules, Src.addEra S.zones ⟨xo, xk, xs, xr, xf, xu, xy, xm, xq, xw, xd, xt, xz⟩, S.links⟩) := ⟨((hKp.trans isext).grownT (own_base (own_past hVo isext) hB1) (by decide) hgrow1).cell hZ1 rfl hgz.1 _ _, fun b C T hT hb => blk_otherT (frame_grown isext (own_past hVo isext) (by decide) (by decide) hgrow1 b C T hT hb) hZ1 rfl hT, ⟨by omega, by omega, by omega⟩, fun S' e => by injection e with e; subst e; have hE := Tree.era (x := ⟨xo, xk, xs, xr, xf, xu, xy, xm, xq, xw, xd, xt, xz⟩) (hT.past isext) hB1 hB3 (own_past hV isext) (by rw [hne]; unfold eraRow; rw [rowOf_snoc]; exact hown1) hgrow1 rfl; rw [hk] at hE; exact hE, ⟨_, blk_other B5 (by omega)⟩, ⟨_, blk_other B10 (by omega)⟩, ⟨_, blk_other B11 (by omega)⟩, by omega, by omega, by omega⟩; have i5 : InW w.heap.size w1 := ⟨B5.lt⟩; have i10 : InW (w.heap.size + 1) w1 := ⟨B10.lt⟩; have i11 : InW (w.heap.size + 1 + 1) w1 := ⟨B11.lt⟩; have k0 : w1.cell? ⟨w.heap.size, 0, none⟩ = some (.slice ar nr cr) := (B5.cell 0).trans rfl; have k1 : w1.cell? ⟨w.heap.size, 1, none⟩ = some (.slice (some ⟨gz, 0, none⟩) (k + 1) cz) := (B5.cell 1).trans rfl; have k2 : w1.cell? ⟨w.heap.size, 2, none⟩ = some (.slice al nl cl) := (B5.cell 2).trans rfl; have rr0 : w1.cell? ⟨w.heap.size + 1, 0, none⟩ = some (.slice none 0 0) := (B10.cell 0).trans rfl; have rr1 : w1.cell? ⟨w.heap.size + 1, 1, none⟩ = some (.slice none 0 0) := (B10.cell 1).trans rfl; have rr2 : w1.cell? ⟨w.heap.size + 1, 2, none⟩ = some (.slice none 0 0) := (B10.cell 2).trans rfl; have pp0 : w1.cell? ⟨w.heap.size + 1 + 1, 0, none⟩ = some (.int .i64 0) := (B11.cell 0).trans rfl; have pp1 : w1.cell? ⟨w.heap.size + 1 + 1, 1, none⟩ = some (.int .i64 0) := (B11.cell 1).trans rfl; have pp2 : w1.cell? ⟨w.heap.size + 1 + 1, 2, none⟩ = some (.int .i64 0) := (B11.cell 2).trans rfl; have rf0 := B10.frozen 0; have rf1 := B10.frozen 1; have rf2 := B10.frozen 2; have pf0 := B11.frozen 0; have pf1 := B11.frozen 1; have pf2 := B11.frozen 2; have q5 : ¬ gz = y3.x.heap.size := (by omega); have q6 : ¬ gz = w.heap.size := (by omega); have c0' := hZc.1; have f0' := hZc.2; have i0' : InW gz w1 := ⟨(hZ1.lt gz rfl).2⟩
           refine hK.out _ _ ?_ (fun hHeld => ?_)
           · (try dsimp only); ((repeat' apply And.intro) <;> (first | (go_simp; done) | (go_simp; rw [cell_alloc_eq _ _ (by simp [Past.set])]; rfl) | (simp [*, World.cell?_setCell_far]; done)))
           clear hK K
           try simp only [Act.put, putA, putZ, putS]
           refine wpAnyH_take (i := 12) (oi := ⟨some 75, _, _, _, _, _⟩) (v := ?_) rfl (by kernel_rfl) (by kernel_rfl) (by kernel_rfl) (fun _ _ _ h => h) (Or.inl ⟨by rfl, ?_⟩) (by assumption) ?_
           rotate_left
           · intro w hSw; (try dsimp only at hSw); go_simp; first | done | with_reducible rfl | rw [if_pos (by omega)] | rw [if_neg (by omega)]
           try simp only [Act.put, putA, putZ, putS]
           refine wpAnyH_take (i := 13) (oi := ⟨some 76, _, _, _, _, _⟩) (v := ?_) rfl (by kernel_rfl) (by kernel_rfl) (by kernel_rfl) (fun _ _ _ h => h) (Or.inl ⟨by rfl, ?_⟩) (by assumption) ?_
           rotate_left
           · intro w hSw; (try dsimp only at hSw); go_simp; first | done | with_reducible rfl | rw [if_pos (by omega)] | rw [if_neg (by omega)]
           try simp only [Act.put, putA, putZ, putS]
           refine wpAnyH_ready (rs := [14]) (by kernel_rfl) (by simp) ?_
           refine AllReadyH.cons (o := ⟨none, _, _, _, _, _⟩) rfl (fun K hK => ?_) ?_
           · go_simp
             refine hK.out _ _ ?_ (fun hHeld => ?_)
             · (try dsimp only); ((repeat' apply And.intro) <;> (first | (go_simp; done) | (go_simp; rw [cell_alloc_eq _ _ (by simp [Past.set])]; rfl) | (simp [*, World.cell?_setCell_far]; done)))
             clear hK K
             try simp only [Act.put, putA, putZ, putS]
             refine wpAnyH_done (by kernel_rfl) ?_ _
             go_wp2
             refine bodyPost_ret (v := .tuple #[.agg #[.slice ar nr cr, .slice (some ⟨gz, 0, none⟩) (k + 1) cz, .slice al nl cl], faultC ⟨0, 0, 0⟩]) ?_ rfl (line_end ((((((hL.store (.inr (.inl rfl))).store (.inr (.inl rfl))).store (.inr (.inl rfl))).store (.inr (.inr rfl))).store (.inr (.inr rfl))).store (.inr (.inr rfl))) (by rw [HO.out]; rfl) (fun S' e => by rw [HO.out] at e; injection e with e; rw [e]))
             simp [results, Tryz.results27, go_sem, rr0, rr1, rr2, pp0, pp1, pp2]
           exact AllReadyH.nil
         exact AllReadyH.nil
       exact AllReadyH.nil
     exact AllReadyH.nil
end Go.Proofs.YtdhbgelijjlifaaGreatDoor
