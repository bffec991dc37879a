/- Walks of sources: the document's line: no such word. -/
import Derived.Test.YtdhbgelijjlifaaGreatDoorSrcLine
import Derived.Test.YtdhbgelijjlifaaGreatDoorSrcDocF
set_option linter.unusedVariables false
set_option linter.unusedSimpArgs false
namespace Go.Proofs.YtdhbgelijjlifaaGreatDoor
open Go.RowKit Go.Shelf
set_option maxRecDepth 100000 in
set_option maxHeartbeats 16000000 in
set_option synthInstance.maxSize 4000 in
set_option synthInstance.maxHeartbeats 400000 in
theorem dline_word (F : Frm) (w : World) (vr vz vl lv : Value) (zp : List (Zone × Value)) (S : Source) (ws : List Src.Wd) (all : ByteArray) (line : Int) (h : LnIn F w vr vz vl lv zp S ws) (hf : Src.fitsN S) (hall : all.size ≤ 1048576) (r1 : (Src.tx ws 0 == ⟨#[82, 117, 108, 101]⟩) = false) (r2 : ((Src.tx ws 0).toList == [82, 117, 108, 101]) = false) (s1 : (Src.tx ws 0 == ⟨#[90, 111, 110, 101]⟩) = false) (s2 : ((Src.tx ws 0).toList == [90, 111, 110, 101]) = false) (t1 : (Src.tx ws 0 == ⟨#[76, 105, 110, 107]⟩) = false) (t2 : ((Src.tx ws 0).toList == [76, 105, 110, 107]) = false) (hop : Src.openB S = false) :
 Calls Tryz.prog 27 #[.agg #[vr, vz, vl], lv, .string all, .int .i64 line, .bool false] w (LineEnd F w (Src.lineP S ws all.size line)) := by
 obtain ⟨hKp, hT, ⟨Bw, hwds⟩, hs, hpos, hle⟩ := h
 obtain ⟨f1, f2, f3, f4⟩ := hf
 have hlw : ∀ i, (Src.tx ws i).size ≤ 1000 := fun i => tx_size hs i
 have HB := fun e line a t w => Lib.hid (dbad_any e line a t w)
 have hres : ∃ o, Src.lineP S ws all.size line = o := ⟨_, rfl⟩
 obtain ⟨OUT, hres⟩ := hres
 rw [hres]
 have Hres := Lib.hid hres
 clear hres
 have hFw := Below.size hKp.ext
 have hro := hT.rules
 have hzo := hT.zones
 have hlo := hT.links
 obtain ⟨nr, hnr⟩ : ∃ n, S.rules.length = n := ⟨_, rfl⟩
 obtain ⟨nz, hnz⟩ : ∃ n, S.zones.length = n := ⟨_, rfl⟩
 obtain ⟨nl, hnl⟩ : ∃ n, S.links.length = n := ⟨_, rfl⟩
 rw [hnr] at hro f1
 rw [hnz] at hzo f2
 rw [hnl] at hlo f3
 obtain ⟨ar, cr, rfl⟩ := owns_shape hro
 obtain ⟨az, cz, rfl⟩ := owns_shape hzo
 obtain ⟨al, cl, rfl⟩ := owns_shape hlo
 have b1 := len_of (owns_reads hro (by decide))
 have b2 := len_of (owns_reads hzo (by decide))
 have b3 := len_of (owns_reads hlo (by decide))
 have hwr := owns_reads hwds (by decide)
 obtain ⟨n, hn⟩ : ∃ n, ws.length = n := ⟨_, rfl⟩
 have hwo := hwds
 rw [hn] at hwo
 obtain ⟨bl, c9, rfl⟩ := row_block hwo (by omega)
 haveI : InW bl w := ⟨(hwo.lt bl rfl).2⟩
 obtain ⟨d0, q0⟩ := words_at hwo 0 (by omega)
 simp only [Nat.zero_mul, Nat.zero_add] at d0 q0
 have HBx := box3 w #[.slice ar nr cr, .slice az nz cz, .slice al nl cl] #[.slice none 0 0, .slice none 0 0, .slice none 0 0] #[.int .i64 0, .int .i64 0, .int .i64 0] 26 26 29
 have h1 : ¬ Src.tl ws 0 = [82, 117, 108, 101] := fun e => by rw [Lib.toList_data] at r2; rw [show (Src.tx ws 0).data.toList = Src.tl ws 0 from rfl, e] at r2; simp at r2
 have h2 : ¬ Src.tl ws 0 = [90, 111, 110, 101] := fun e => by rw [Lib.toList_data] at s2; rw [show (Src.tx ws 0).data.toList = Src.tl ws 0 from rfl, e] at s2; simp at s2
 have h3 : ¬ Src.tl ws 0 = [76, 105, 110, 107] := fun e => by rw [Lib.toList_data] at t2; rw [show (Src.tx ws 0).data.toList = Src.tl ws 0 from rfl, e] at t2; simp at t2
 go_enter Tryz.func27, Tryz.ntmps27
 go_wp2_with fail
 refine wp_region_past_tail 6 (by kernel_rfl) (by kernel_rfl) ?_
 simp only [List.take_succ_cons, List.take_zero, List.drop_succ_cons, List.drop_zero]
 repeat (go_big_quiet_step ((go_at_call 52; exact Rets.quiet (HB _ _ _ _ _).out)))
 refine wpQuiet_nil ?_
 intro yE
 go_wp2
 refine bodyPost_ret (v := .tuple #[.agg #[.slice ar nr cr, .slice az nz cz, .slice al nl cl], faultC ⟨13, line, Src.pt ws 0⟩]) ?_ rfl (line_bad hKp (by rw [← Hres.out]; simp [Src.lineP, hop, h1, h2, h3]))
 simp [results, Tryz.results27, go_sem]
end Go.Proofs.YtdhbgelijjlifaaGreatDoor
namespace Go.Proofs.YtdhbgelijjlifaaGreatDoor
open Go.RowKit Go.Shelf
set_option maxRecDepth 100000 in
set_option maxHeartbeats 16000000 in
set_option synthInstance.maxSize 4000 in
set_option synthInstance.maxHeartbeats 400000 in
theorem dline_link (F : Frm) (w : World) (vr vz vl lv : Value) (zp : List (Zone × Value)) (S : Source) (ws : List Src.Wd) (all : ByteArray) (line : Int) (h : LnIn F w vr vz vl lv zp S ws) (hf : Src.fitsN S) (hall : all.size ≤ 1048576) (r1 : (Src.tx ws 0 == ⟨#[82, 117, 108, 101]⟩) = false) (r2 : ((Src.tx ws 0).toList == [82, 117, 108, 101]) = false) (s1 : (Src.tx ws 0 == ⟨#[90, 111, 110, 101]⟩) = false) (s2 : ((Src.tx ws 0).toList == [90, 111, 110, 101]) = false) (t1 : (Src.tx ws 0 == ⟨#[76, 105, 110, 107]⟩) = true) (t2 : ((Src.tx ws 0).toList == [76, 105, 110, 107]) = true) :
 Calls Tryz.prog 27 #[.agg #[vr, vz, vl], lv, .string all, .int .i64 line, .bool false] w (LineEnd F w (Src.linkP S ws all.size line)) := by
 obtain ⟨hKp, hT, ⟨Bw, hwds⟩, hs, hpos, hle⟩ := h
 obtain ⟨f1, f2, f3, f4⟩ := hf
 have hlw : ∀ i, (Src.tx ws i).size ≤ 1000 := fun i => tx_size hs i
 have HB := fun e line a t w => Lib.hid (dbad_any e line a t w)
 have hres : ∃ o, Src.linkP S ws all.size line = o := ⟨_, rfl⟩
 obtain ⟨OUT, hres⟩ := hres
 rw [hres]
 have Hres := Lib.hid hres
 clear hres
 have hFw := Below.size hKp.ext
 have hro := hT.rules
 have hzo := hT.zones
 have hlo := hT.links
 obtain ⟨nr, hnr⟩ : ∃ n, S.rules.length = n := ⟨_, rfl⟩
 obtain ⟨nz, hnz⟩ : ∃ n, S.zones.length = n := ⟨_, rfl⟩
 obtain ⟨nl, hnl⟩ : ∃ n, S.links.length = n := ⟨_, rfl⟩
 rw [hnr] at hro f1
 rw [hnz] at hzo f2
 rw [hnl] at hlo f3
 obtain ⟨ar, cr, rfl⟩ := owns_shape hro
 obtain ⟨az, cz, rfl⟩ := owns_shape hzo
 obtain ⟨al, cl, rfl⟩ := owns_shape hlo
 have b1 := len_of (owns_reads hro (by decide))
 have b2 := len_of (owns_reads hzo (by decide))
 have b3 := len_of (owns_reads hlo (by decide))
 have hwr := owns_reads hwds (by decide)
 obtain ⟨n, hn⟩ : ∃ n, ws.length = n := ⟨_, rfl⟩
 have hwo := hwds
 rw [hn] at hwo
 obtain ⟨bl, c9, rfl⟩ := row_block hwo (by omega)
 haveI : InW bl w := ⟨(hwo.lt bl rfl).2⟩
 obtain ⟨d0, q0⟩ := words_at hwo 0 (by omega)
 simp only [Nat.zero_mul, Nat.zero_add] at d0 q0
 have HBx := box3 w #[.slice ar nr cr, .slice az nz cz, .slice al nl cl] #[.slice none 0 0, .slice none 0 0, .slice none 0 0] #[.int .i64 0, .int .i64 0, .int .i64 0] 26 26 29
 have HC := fun w' (hx : Ext w w') => Lib.hid (dcount_any ws all line 3 3 (by omega) (by omega) hall (.slice (some ⟨bl, 0, none⟩) n c9) w' (by rw [← hn]; rw [← hn] at hwo; exact (owns_reads hwo (by decide)).ext hx))
 have HPl : ∀ k w, Hid (Rets Tryz.prog 15 #[.string (Src.tx ws k)] w (.bool (Src.placeB (Src.tl ws k)))) := fun k w => Lib.hid (dplace_any (Src.tx ws k) (by have := hlw k; unfold maxLen; omega) w)
 obtain ⟨i0, hi0, hz0, hz1, hz2⟩ := info_partsS Tryz.infoLinkS
 by_cases q1 : 100 ≤ nl
 · have g1 : (100 : Int) ≤ nl := by omega
   go_enter Tryz.func27, Tryz.ntmps27
   go_wp2_with fail
   refine wp_region_past_tail 6 (by kernel_rfl) (by kernel_rfl) ?_
   simp only [List.take_succ_cons, List.take_zero, List.drop_succ_cons, List.drop_zero]
   repeat (go_big_quiet_step ((go_at_call 52; exact Rets.quiet (HB _ _ _ _ _).out)))
   refine wpQuiet_nil ?_
   intro yE
   go_wp2
   refine bodyPost_ret (v := .tuple #[.agg #[.slice ar nr cr, .slice az nz cz, .slice al nl cl], faultC ⟨12, line, Src.pt ws 0⟩]) ?_ rfl (line_bad hKp (by rw [← Hres.out]; simp [Src.linkP, hnl, q1]))
   simp [results, Tryz.results27, go_sem]
 have g1 : decide ((100 : Int) ≤ nl) = false := decide_eq_false (by omega)
 go_enter Tryz.func27, Tryz.ntmps27
 go_wp2_with fail
 go_at_call 53
 refine Rets.use (HC _ isext).out ?_
 intro y1
 clear HC
 cases hc : Src.countP ws all.size line 3 3 with
 | some f =>
   have hfe := (Src.count_line hc).2
   obtain ⟨e, l1, a1⟩ := f
   simp only at hfe
   have g2 : (e != 0) = true := by simpa using hfe
   simp only [faultO]
   go_wp2_with fail
   go_region
   all_goals
    go_wp2
    refine bodyPost_ret (v := .tuple #[.agg #[.slice ar nr cr, .slice az nz cz, .slice al nl cl], faultC ⟨e, l1, a1⟩]) ?_ rfl (line_bad hKp (by rw [← Hres.out]; simp [Src.linkP, hnl, q1, hc]))
    simp [results, Tryz.results27, go_sem]
 | none =>
   simp only [faultO]
   have hn3 := Src.count_bd hc
   go_wp2_with fail
   go_loopw [23] (fun iv wr => ∃ j : Nat, 1 ≤ j ∧ j ≤ 3 ∧ iv = .int .i64 j ∧ (∀ k, 1 ≤ k → k < j → Src.placeB (Src.tl ws k) = true) ∧ Ext y1.x wr) (fun iv _ => 3 - (intOf iv).toNat)
   case atStart => exact ⟨1, by omega, by omega, rfl, fun k h1 h2 => absurd h1 (by omega), isext⟩
   case round =>
    obtain ⟨j, j1, j2, rfl, hpl, hx⟩ := hrel
    obtain ⟨y2, rfl⟩ := fin hx
    clear hx
    by_cases hlt : j ≤ 2
    · have gj : (j : Int) ≤ 2 := by omega
      have gn : (j : Int) < n := by omega
      obtain ⟨dj, qj⟩ := words_at hwo j (by omega)
      go_wp2_with fail
      go_at_call 15
      cases hp : Src.placeB (Src.tl ws j)
      · have HPj := HPl j
        rw [hp] at HPj
        refine Rets.use (HPj _).out ?_
        intro y3
        have hcs : (j = 1 ∧ Src.placeB (Src.tl ws 1) = false) ∨ (j = 2 ∧ Src.placeB (Src.tl ws 1) = true ∧ Src.placeB (Src.tl ws 2) = false) := by
         rcases (show j = 1 ∨ j = 2 by omega) with rfl | rfl
         · exact .inl ⟨rfl, hp⟩
         · exact .inr ⟨rfl, hpl 1 (by omega) (by omega), hp⟩
        have HO : Hid (Src.linkP S ws all.size line = .inl ⟨6, line, Src.pt ws j⟩) := by
         show _ = _
         rcases hcs with ⟨rfl, p1⟩ | ⟨rfl, p1, p2⟩
         · simp [Src.linkP, hnl, q1, hc, p1]
         · simp [Src.linkP, hnl, q1, hc, p1, p2]
        clear hcs hp hpl
        go_wp2_with fail
        refine wp_region_past_tail 7 (by kernel_rfl) (by kernel_rfl) ?_
        simp only [List.take_succ_cons, List.take_zero, List.drop_succ_cons, List.drop_zero]
        repeat (go_big_quiet_step ((go_at_call 52; exact Rets.quiet (HB _ _ _ _ _).out)))
        refine wpQuiet_nil ?_
        intro yE
        go_wp2
        refine bodyPost_ret (v := .tuple #[.agg #[.slice ar nr cr, .slice az nz cz, .slice al nl cl], faultC ⟨6, line, Src.pt ws j⟩]) ?_ rfl (line_bad hKp (by rw [← Hres.out]; simp [HO.out]))
        simp [results, Tryz.results27, go_sem]
      · have HPj := HPl j
        rw [hp] at HPj
        refine Rets.use (HPj _).out ?_
        intro y3
        go_wp2_with fail
        go_roundw
        case rel => exact ⟨j + 1, by omega, by omega, by go_num, fun k h1 h2 => if e : k = j then (by rw [e]; exact hp) else hpl k h1 (by omega), isext⟩
        case measure => simp [intOf]; omega
    · obtain rfl : j = 3 := by omega
      have hp1 := hpl 1 (by omega) (by omega)
      have hp2 := hpl 2 (by omega) (by omega)
      have HO : Hid (OUT = .inr ⟨S.rules, S.zones, S.links ++ [⟨Src.tx ws 1, Src.tx ws 2⟩]⟩) := by show _ = _; rw [← Hres.out]; simp [Src.linkP, hnl, q1, hc, hp1, hp2]
      clear hpl
      obtain ⟨d1, q1'⟩ := words_at hwo 1 (by omega)
      obtain ⟨d2, q2'⟩ := words_at hwo 2 (by omega)
      simp only [Nat.reduceMul, Nat.one_mul] at d1 d2
      go_wp2_with fail
      refine wp_region_held_drew (S := fun w' => w'.cell? ⟨bl, 2, none⟩ = some (.string (Src.tx ws 1)) ∧ w'.cell? ⟨bl, 4, none⟩ = some (.string (Src.tx ws 2))) (by kernel_rfl) (by (try dsimp only); ((repeat' apply And.intro) <;> (go_simp; try (rw [cell_alloc_eq _ _ (by simp [Past.set])]; rfl)))) (fun hHeld => ?_)
      refine wpAnyH_take (i := 0) (oi := ⟨some 210, _, _, _, _, _⟩) (v := ?_) rfl (by kernel_rfl) (by kernel_rfl) (by kernel_rfl) (fun _ _ _ h => h) (Or.inl ⟨by rfl, ?_⟩) (by assumption) ?_
      rotate_left
      · intro w hSw; (try dsimp only at hSw); go_simp; first | done | with_reducible rfl | rw [if_pos (by omega)] | rw [if_neg (by omega)]
      try simp only [Act.put, putA, putZ, putS]
      refine wpAnyH_take (i := 2) (oi := ⟨some 212, _, _, _, _, _⟩) (v := ?_) rfl (by kernel_rfl) (by kernel_rfl) (by kernel_rfl) (fun _ _ _ h => h) (Or.inl ⟨by rfl, ?_⟩) (by assumption) ?_
      rotate_left
      · intro w hSw; (try dsimp only at hSw); go_simp; first | done | with_reducible rfl | rw [if_pos (by omega)] | rw [if_neg (by omega)]
      try simp only [Act.put, putA, putZ, putS]
      refine wpAnyH_take (i := 3) (oi := ⟨some 213, _, _, _, _, _⟩) (v := ?_) rfl (by kernel_rfl) (by kernel_rfl) (by kernel_rfl) (fun _ _ _ h => h) (Or.inl ⟨by rfl, ?_⟩) (by assumption) ?_
      rotate_left
      · intro w hSw; (try dsimp only at hSw); go_simp; first | done | with_reducible rfl | rw [if_pos (by omega)] | rw [if_neg (by omega)]
      try simp only [Act.put, putA, putZ, putS]
      refine wpAnyH_take (i := 4) (oi := ⟨some 214, _, _, _, _, _⟩) (v := ?_) rfl (by kernel_rfl) (by kernel_rfl) (by kernel_rfl) (fun _ _ _ h => h) (Or.inl ⟨by rfl, ?_⟩) (by assumption) ?_
      rotate_left
      · intro w hSw; (try dsimp only at hSw); go_simp; first | done | with_reducible rfl | rw [if_pos (by omega)] | rw [if_neg (by omega)]
      try simp only [Act.put, putA, putZ, putS]
      refine wpAnyH_take (i := 5) (oi := ⟨some 215, _, _, _, _, _⟩) (v := ?_) rfl (by kernel_rfl) (by kernel_rfl) (by kernel_rfl) (fun _ _ _ h => h) (Or.inl ⟨by rfl, ?_⟩) (by assumption) ?_
      rotate_left
      · intro w hSw; (try dsimp only at hSw); go_simp; first | done | with_reducible rfl | rw [if_pos (by omega)] | rw [if_neg (by omega)]
      try simp only [Act.put, putA, putZ, putS]
      refine wpAnyH_take (i := 6) (oi := ⟨some 216, _, _, _, _, _⟩) (v := ?_) rfl (by kernel_rfl) (by kernel_rfl) (by kernel_rfl) (fun _ _ _ h => h) (Or.inl ⟨by rfl, ?_⟩) (by assumption) ?_
      rotate_left
      · intro w hSw; (try dsimp only at hSw); go_simp; first | done | with_reducible rfl | rw [if_pos (by omega)] | rw [if_neg (by omega)]
      try simp only [Act.put, putA, putZ, putS]
      refine wpAnyH_take (i := 7) (oi := ⟨some 217, _, _, _, _, _⟩) (v := ?_) rfl (by kernel_rfl) (by kernel_rfl) (by kernel_rfl) (fun _ _ _ h => h) (Or.inl ⟨by rfl, ?_⟩) (by assumption) ?_
      rotate_left
      · intro w hSw; (try dsimp only at hSw); go_simp; first | done | with_reducible rfl | rw [if_pos (by omega)] | rw [if_neg (by omega)]
      try simp only [Act.put, putA, putZ, putS]
      refine wpAnyH_take (i := 8) (oi := ⟨some 218, _, _, _, _, _⟩) (v := ?_) rfl (by kernel_rfl) (by kernel_rfl) (by kernel_rfl) (fun _ _ _ h => h) (Or.inl ⟨by rfl, ?_⟩) (by assumption) ?_
      rotate_left
      · intro w hSw; (try dsimp only at hSw); go_simp; first | done | with_reducible rfl | rw [if_pos (by omega)] | rw [if_neg (by omega)]
      try simp only [Act.put, putA, putZ, putS]
      refine wpAnyH_take (i := 9) (oi := ⟨some 219, _, _, _, _, _⟩) (v := ?_) rfl (by kernel_rfl) (by kernel_rfl) (by kernel_rfl) (fun _ _ _ h => h) (Or.inl ⟨by rfl, ?_⟩) (by assumption) ?_
      rotate_left
      · intro w hSw; (try dsimp only at hSw); go_simp; first | done | with_reducible rfl | rw [if_pos (by omega)] | rw [if_neg (by omega)]
      try simp only [Act.put, putA, putZ, putS]
      refine wpAnyH_take (i := 10) (oi := ⟨some 220, _, _, _, _, _⟩) (v := ?_) rfl (by kernel_rfl) (by kernel_rfl) (by kernel_rfl) (fun _ _ _ h => h) (Or.inl ⟨by rfl, ?_⟩) (by assumption) ?_
      rotate_left
      · intro w hSw; (try dsimp only at hSw); go_simp; first | done | with_reducible rfl | rw [if_pos (by omega)] | rw [if_neg (by omega)]
      try simp only [Act.put, putA, putZ, putS]
      refine wpAnyH_ready (rs := [1, 11]) (by kernel_rfl) (by simp) ?_
      refine AllReadyH.cons (o := ⟨some 211, _, _, _, _, _⟩) rfl (fun K hK => ?_) ?_
      · go_simp
        refine hK.out _ _ ?_ (fun hHeld => ?_)
        · (try dsimp only); ((repeat' apply And.intro) <;> (go_simp; try (rw [cell_alloc_eq _ _ (by simp [Past.set])]; rfl)))
        clear hK K
        try simp only [Act.put, putA, putZ, putS]
        refine wpAnyH_ready (rs := [11]) (by kernel_rfl) (by simp) ?_
        refine AllReadyH.cons (o := ⟨some 221, _, _, _, _, _⟩) rfl (fun K hK => ?_) ?_
        · go_simp
          refine hK.out _ _ ?_ (fun hHeld => ?_)
          · (try dsimp only); ((repeat' apply And.intro) <;> (go_simp; try (rw [cell_alloc_eq _ _ (by simp [Past.set])]; rfl)))
          clear hK K
          try simp only [Act.put, putA, putZ, putS]
          refine wpAnyH_ready (rs := [12]) (by kernel_rfl) (by simp) ?_
          refine AllReadyH.cons (o := ⟨some 222, _, _, _, _, _⟩) rfl (fun K hK => ?_) ?_
          · refine wp_append_own _ _ _ 24 rfl F.w.heap.size 63 i0 (.agg #[.string ByteArray.empty, .string ByteArray.empty]) 2 32 Tryz.underlying24 hi0 hz0 hz1 hz2 rfl (by decide) (.slice al nl cl) nl (linkRow S.links) rfl (own_past hlo isext) _ 1 1 [.string (Src.tx ws 1), .string (Src.tx ws 2)] rfl rfl (new_cells' _ _ _ _ (by simp)) (by simp [Value.oneCell']) (by unfold maxLen; omega) (by omega) (leB (a := w) hFw) (fun v' w1 hown1 hgrow1 _ => ?_); obtain ⟨av', cap', rfl⟩ := owns_shape hown1; have B5 := blk_newT (HBx.1.ext isext) hlo (by omega) hgrow1; have B10 := blk_newT (HBx.2.1.ext isext) hlo (by omega) hgrow1; have B11 := blk_newT (HBx.2.2.ext isext) hlo (by omega) hgrow1; have hW1 := own_other (own_past hwo isext) (own_past hlo isext) (by decide) hgrow1; have e1 := (words_at hW1 1 (by omega)).1; have e2 := (words_at hW1 2 (by omega)).1; simp only [Nat.reduceMul, Nat.one_mul] at e1 e2; have hL : Ln F w w1 w.heap.size (w.heap.size + 1) (w.heap.size + 1 + 1) (.slice ar nr cr) (.slice az nz cz) (.slice av' (nl + 1) cap') zp (some ⟨S.rules, S.zones, S.links ++ [⟨Src.tx ws 1, Src.tx ws 2⟩]⟩) := ⟨(hKp.trans isext).grownT (own_past hlo isext) (by decide) hgrow1, frame_grown isext (own_past hlo isext) (by decide) (by decide) hgrow1, ⟨by omega, by omega, by omega⟩, fun S' e => by injection e with e; subst e; exact (hT.past isext).link (by rw [hnl]; unfold linkRow; rw [rowOf_snoc]; exact hown1) hgrow1, ⟨_, B5⟩, ⟨_, B10⟩, ⟨_, B11⟩, by omega, by omega, by omega⟩; have i5 : InW w.heap.size w1 := ⟨B5.lt⟩; have i10 : InW (w.heap.size + 1) w1 := ⟨B10.lt⟩; have i11 : InW (w.heap.size + 1 + 1) w1 := ⟨B11.lt⟩; have k0 : w1.cell? ⟨w.heap.size, 0, none⟩ = some (.slice ar nr cr) := (B5.cell 0).trans rfl; have k1 : w1.cell? ⟨w.heap.size, 1, none⟩ = some (.slice az nz cz) := (B5.cell 1).trans rfl; have k2 : w1.cell? ⟨w.heap.size, 2, none⟩ = some (.slice al nl cl) := (B5.cell 2).trans rfl; have rr0 : w1.cell? ⟨w.heap.size + 1, 0, none⟩ = some (.slice none 0 0) := (B10.cell 0).trans rfl; have rr1 : w1.cell? ⟨w.heap.size + 1, 1, none⟩ = some (.slice none 0 0) := (B10.cell 1).trans rfl; have rr2 : w1.cell? ⟨w.heap.size + 1, 2, none⟩ = some (.slice none 0 0) := (B10.cell 2).trans rfl; have pp0 : w1.cell? ⟨w.heap.size + 1 + 1, 0, none⟩ = some (.int .i64 0) := (B11.cell 0).trans rfl; have pp1 : w1.cell? ⟨w.heap.size + 1 + 1, 1, none⟩ = some (.int .i64 0) := (B11.cell 1).trans rfl; have pp2 : w1.cell? ⟨w.heap.size + 1 + 1, 2, none⟩ = some (.int .i64 0) := (B11.cell 2).trans rfl; have rf0 := B10.frozen 0; have rf1 := B10.frozen 1; have rf2 := B10.frozen 2; have pf0 := B11.frozen 0; have pf1 := B11.frozen 1; have pf2 := B11.frozen 2; have kf := B5.frozen 2; have hb9 := (hwo.lt bl rfl).2; have o1 := far1 (i := 2) (v := .slice av' (nl + 1) cap') (show w.heap.size ≠ bl by omega) e1; have o2 := far1 (i := 2) (v := .slice av' (nl + 1) cap') (show w.heap.size ≠ bl by omega) e2
            refine hK.out _ _ ?_ (fun hHeld => ?_)
            · (try dsimp only); ((repeat' apply And.intro) <;> (go_simp; try (rw [cell_alloc_eq _ _ (by simp [Past.set])]; rfl)))
            clear hK K
            try simp only [Act.put, putA, putZ, putS]
            refine wpAnyH_take (i := 13) (oi := ⟨some 223, _, _, _, _, _⟩) (v := ?_) rfl (by kernel_rfl) (by kernel_rfl) (by kernel_rfl) (fun _ _ _ h => h) (Or.inl ⟨by rfl, ?_⟩) (by assumption) ?_
            rotate_left
            · intro w hSw; (try dsimp only at hSw); go_simp; first | done | with_reducible rfl | rw [if_pos (by omega)] | rw [if_neg (by omega)]
            try simp only [Act.put, putA, putZ, putS]
            refine wpAnyH_ready (rs := [14]) (by kernel_rfl) (by simp) ?_
            refine AllReadyH.cons (o := ⟨none, _, _, _, _, _⟩) rfl (fun K hK => ?_) ?_
            · go_simp
              refine hK.out _ _ ?_ (fun hHeld => ?_)
              · (try dsimp only); ((repeat' apply And.intro) <;> (go_simp; try (rw [cell_alloc_eq _ _ (by simp [Past.set])]; rfl)))
              clear hK K
              try simp only [Act.put, putA, putZ, putS]
              refine wpAnyH_done (by kernel_rfl) ?_ _
              go_wp2
              refine bodyPost_ret (v := .tuple #[.agg #[.slice ar nr cr, .slice az nz cz, .slice av' (nl + 1) cap'], faultC ⟨0, 0, 0⟩]) ?_ rfl (line_end (((((((hL.store (.inl rfl)).store (.inr (.inl rfl))).store (.inr (.inl rfl))).store (.inr (.inl rfl))).store (.inr (.inr rfl))).store (.inr (.inr rfl))).store (.inr (.inr rfl))) (by rw [HO.out]; rfl) (fun S' e => by rw [HO.out] at e; injection e with e; rw [e]))
              simp [results, Tryz.results27, go_sem, rr0, rr1, rr2, pp0, pp1, pp2]
            exact AllReadyH.nil
          exact AllReadyH.nil
        exact AllReadyH.nil
      refine AllReadyH.cons (o := ⟨some 221, _, _, _, _, _⟩) rfl (fun K hK => ?_) ?_
      · go_simp
        refine hK.out _ _ ?_ (fun hHeld => ?_)
        · (try dsimp only); ((repeat' apply And.intro) <;> (go_simp; try (rw [cell_alloc_eq _ _ (by simp [Past.set])]; rfl)))
        clear hK K
        try simp only [Act.put, putA, putZ, putS]
        refine wpAnyH_ready (rs := [1]) (by kernel_rfl) (by simp) ?_
        refine AllReadyH.cons (o := ⟨some 211, _, _, _, _, _⟩) rfl (fun K hK => ?_) ?_
        · go_simp
          refine hK.out _ _ ?_ (fun hHeld => ?_)
          · (try dsimp only); ((repeat' apply And.intro) <;> (go_simp; try (rw [cell_alloc_eq _ _ (by simp [Past.set])]; rfl)))
          clear hK K
          try simp only [Act.put, putA, putZ, putS]
          refine wpAnyH_ready (rs := [12]) (by kernel_rfl) (by simp) ?_
          refine AllReadyH.cons (o := ⟨some 222, _, _, _, _, _⟩) rfl (fun K hK => ?_) ?_
          · refine wp_append_own _ _ _ 24 rfl F.w.heap.size 63 i0 (.agg #[.string ByteArray.empty, .string ByteArray.empty]) 2 32 Tryz.underlying24 hi0 hz0 hz1 hz2 rfl (by decide) (.slice al nl cl) nl (linkRow S.links) rfl (own_past hlo isext) _ 1 1 [.string (Src.tx ws 1), .string (Src.tx ws 2)] rfl rfl (new_cells' _ _ _ _ (by simp)) (by simp [Value.oneCell']) (by unfold maxLen; omega) (by omega) (leB (a := w) hFw) (fun v' w1 hown1 hgrow1 _ => ?_); obtain ⟨av', cap', rfl⟩ := owns_shape hown1; have B5 := blk_newT (HBx.1.ext isext) hlo (by omega) hgrow1; have B10 := blk_newT (HBx.2.1.ext isext) hlo (by omega) hgrow1; have B11 := blk_newT (HBx.2.2.ext isext) hlo (by omega) hgrow1; have hW1 := own_other (own_past hwo isext) (own_past hlo isext) (by decide) hgrow1; have e1 := (words_at hW1 1 (by omega)).1; have e2 := (words_at hW1 2 (by omega)).1; simp only [Nat.reduceMul, Nat.one_mul] at e1 e2; have hL : Ln F w w1 w.heap.size (w.heap.size + 1) (w.heap.size + 1 + 1) (.slice ar nr cr) (.slice az nz cz) (.slice av' (nl + 1) cap') zp (some ⟨S.rules, S.zones, S.links ++ [⟨Src.tx ws 1, Src.tx ws 2⟩]⟩) := ⟨(hKp.trans isext).grownT (own_past hlo isext) (by decide) hgrow1, frame_grown isext (own_past hlo isext) (by decide) (by decide) hgrow1, ⟨by omega, by omega, by omega⟩, fun S' e => by injection e with e; subst e; exact (hT.past isext).link (by rw [hnl]; unfold linkRow; rw [rowOf_snoc]; exact hown1) hgrow1, ⟨_, B5⟩, ⟨_, B10⟩, ⟨_, B11⟩, by omega, by omega, by omega⟩; have i5 : InW w.heap.size w1 := ⟨B5.lt⟩; have i10 : InW (w.heap.size + 1) w1 := ⟨B10.lt⟩; have i11 : InW (w.heap.size + 1 + 1) w1 := ⟨B11.lt⟩; have k0 : w1.cell? ⟨w.heap.size, 0, none⟩ = some (.slice ar nr cr) := (B5.cell 0).trans rfl; have k1 : w1.cell? ⟨w.heap.size, 1, none⟩ = some (.slice az nz cz) := (B5.cell 1).trans rfl; have k2 : w1.cell? ⟨w.heap.size, 2, none⟩ = some (.slice al nl cl) := (B5.cell 2).trans rfl; have rr0 : w1.cell? ⟨w.heap.size + 1, 0, none⟩ = some (.slice none 0 0) := (B10.cell 0).trans rfl; have rr1 : w1.cell? ⟨w.heap.size + 1, 1, none⟩ = some (.slice none 0 0) := (B10.cell 1).trans rfl; have rr2 : w1.cell? ⟨w.heap.size + 1, 2, none⟩ = some (.slice none 0 0) := (B10.cell 2).trans rfl; have pp0 : w1.cell? ⟨w.heap.size + 1 + 1, 0, none⟩ = some (.int .i64 0) := (B11.cell 0).trans rfl; have pp1 : w1.cell? ⟨w.heap.size + 1 + 1, 1, none⟩ = some (.int .i64 0) := (B11.cell 1).trans rfl; have pp2 : w1.cell? ⟨w.heap.size + 1 + 1, 2, none⟩ = some (.int .i64 0) := (B11.cell 2).trans rfl; have rf0 := B10.frozen 0; have rf1 := B10.frozen 1; have rf2 := B10.frozen 2; have pf0 := B11.frozen 0; have pf1 := B11.frozen 1; have pf2 := B11.frozen 2; have kf := B5.frozen 2; have hb9 := (hwo.lt bl rfl).2; have o1 := far1 (i := 2) (v := .slice av' (nl + 1) cap') (show w.heap.size ≠ bl by omega) e1; have o2 := far1 (i := 2) (v := .slice av' (nl + 1) cap') (show w.heap.size ≠ bl by omega) e2
            refine hK.out _ _ ?_ (fun hHeld => ?_)
            · (try dsimp only); ((repeat' apply And.intro) <;> (go_simp; try (rw [cell_alloc_eq _ _ (by simp [Past.set])]; rfl)))
            clear hK K
            try simp only [Act.put, putA, putZ, putS]
            refine wpAnyH_take (i := 13) (oi := ⟨some 223, _, _, _, _, _⟩) (v := ?_) rfl (by kernel_rfl) (by kernel_rfl) (by kernel_rfl) (fun _ _ _ h => h) (Or.inl ⟨by rfl, ?_⟩) (by assumption) ?_
            rotate_left
            · intro w hSw; (try dsimp only at hSw); go_simp; first | done | with_reducible rfl | rw [if_pos (by omega)] | rw [if_neg (by omega)]
            try simp only [Act.put, putA, putZ, putS]
            refine wpAnyH_ready (rs := [14]) (by kernel_rfl) (by simp) ?_
            refine AllReadyH.cons (o := ⟨none, _, _, _, _, _⟩) rfl (fun K hK => ?_) ?_
            · go_simp
              refine hK.out _ _ ?_ (fun hHeld => ?_)
              · (try dsimp only); ((repeat' apply And.intro) <;> (go_simp; try (rw [cell_alloc_eq _ _ (by simp [Past.set])]; rfl)))
              clear hK K
              try simp only [Act.put, putA, putZ, putS]
              refine wpAnyH_done (by kernel_rfl) ?_ _
              go_wp2
              refine bodyPost_ret (v := .tuple #[.agg #[.slice ar nr cr, .slice az nz cz, .slice av' (nl + 1) cap'], faultC ⟨0, 0, 0⟩]) ?_ rfl (line_end (((((((hL.store (.inl rfl)).store (.inr (.inl rfl))).store (.inr (.inl rfl))).store (.inr (.inl rfl))).store (.inr (.inr rfl))).store (.inr (.inr rfl))).store (.inr (.inr rfl))) (by rw [HO.out]; rfl) (fun S' e => by rw [HO.out] at e; injection e with e; rw [e]))
              simp [results, Tryz.results27, go_sem, rr0, rr1, rr2, pp0, pp1, pp2]
            exact AllReadyH.nil
          exact AllReadyH.nil
        exact AllReadyH.nil
      exact AllReadyH.nil
end Go.Proofs.YtdhbgelijjlifaaGreatDoor
namespace Go.Proofs.YtdhbgelijjlifaaGreatDoor
open Go.RowKit Go.Shelf
set_option maxRecDepth 100000 in
set_option maxHeartbeats 16000000 in
set_option synthInstance.maxSize 4000 in
set_option synthInstance.maxHeartbeats 400000 in
theorem dline_rule (F : Frm) (w : World) (vr vz vl lv : Value) (zp : List (Zone × Value)) (S : Source) (ws : List Src.Wd) (all : ByteArray) (line : Int) (h : LnIn F w vr vz vl lv zp S ws) (hf : Src.fitsN S) (hall : all.size ≤ 1048576) (r1 : (Src.tx ws 0 == ⟨#[82, 117, 108, 101]⟩) = true) (r2 : ((Src.tx ws 0).toList == [82, 117, 108, 101]) = true) :
 Calls Tryz.prog 27 #[.agg #[vr, vz, vl], lv, .string all, .int .i64 line, .bool false] w (LineEnd F w (Src.ruleLineP S ws all.size line)) := by
 obtain ⟨hKp, hT, ⟨Bw, hwds⟩, hs, hpos, hle⟩ := h
 obtain ⟨f1, f2, f3, f4⟩ := hf
 have hlw : ∀ i, (Src.tx ws i).size ≤ 1000 := fun i => tx_size hs i
 have HB := fun e line a t w => Lib.hid (dbad_any e line a t w)
 have hres : ∃ o, Src.ruleLineP S ws all.size line = o := ⟨_, rfl⟩
 obtain ⟨OUT, hres⟩ := hres
 rw [hres]
 have Hres := Lib.hid hres
 clear hres
 have hFw := Below.size hKp.ext
 have hro := hT.rules
 have hzo := hT.zones
 have hlo := hT.links
 obtain ⟨nr, hnr⟩ : ∃ n, S.rules.length = n := ⟨_, rfl⟩
 obtain ⟨nz, hnz⟩ : ∃ n, S.zones.length = n := ⟨_, rfl⟩
 obtain ⟨nl, hnl⟩ : ∃ n, S.links.length = n := ⟨_, rfl⟩
 rw [hnr] at hro f1
 rw [hnz] at hzo f2
 rw [hnl] at hlo f3
 obtain ⟨ar, cr, rfl⟩ := owns_shape hro
 obtain ⟨az, cz, rfl⟩ := owns_shape hzo
 obtain ⟨al, cl, rfl⟩ := owns_shape hlo
 have b1 := len_of (owns_reads hro (by decide))
 have b2 := len_of (owns_reads hzo (by decide))
 have b3 := len_of (owns_reads hlo (by decide))
 have hwr := owns_reads hwds (by decide)
 obtain ⟨n, hn⟩ : ∃ n, ws.length = n := ⟨_, rfl⟩
 have hwo := hwds
 rw [hn] at hwo
 obtain ⟨bl, c9, rfl⟩ := row_block hwo (by omega)
 haveI : InW bl w := ⟨(hwo.lt bl rfl).2⟩
 obtain ⟨d0, q0⟩ := words_at hwo 0 (by omega)
 simp only [Nat.zero_mul, Nat.zero_add] at d0 q0
 have HBx := box3 w #[.slice ar nr cr, .slice az nz cz, .slice al nl cl] #[.slice none 0 0, .slice none 0 0, .slice none 0 0] #[.int .i64 0, .int .i64 0, .int .i64 0] 26 26 29
 have HC := fun w' (hx : Ext w w') => Lib.hid (dcount_any ws all line 10 10 (by omega) (by omega) hall (.slice (some ⟨bl, 0, none⟩) n c9) w' (by rw [← hn]; rw [← hn] at hwo; exact (owns_reads hwo (by decide)).ext hx))
 have HR := fun w' (hx : Ext w w') (h10 : ws.length = 10) => Lib.hid (drule_all ws line (.slice (some ⟨bl, 0, none⟩) n c9) w' (by rw [← hn]; rw [← hn] at hwo; exact (owns_reads hwo (by decide)).ext hx) h10 hs)
 obtain ⟨i0, hi0, hz0, hz1, hz2⟩ := info_partsS Tryz.infoRuleS
 by_cases q1 : 200 ≤ nr
 · have g1 : (200 : Int) ≤ nr := by omega
   go_enter Tryz.func27, Tryz.ntmps27
   go_wp2_with fail
   refine wp_region_past_tail 6 (by kernel_rfl) (by kernel_rfl) ?_
   simp only [List.take_succ_cons, List.take_zero, List.drop_succ_cons, List.drop_zero]
   repeat (go_big_quiet_step ((go_at_call 52; exact Rets.quiet (HB _ _ _ _ _).out)))
   refine wpQuiet_nil ?_
   intro yE
   go_wp2
   refine bodyPost_ret (v := .tuple #[.agg #[.slice ar nr cr, .slice az nz cz, .slice al nl cl], faultC ⟨12, line, Src.pt ws 0⟩]) ?_ rfl (line_bad hKp (by rw [← Hres.out]; simp [Src.ruleLineP, hnr, q1]))
   simp [results, Tryz.results27, go_sem]
 have g1 : decide ((200 : Int) ≤ nr) = false := decide_eq_false (by omega)
 go_enter Tryz.func27, Tryz.ntmps27
 go_wp2_with fail
 go_at_call 53
 refine Rets.use (HC _ isext).out ?_
 intro y1
 clear HC
 cases hc : Src.countP ws all.size line 10 10 with
 | some f =>
   have hfe := (Src.count_line hc).2
   obtain ⟨e, l1, a1⟩ := f
   simp only at hfe
   have g2 : (e != 0) = true := by simpa using hfe
   simp only [faultO]
   go_wp2_with fail
   go_region
   all_goals
    go_wp2
    refine bodyPost_ret (v := .tuple #[.agg #[.slice ar nr cr, .slice az nz cz, .slice al nl cl], faultC ⟨e, l1, a1⟩]) ?_ rfl (line_bad hKp (by rw [← Hres.out]; simp [Src.ruleLineP, hnr, q1, hc]))
    simp [results, Tryz.results27, go_sem]
 | none =>
   simp only [faultO]
   have h10 : ws.length = 10 := by have := Src.count_bd hc; omega
   go_wp2_with fail
   go_at_call 55
   refine (HR _ isext h10).out.mono ?_
   rintro _ _ ⟨x, y2, rfl, hx, rfl⟩
   clear HR
   have hff : faultS OUT = faultS (Src.ruleP ws line) := by rw [← Hres.out]; simp only [Src.ruleLineP, hnr, if_neg q1, hc]; cases Src.ruleP ws line <;> rfl
   have hgood : ∀ S', OUT = .inr S' → S' = ⟨S.rules ++ [x], S.zones, S.links⟩ := by
    intro S' e
    rw [← Hres.out] at e
    simp only [Src.ruleLineP, hnr, if_neg q1, hc] at e
    cases hrp : Src.ruleP ws line with
    | inl f => rw [hrp] at e; cases e
    | inr r =>
      rw [hrp] at e
      injection e with e
      rw [← e, hx r hrp]
   generalize faultS (Src.ruleP ws line) = ff at *
   obtain ⟨fe, fl, fa⟩ := ff
   obtain ⟨xn, xa, xb, xm, xk, xwd, xd, xt, xr, xs, xl⟩ := x
   have Hff := Lib.hid hff
   have Hgood := Lib.hid hgood
   have hwz : w.heap.size + 1 + 1 < y2.x.heap.size := (inferInstance : InW (w.heap.size + 1 + 1) y2.x).lt
   have q70 : ¬ w.heap.size = y2.x.heap.size + 1 := by omega
   have q71 : ¬ w.heap.size + 1 = y2.x.heap.size + 1 := by omega
   have q72 : ¬ w.heap.size + 1 + 1 = y2.x.heap.size + 1 := by omega
   have q73 : ¬ w.heap.size = y2.x.heap.size := by omega
   have q74 : ¬ w.heap.size + 1 = y2.x.heap.size := by omega
   have hwy : w.heap.size ≤ y2.x.heap.size := by omega
   have HB18 := box2 y2.x #[.string xn, .int .i64 xa, .int .i64 xb, .int .i64 xm, .int .i64 xk, .int .i64 xwd, .int .i64 xd, .int .i64 xt, .int .i64 xr, .int .i64 xs, .string xl] #[.int .i64 fe, .int .i64 fl, .int .i64 fa] 61 29
   clear hff hgood hx
   go_wp2_with (at_builtin; go_loud (refine wpList_append_own _ rfl _ _ 22 rfl F.w.heap.size 61 i0 (.agg #[.string ByteArray.empty, .int .i64 0, .int .i64 0, .int .i64 0, .int .i64 0, .int .i64 0, .int .i64 0, .int .i64 0, .int .i64 0, .int .i64 0, .string ByteArray.empty]) 11 104 Tryz.underlying22 hi0 hz0 hz1 hz2 rfl (by decide) (.slice ar nr cr) nr (ruleRow S.rules) rfl (own_past hro isext) _ 1 1 [.string xn, .int .i64 xa, .int .i64 xb, .int .i64 xm, .int .i64 xk, .int .i64 xwd, .int .i64 xd, .int .i64 xt, .int .i64 xr, .int .i64 xs, .string xl] rfl rfl (new_cells' _ _ _ _ (by simp)) (by simp [Value.oneCell']) (by unfold maxLen; omega) (by omega) (leB (a := w) hFw) ?_; intro v' w1 hown1 hgrow1 _; obtain ⟨av', cap', rfl⟩ := owns_shape hown1; have B5 := blk_newT (HBx.1.ext isext) hro (by omega) hgrow1; have B10 := blk_newT (HBx.2.1.ext isext) hro (by omega) hgrow1; have B11 := blk_newT (HBx.2.2.ext isext) hro (by omega) hgrow1; have B18 := blk_newT (b := y2.x.heap.size + 1) (HB18.ext isext) hro (by omega) hgrow1; have hL : Ln F w w1 w.heap.size (w.heap.size + 1) (w.heap.size + 1 + 1) (.slice av' (nr + 1) cap') (.slice az nz cz) (.slice al nl cl) zp (some ⟨S.rules ++ [⟨xn, xa, xb, xm, xk, xwd, xd, xt, xr, xs, xl⟩], S.zones, S.links⟩) := ⟨(hKp.trans isext).grownT (own_past hro isext) (by decide) hgrow1, frame_grown isext (own_past hro isext) (by decide) (by decide) hgrow1, ⟨by omega, by omega, by omega⟩, fun S' e => by injection e with e; subst e; exact (hT.past isext).rule (by rw [hnr, ruleRow_eq, rowOf_snoc, ← ruleRow_eq]; exact hown1) hgrow1, ⟨_, B5⟩, ⟨_, B10⟩, ⟨_, B11⟩, by omega, by omega, by omega⟩; have i5 : InW w.heap.size w1 := ⟨B5.lt⟩; have i10 : InW (w.heap.size + 1) w1 := ⟨B10.lt⟩; have i11 : InW (w.heap.size + 1 + 1) w1 := ⟨B11.lt⟩; have i18 : InW (y2.x.heap.size + 1) w1 := ⟨B18.lt⟩; have k0 : w1.cell? ⟨w.heap.size, 0, none⟩ = some (.slice ar nr cr) := (B5.cell 0).trans rfl; have k1 : w1.cell? ⟨w.heap.size, 1, none⟩ = some (.slice az nz cz) := (B5.cell 1).trans rfl; have k2 : w1.cell? ⟨w.heap.size, 2, none⟩ = some (.slice al nl cl) := (B5.cell 2).trans rfl; have rr0 : w1.cell? ⟨w.heap.size + 1, 0, none⟩ = some (.slice none 0 0) := (B10.cell 0).trans rfl; have rr1 : w1.cell? ⟨w.heap.size + 1, 1, none⟩ = some (.slice none 0 0) := (B10.cell 1).trans rfl; have rr2 : w1.cell? ⟨w.heap.size + 1, 2, none⟩ = some (.slice none 0 0) := (B10.cell 2).trans rfl; have pp0 : w1.cell? ⟨w.heap.size + 1 + 1, 0, none⟩ = some (.int .i64 0) := (B11.cell 0).trans rfl; have pp1 : w1.cell? ⟨w.heap.size + 1 + 1, 1, none⟩ = some (.int .i64 0) := (B11.cell 1).trans rfl; have pp2 : w1.cell? ⟨w.heap.size + 1 + 1, 2, none⟩ = some (.int .i64 0) := (B11.cell 2).trans rfl; have rf0 := B10.frozen 0; have rf1 := B10.frozen 1; have rf2 := B10.frozen 2; have pf0 := B11.frozen 0; have pf1 := B11.frozen 1; have pf2 := B11.frozen 2; have kf := B5.frozen 0; have l0 : w1.cell? ⟨y2.x.heap.size + 1, 0, none⟩ = some (.int .i64 fe) := (B18.cell 0).trans rfl; have l1 : w1.cell? ⟨y2.x.heap.size + 1, 1, none⟩ = some (.int .i64 fl) := (B18.cell 1).trans rfl; have l2 : w1.cell? ⟨y2.x.heap.size + 1, 2, none⟩ = some (.int .i64 fa) := (B18.cell 2).trans rfl))
   refine wp_region_held_drew (S := fun _ => True) (by kernel_rfl) trivial (fun hHeld => ?_)
   refine wpAnyH_ready (rs := [0, 1]) (by kernel_rfl) (by simp) ?_
   refine AllReadyH.cons (o := ⟨some 116, _, _, _, _, _⟩) rfl (fun K hK => ?_) ?_
   · go_simp
     refine hK.out _ _ ?_ (fun hHeld => ?_)
     · trivial
     clear hK K
     try simp only [Act.put, putA, putZ, putS]
     refine wpAnyH_ready (rs := [1, 2]) (by kernel_rfl) (by simp) ?_
     refine AllReadyH.cons (o := ⟨some 117, _, _, _, _, _⟩) rfl (fun K hK => ?_) ?_
     · go_simp
       refine hK.out _ _ ?_ (fun hHeld => ?_)
       · trivial
       clear hK K
       try simp only [Act.put, putA, putZ, putS]
       refine wpAnyH_ready (rs := [2]) (by kernel_rfl) (by simp) ?_
       refine AllReadyH.cons (o := ⟨none, _, _, _, _, _⟩) rfl (fun K hK => ?_) ?_
       · go_simp
         refine hK.out _ _ ?_ (fun hHeld => ?_)
         · trivial
         clear hK K
         try simp only [Act.put, putA, putZ, putS]
         refine wpAnyH_ready (rs := [3]) (by kernel_rfl) (by simp) ?_
         refine AllReadyH.cons (o := ⟨none, _, _, _, _, _⟩) rfl (fun K hK => ?_) ?_
         · go_simp
           refine hK.out _ _ ?_ (fun hHeld => ?_)
           · trivial
           clear hK K
           try simp only [Act.put, putA, putZ, putS]
           refine wpAnyH_done (by kernel_rfl) ?_ _
           go_wp2
           refine bodyPost_ret (v := .tuple #[.agg #[.slice av' (nr + 1) cap', .slice az nz cz, .slice al nl cl], faultC ⟨fe, fl, fa⟩]) ?_ rfl (line_end ((((((((hL.store (.inl rfl)).store (.inr (.inl rfl))).store (.inr (.inl rfl))).store (.inr (.inl rfl))).store (.inr (.inr rfl))).store (.inr (.inr rfl))).store (.inr (.inr rfl))).past (Ext.drew (Ext.refl _))) (by exact Hff.out) (fun S' e => by rw [Hgood.out S' e]))
           simp [results, Tryz.results27, go_sem, rr0, rr1, rr2, pp0, pp1, pp2]
         exact AllReadyH.nil
       exact AllReadyH.nil
     refine AllReadyH.cons (o := ⟨none, _, _, _, _, _⟩) rfl (fun K hK => ?_) ?_
     · go_simp
       refine hK.out _ _ ?_ (fun hHeld => ?_)
       · trivial
       clear hK K
       try simp only [Act.put, putA, putZ, putS]
       refine wpAnyH_ready (rs := [1]) (by kernel_rfl) (by simp) ?_
       refine AllReadyH.cons (o := ⟨some 117, _, _, _, _, _⟩) rfl (fun K hK => ?_) ?_
       · go_simp
         refine hK.out _ _ ?_ (fun hHeld => ?_)
         · trivial
         clear hK K
         try simp only [Act.put, putA, putZ, putS]
         refine wpAnyH_ready (rs := [3]) (by kernel_rfl) (by simp) ?_
         refine AllReadyH.cons (o := ⟨none, _, _, _, _, _⟩) rfl (fun K hK => ?_) ?_
         · go_simp
           refine hK.out _ _ ?_ (fun hHeld => ?_)
           · trivial
           clear hK K
           try simp only [Act.put, putA, putZ, putS]
           refine wpAnyH_done (by kernel_rfl) ?_ _
           go_wp2
           refine bodyPost_ret (v := .tuple #[.agg #[.slice av' (nr + 1) cap', .slice az nz cz, .slice al nl cl], faultC ⟨fe, fl, fa⟩]) ?_ rfl (line_end ((((((((hL.store (.inl rfl)).store (.inr (.inl rfl))).store (.inr (.inl rfl))).store (.inr (.inl rfl))).store (.inr (.inr rfl))).store (.inr (.inr rfl))).store (.inr (.inr rfl))).past (Ext.drew (Ext.refl _))) (by exact Hff.out) (fun S' e => by rw [Hgood.out S' e]))
           simp [results, Tryz.results27, go_sem, rr0, rr1, rr2, pp0, pp1, pp2]
         exact AllReadyH.nil
       exact AllReadyH.nil
     exact AllReadyH.nil
   refine AllReadyH.cons (o := ⟨some 117, _, _, _, _, _⟩) rfl (fun K hK => ?_) ?_
   · go_simp
     refine hK.out _ _ ?_ (fun hHeld => ?_)
     · trivial
     clear hK K
     try simp only [Act.put, putA, putZ, putS]
     refine wpAnyH_ready (rs := [0]) (by kernel_rfl) (by simp) ?_
     refine AllReadyH.cons (o := ⟨some 116, _, _, _, _, _⟩) rfl (fun K hK => ?_) ?_
     · go_simp
       refine hK.out _ _ ?_ (fun hHeld => ?_)
       · trivial
       clear hK K
       try simp only [Act.put, putA, putZ, putS]
       refine wpAnyH_ready (rs := [2]) (by kernel_rfl) (by simp) ?_
       refine AllReadyH.cons (o := ⟨none, _, _, _, _, _⟩) rfl (fun K hK => ?_) ?_
       · go_simp
         refine hK.out _ _ ?_ (fun hHeld => ?_)
         · trivial
         clear hK K
         try simp only [Act.put, putA, putZ, putS]
         refine wpAnyH_ready (rs := [3]) (by kernel_rfl) (by simp) ?_
         refine AllReadyH.cons (o := ⟨none, _, _, _, _, _⟩) rfl (fun K hK => ?_) ?_
         · go_simp
           refine hK.out _ _ ?_ (fun hHeld => ?_)
           · trivial
           clear hK K
           try simp only [Act.put, putA, putZ, putS]
           refine wpAnyH_done (by kernel_rfl) ?_ _
           go_wp2
           refine bodyPost_ret (v := .tuple #[.agg #[.slice av' (nr + 1) cap', .slice az nz cz, .slice al nl cl], faultC ⟨fe, fl, fa⟩]) ?_ rfl (line_end ((((((((hL.store (.inl rfl)).store (.inr (.inl rfl))).store (.inr (.inl rfl))).store (.inr (.inl rfl))).store (.inr (.inr rfl))).store (.inr (.inr rfl))).store (.inr (.inr rfl))).past (Ext.drew (Ext.refl _))) (by exact Hff.out) (fun S' e => by rw [Hgood.out S' e]))
           simp [results, Tryz.results27, go_sem, rr0, rr1, rr2, pp0, pp1, pp2]
         exact AllReadyH.nil
       exact AllReadyH.nil
     exact AllReadyH.nil
   exact AllReadyH.nil
end Go.Proofs.YtdhbgelijjlifaaGreatDoor
