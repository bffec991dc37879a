/- Walks of sources: the document's era. -/
import Derived.Test.YtdhbgelijjlifaaGreatDoorSrcDocE0A
set_option linter.unusedVariables false
set_option linter.unusedSimpArgs false
namespace Go.Proofs.YtdhbgelijjlifaaGreatDoor
open Go.RowKit Go.Shelf
set_option maxRecDepth 100000 in
set_option maxHeartbeats 16000000 in
theorem dera0_off (ws : List Src.Wd) (line : Int) (v : Value) (w : World) (hr : Reads w v ws.length (wordCells ws)) (hlo : 3 ≤ ws.length) (hhi : ws.length ≤ 7) (hs : ∀ x ∈ ws, x.1.size ≤ 1000) (t1 : (Src.tx ws 1 == ⟨#[45]⟩) = false) (t2 : ((Src.tx ws 1).toList == [45]) = false) (hk : ¬ Src.tl ws 1 = [45]) (hop : Src.opensB (Src.tl ws 1) = false) :
 Calls Tryz.prog 54 #[v, .int .i64 0, .int .i64 line] w (EraEnd w (Src.eraP ws 0 line)) := by
 have hlw : ∀ i, (Src.tx ws i).size ≤ 1000 := fun i => tx_size hs i
 have HB := fun e line a t w => Lib.hid (dbad_any e line a t w)
 have HY : ∀ k w, Hid (Rets Tryz.prog 92 #[.string (Src.tx ws k)] w (.int .i64 (Src.yearP (Src.tl ws k)))) := fun k w => Lib.hid (dyear_any (Src.tx ws k) (by have := hlw k; omega) w)
 have HSt : ∀ w, Hid (Rets Tryz.prog 13 #[.string (Src.tx ws 1)] w (.bool (Src.setB (Src.tl ws 1)))) := fun w => Lib.hid (dset_any (Src.tx ws 1) (by have := hlw 1; unfold maxLen; omega) w)
 have HFm : ∀ w, Hid (Rets Tryz.prog 91 #[.string (Src.tx ws 2)] w (.bool (Src.fmtB (Src.tl ws 2)))) := fun w => Lib.hid (dformat_any (Src.tx ws 2) (by have := hlw 2; unfold maxLen; omega) w)
 have HOf : ∀ k most (h0 : 0 ≤ most) (h1 : most ≤ 1000000) w, Hid (Rets Tryz.prog 90 #[.string (Src.tx ws k), .int .i64 most] w (.tuple #[.int .i64 (Src.offP (Src.tl ws k) most).1, .int .i64 (Src.offP (Src.tl ws k) most).2])) := fun k most h0 h1 w => Lib.hid (doffset_any (Src.tx ws k) most h0 h1 (by have := hlw k; omega) w)
 have HO1 := HOf 0 86400 (by omega) (by omega)
 have HO2 := HOf 1 43200 (by omega) (by omega)
 have HSp : ∀ (h : 4 ≤ ws.length) w', Ext w w' → Hid (Rets Tryz.prog 93 #[v, .int .i64 4, .int .i64 line] w' (dspotV ws 4 line)) := fun h w' hx => Lib.hid (dspot_any line ws 4 h (by omega) (by omega) hs v w' (hr.ext hx))
 clear HOf
 have hres : ∃ o, Src.eraP ws 0 line = o := ⟨_, rfl⟩
 obtain ⟨OUT, hres⟩ := hres
 rw [hres]
 have Hres := Lib.hid hres
 clear hres
 obtain ⟨n, hn⟩ : ∃ n, ws.length = n := ⟨_, rfl⟩
 rw [hn] at hr
 rcases hr with ⟨_, _, e9, h9, _⟩ | ⟨bl, o, c9, e9, k1, k2, m1', hcw⟩
 · exact absurd h9 (by omega)
 subst e9
 haveI : InW bl w := ⟨m1'⟩
 obtain ⟨d0, q0⟩ := wd_at hcw 0 (by omega)
 obtain ⟨d1, q1⟩ := wd_at hcw 1 (by omega)
 obtain ⟨d2, q2⟩ := wd_at hcw 2 (by omega)
 have Hc := Lib.hid hcw
 clear hcw
 simp only [Nat.reduceMul, Nat.zero_mul, Nat.add_zero] at d0 q0 d1 q1 d2 q2
 have n1 : (1 : Int) < n := by omega
 have n2 : (2 : Int) < n := by omega
 have n0 : (0 : Int) < n := by omega
 have u1 := ne_lit t1
 have u2 := ne_litL t2
 simp only [Bool.not_true, Bool.not_false] at u1 u2
 go_enter Tryz.func54, Tryz.ntmps54
 go_wp2_with fail
 go_at_call 90
 refine Rets.use (HO1 _).out ?_
 intro y1
 clear HO1
 by_cases o0 : (Src.offP (Src.tl ws 0) 86400).2 = 0
 rotate_left
 · have g0 : ((Src.offP (Src.tl ws 0) 86400).2 != 0) = true := by simpa using o0
   go_wp2_with (go_at_call 52; refine Rets.use (HB _ _ _ _ _).out ?_; intro yE)
   refine bodyPost_ret (v := .tuple #[.agg (eraCells ⟨0, 0, 0, ⟨#[]⟩, ⟨#[]⟩, false, 0, 0, 0, 0, 0, 0, 0⟩).toArray, faultC ⟨(Src.offP (Src.tl ws 0) 86400).2, line, Src.pt ws 0⟩]) ?_ rfl (era_bad (x := ⟨0, 0, 0, ⟨#[]⟩, ⟨#[]⟩, false, 0, 0, 0, 0, 0, 0, 0⟩) (by rw [← Hres.out]; simp [Src.eraP, Src.kindP, Src.untilP, o0]))
   simp [results, Tryz.results54, go_sem, eraCells]
 have g0 : ((Src.offP (Src.tl ws 0) 86400).2 != 0) = false := by simpa using o0
 by_cases hu : n ≤ 3
 · have hu' : ws.length ≤ 3 := by omega
   have gU : decide ((3 : Int) < n) = false := decide_eq_false (by omega)
   go_upto_region 6 with fail
   go_cut [69] from 54 to 69 (fun s69 wx => s69 = .bool false ∧ ∃ z : Past (y1.x.alloc (.cells #[.int .i64 (Src.offP (Src.tl ws 0) 86400).1, .int .i64 0, .int .i64 0, .string ⟨#[]⟩, .string (Src.tx ws 2), .bool false, .int .i64 0, .int .i64 0, .int .i64 0, .int .i64 0, .int .i64 0, .int .i64 0, .int .i64 0] 56)), wx = z.x)
   case first =>
    cases hl : (Src.tx ws 1).data.toList with
    | nil =>
      have m1 : (Src.tx ws 1).toList.isEmpty = true := by rw [Lib.toList_data, hl]; rfl
      have m0 : (Src.tx ws 1).toList = [] := by rw [Lib.toList_data, hl]
      have m2 : ((Src.tx ws 1) == ⟨#[]⟩) = true := by
       rcases lit_cases (Src.tx ws 1) ⟨#[]⟩ [] (by decide +kernel) with ⟨h, _, _⟩ | ⟨_, _, h⟩
       · exact h
       · exact absurd hl h
      have m3 := ne_lit m2
      clear hl m2
      go_wp2_with fail
      go_meet
      exact ⟨rfl, done⟩
    | cons c r =>
      obtain ⟨hz, e0⟩ := at_zero hl
      have m1 : (Src.tx ws 1).toList.isEmpty = false := by rw [Lib.toList_data, hl]; rfl
      have m2 : ((Src.tx ws 1) == ⟨#[]⟩) = false := by
       rcases lit_cases (Src.tx ws 1) ⟨#[]⟩ [] (by decide +kernel) with ⟨_, _, h⟩ | ⟨h, _, _⟩
       · rw [h] at hl; cases hl
       · exact h
      have m3 := ne_lit m2
      have hz' : (0 : Int) < (Src.tx ws 1).size := by omega
      have HL := fun w => Lib.hid (dletter_any (Src.tx ws 1)[0] w)
      have ho : (Src.letB c || c == 95) = false := by have := hop; unfold Src.tl at this; rw [hl] at this; exact this
      have h95 := other_cases (Src.tx ws 1)[0] 95 95 rfl
      rw [← e0] at ho
      clear hl e0 m2
      cases hb : Src.letB (Src.tx ws 1)[0]
      · rw [hb] at HL ho
        rcases h95 with ⟨r1, r2, r3⟩ | ⟨r1, r2, r3⟩
        · rw [r3] at ho; cases ho
        · clear r3 ho hb
          go_wp2_with (go_at_call 31; refine Rets.use (HL _).out ?_; intro yL)
          go_meet
          exact ⟨rfl, done⟩
      · rw [hb] at ho; cases ho
   case rest =>
    obtain ⟨rfl, z, rfl⟩ := hcut
    go_wp2_with fail
    go_at_call 90
    refine Rets.use (HO2 _).out ?_
    intro y2
    by_cases o1 : (Src.offP (Src.tl ws 1) 43200).2 = 0
    rotate_left
    · have g1 : ((Src.offP (Src.tl ws 1) 43200).2 != 0) = true := by simpa using o1
      go_wp2_with fail
      refine wp_region_past_tail 9 (by kernel_rfl) (by kernel_rfl) ?_
      simp only [List.take_succ_cons, List.take_zero, List.drop_succ_cons, List.drop_zero]
      repeat (go_big_quiet_step ((go_at_call 52; exact Rets.quiet (HB _ _ _ _ _).out)))
      refine wpQuiet_nil ?_
      intro yE
      go_wp2
      refine bodyPost_ret (v := .tuple #[.agg (eraCells ⟨(Src.offP (Src.tl ws 0) 86400).1, 1, 0, ⟨#[]⟩, Src.tx ws 2, false, 0, 0, 0, 0, 0, 0, 0⟩).toArray, faultC ⟨(Src.offP (Src.tl ws 1) 43200).2, line, Src.pt ws 1⟩]) ?_ rfl (era_bad (x := ⟨(Src.offP (Src.tl ws 0) 86400).1, 1, 0, ⟨#[]⟩, Src.tx ws 2, false, 0, 0, 0, 0, 0, 0, 0⟩) (by rw [← Hres.out]; simp [Src.eraP, Src.kindP, Src.untilP, hk, hop, o0, o1]))
      simp [results, Tryz.results54, go_sem, eraCells]
    have g1 : ((Src.offP (Src.tl ws 1) 43200).2 != 0) = false := by simpa using o1
    go_wp2_with fail
    go_at_call 91
    cases hf : Src.fmtB (Src.tl ws 2)
    · rw [hf] at HFm
      refine Rets.use (HFm _).out ?_
      intro y3
      go_wp2_with fail
      refine wp_region_past_tail 8 (by kernel_rfl) (by kernel_rfl) ?_
      simp only [List.take_succ_cons, List.take_zero, List.drop_succ_cons, List.drop_zero]
      repeat (go_big_quiet_step ((go_at_call 52; exact Rets.quiet (HB _ _ _ _ _).out)))
      refine wpQuiet_nil ?_
      intro yE
      go_wp2
      refine bodyPost_ret (v := .tuple #[.agg (eraCells ⟨(Src.offP (Src.tl ws 0) 86400).1, 1, (Src.offP (Src.tl ws 1) 43200).1, ⟨#[]⟩, Src.tx ws 2, false, 0, 0, 0, 0, 0, 0, 0⟩).toArray, faultC ⟨6, line, Src.pt ws 2⟩]) ?_ rfl (era_bad (x := ⟨(Src.offP (Src.tl ws 0) 86400).1, 1, (Src.offP (Src.tl ws 1) 43200).1, ⟨#[]⟩, Src.tx ws 2, false, 0, 0, 0, 0, 0, 0, 0⟩) (by rw [← Hres.out]; simp [Src.eraP, Src.kindP, Src.untilP, hk, hop, o1, o0, hf]))
      simp [results, Tryz.results54, go_sem, eraCells]
    rw [hf] at HFm
    refine Rets.use (HFm _).out ?_
    intro y3
    go_wp2_with fail
    refine bodyPost_ret (v := .tuple #[.agg (eraCells ⟨(Src.offP (Src.tl ws 0) 86400).1, 1, (Src.offP (Src.tl ws 1) 43200).1, ⟨#[]⟩, Src.tx ws 2, false, 0, 0, 0, 0, 0, 0, 0⟩).toArray, faultC ⟨0, 0, 0⟩]) ?_ rfl (era_good (by rw [← Hres.out]; simp [Src.eraP, Src.kindP, Src.untilP, Src.noSpot, hk, hop, o1, o0, hf, hu']))
    simp [results, Tryz.results54, go_sem, eraCells]
 · have hu' : ¬ ws.length ≤ 3 := by omega
   have gU : (3 : Int) < n := by omega
   go_upto_region 6 with fail
   go_cut [69] from 54 to 69 (fun s69 wx => s69 = .bool false ∧ ∃ z : Past (y1.x.alloc (.cells #[.int .i64 (Src.offP (Src.tl ws 0) 86400).1, .int .i64 0, .int .i64 0, .string ⟨#[]⟩, .string (Src.tx ws 2), .bool true, .int .i64 0, .int .i64 0, .int .i64 0, .int .i64 0, .int .i64 0, .int .i64 0, .int .i64 0] 56)), wx = z.x)
   case first =>
    cases hl : (Src.tx ws 1).data.toList with
    | nil =>
      have m1 : (Src.tx ws 1).toList.isEmpty = true := by rw [Lib.toList_data, hl]; rfl
      have m0 : (Src.tx ws 1).toList = [] := by rw [Lib.toList_data, hl]
      have m2 : ((Src.tx ws 1) == ⟨#[]⟩) = true := by
       rcases lit_cases (Src.tx ws 1) ⟨#[]⟩ [] (by decide +kernel) with ⟨h, _, _⟩ | ⟨_, _, h⟩
       · exact h
       · exact absurd hl h
      have m3 := ne_lit m2
      clear hl m2
      go_wp2_with fail
      go_meet
      exact ⟨rfl, done⟩
    | cons c r =>
      obtain ⟨hz, e0⟩ := at_zero hl
      have m1 : (Src.tx ws 1).toList.isEmpty = false := by rw [Lib.toList_data, hl]; rfl
      have m2 : ((Src.tx ws 1) == ⟨#[]⟩) = false := by
       rcases lit_cases (Src.tx ws 1) ⟨#[]⟩ [] (by decide +kernel) with ⟨_, _, h⟩ | ⟨h, _, _⟩
       · rw [h] at hl; cases hl
       · exact h
      have m3 := ne_lit m2
      have hz' : (0 : Int) < (Src.tx ws 1).size := by omega
      have HL := fun w => Lib.hid (dletter_any (Src.tx ws 1)[0] w)
      have ho : (Src.letB c || c == 95) = false := by have := hop; unfold Src.tl at this; rw [hl] at this; exact this
      have h95 := other_cases (Src.tx ws 1)[0] 95 95 rfl
      rw [← e0] at ho
      clear hl e0 m2
      cases hb : Src.letB (Src.tx ws 1)[0]
      · rw [hb] at HL ho
        rcases h95 with ⟨r1, r2, r3⟩ | ⟨r1, r2, r3⟩
        · rw [r3] at ho; cases ho
        · clear r3 ho hb
          go_wp2_with (go_at_call 31; refine Rets.use (HL _).out ?_; intro yL)
          go_meet
          exact ⟨rfl, done⟩
      · rw [hb] at ho; cases ho
   case rest =>
    obtain ⟨rfl, z, rfl⟩ := hcut
    go_wp2_with fail
    go_at_call 90
    refine Rets.use (HO2 _).out ?_
    intro y2
    by_cases o1 : (Src.offP (Src.tl ws 1) 43200).2 = 0
    rotate_left
    · have g1 : ((Src.offP (Src.tl ws 1) 43200).2 != 0) = true := by simpa using o1
      go_wp2_with fail
      refine wp_region_past_tail 9 (by kernel_rfl) (by kernel_rfl) ?_
      simp only [List.take_succ_cons, List.take_zero, List.drop_succ_cons, List.drop_zero]
      repeat (go_big_quiet_step ((go_at_call 52; exact Rets.quiet (HB _ _ _ _ _).out)))
      refine wpQuiet_nil ?_
      intro yE
      go_wp2
      refine bodyPost_ret (v := .tuple #[.agg (eraCells ⟨(Src.offP (Src.tl ws 0) 86400).1, 1, 0, ⟨#[]⟩, Src.tx ws 2, true, 0, 0, 0, 0, 0, 0, 0⟩).toArray, faultC ⟨(Src.offP (Src.tl ws 1) 43200).2, line, Src.pt ws 1⟩]) ?_ rfl (era_bad (x := ⟨(Src.offP (Src.tl ws 0) 86400).1, 1, 0, ⟨#[]⟩, Src.tx ws 2, true, 0, 0, 0, 0, 0, 0, 0⟩) (by rw [← Hres.out]; simp [Src.eraP, Src.kindP, Src.untilP, hk, hop, o0, o1]))
      simp [results, Tryz.results54, go_sem, eraCells]
    have g1 : ((Src.offP (Src.tl ws 1) 43200).2 != 0) = false := by simpa using o1
    go_wp2_with fail
    go_at_call 91
    cases hf : Src.fmtB (Src.tl ws 2)
    · rw [hf] at HFm
      refine Rets.use (HFm _).out ?_
      intro y3
      go_wp2_with fail
      refine wp_region_past_tail 8 (by kernel_rfl) (by kernel_rfl) ?_
      simp only [List.take_succ_cons, List.take_zero, List.drop_succ_cons, List.drop_zero]
      repeat (go_big_quiet_step ((go_at_call 52; exact Rets.quiet (HB _ _ _ _ _).out)))
      refine wpQuiet_nil ?_
      intro yE
      go_wp2
      refine bodyPost_ret (v := .tuple #[.agg (eraCells ⟨(Src.offP (Src.tl ws 0) 86400).1, 1, (Src.offP (Src.tl ws 1) 43200).1, ⟨#[]⟩, Src.tx ws 2, true, 0, 0, 0, 0, 0, 0, 0⟩).toArray, faultC ⟨6, line, Src.pt ws 2⟩]) ?_ rfl (era_bad (x := ⟨(Src.offP (Src.tl ws 0) 86400).1, 1, (Src.offP (Src.tl ws 1) 43200).1, ⟨#[]⟩, Src.tx ws 2, true, 0, 0, 0, 0, 0, 0, 0⟩) (by rw [← Hres.out]; simp [Src.eraP, Src.kindP, Src.untilP, hk, hop, o1, o0, hf]))
      simp [results, Tryz.results54, go_sem, eraCells]
    rw [hf] at HFm
    refine Rets.use (HFm _).out ?_
    intro y3
    obtain ⟨d3, q3⟩ := wd_at Hc.out 3 (by omega)
    simp only [Nat.reduceMul] at d3 q3
    go_wp2_with fail
    go_at_call 92
    refine Rets.use (HY _ _).out ?_
    intro y4
    by_cases u3 : Src.yearP (Src.tl ws 3) = 0
    · have g3 : (Src.yearP (Src.tl ws 3) == 0) = true := by simpa using u3
      have U3 := Lib.hid u3
      clear u3
      go_wp2_with fail
      refine wp_region_past_tail 8 (by kernel_rfl) (by kernel_rfl) ?_
      simp only [List.take_succ_cons, List.take_zero, List.drop_succ_cons, List.drop_zero]
      repeat (go_big_quiet_step ((go_at_call 52; exact Rets.quiet (HB _ _ _ _ _).out)))
      refine wpQuiet_nil ?_
      intro yE
      go_wp2
      refine bodyPost_ret (v := .tuple #[.agg (eraCells ⟨(Src.offP (Src.tl ws 0) 86400).1, 1, (Src.offP (Src.tl ws 1) 43200).1, ⟨#[]⟩, Src.tx ws 2, true, (Src.yearP (Src.tl ws 3)), 0, 0, 0, 0, 0, 0⟩).toArray, faultC ⟨6, line, Src.pt ws 3⟩]) ?_ rfl (era_bad (x := ⟨(Src.offP (Src.tl ws 0) 86400).1, 1, (Src.offP (Src.tl ws 1) 43200).1, ⟨#[]⟩, Src.tx ws 2, true, (Src.yearP (Src.tl ws 3)), 0, 0, 0, 0, 0, 0⟩) (by rw [← Hres.out]; simp [Src.eraP, Src.kindP, Src.untilP, hk, hop, o1, o0, hf, hu', U3.out]))
      simp [results, Tryz.results54, go_sem, eraCells]
    have g3 : (Src.yearP (Src.tl ws 3) == 0) = false := by simpa using u3
    go_wp2_with fail
    go_at_call 93
    have HS := HSp (by omega)
    clear HSp
    unfold dspotV at HS
    cases hsp : Src.spotP ws 4 with
    | inl q =>
      obtain ⟨k, e⟩ := q
      obtain ⟨j, rfl, hj, rfl⟩ := Src.spot_inl hsp
      rw [hsp] at HS
      simp only [Int.toNat_natCast] at HS
      refine Rets.use (HS _ isext).out ?_
      intro y5
      go_wp2_with fail
      refine wp_region_held_drew (S := fun w' => w'.cell? ⟨y1.x.heap.size, 0, none⟩ = some (.int .i64 (Src.offP (Src.tl ws 0) 86400).1) ∧ w'.cell? ⟨y1.x.heap.size, 1, none⟩ = some (.int .i64 1) ∧ w'.cell? ⟨y1.x.heap.size, 2, none⟩ = some (.int .i64 (Src.offP (Src.tl ws 1) 43200).1) ∧ w'.cell? ⟨y1.x.heap.size, 3, none⟩ = some (.string (⟨#[]⟩)) ∧ w'.cell? ⟨y1.x.heap.size, 4, none⟩ = some (.string (Src.tx ws 2)) ∧ w'.cell? ⟨y1.x.heap.size, 5, none⟩ = some (.bool true) ∧ w'.cell? ⟨y1.x.heap.size, 6, none⟩ = some (.int .i64 (Src.yearP (Src.tl ws 3))) ∧ w'.cell? ⟨y1.x.heap.size, 7, none⟩ = some (.int .i64 0) ∧ w'.cell? ⟨y1.x.heap.size, 8, none⟩ = some (.int .i64 0) ∧ w'.cell? ⟨y1.x.heap.size, 9, none⟩ = some (.int .i64 0) ∧ w'.cell? ⟨y1.x.heap.size, 10, none⟩ = some (.int .i64 0) ∧ w'.cell? ⟨y1.x.heap.size, 11, none⟩ = some (.int .i64 0) ∧ w'.cell? ⟨y1.x.heap.size, 12, none⟩ = some (.int .i64 0) ∧ w'.cell? ⟨y5.x.heap.size + 1, 0, none⟩ = some (.int .i64 6) ∧ w'.cell? ⟨y5.x.heap.size + 1, 1, none⟩ = some (.int .i64 line) ∧ w'.cell? ⟨y5.x.heap.size + 1, 2, none⟩ = some (.int .i64 (Src.pt ws (4 + j)))) (by kernel_rfl) (by (try dsimp only); ((repeat' apply And.intro) <;> (go_simp; try (rw [cell_alloc_eq _ _ (by simp [Past.set])]; rfl)))) (fun hHeld => ?_)
      refine wpAnyH_take (i := 0) (oi := ⟨some 149, _, _, _, _, _⟩) (v := ?_) rfl (by kernel_rfl) (by kernel_rfl) (by kernel_rfl) (fun _ _ _ h => h) (Or.inl ⟨by rfl, ?_⟩) (by assumption) ?_
      rotate_left
      · intro w hSw; (try dsimp only at hSw); go_simp; first | done | with_reducible rfl | rw [if_pos (by omega)] | rw [if_neg (by omega)]
      try simp only [Act.put, putA, putZ, putS]
      refine wpAnyH_take (i := 1) (oi := ⟨some 150, _, _, _, _, _⟩) (v := ?_) rfl (by kernel_rfl) (by kernel_rfl) (by kernel_rfl) (fun _ _ _ h => h) (Or.inl ⟨by rfl, ?_⟩) (by assumption) ?_
      rotate_left
      · intro w hSw; (try dsimp only at hSw); go_simp; first | done | with_reducible rfl | rw [if_pos (by omega)] | rw [if_neg (by omega)]
      try simp only [Act.put, putA, putZ, putS]
      refine wpAnyH_ready (rs := [2]) (by kernel_rfl) (by simp) ?_
      refine AllReadyH.cons (o := ⟨none, _, _, _, _, _⟩) rfl (fun K hK => ?_) ?_
      · go_simp
        refine hK.out _ _ ?_ (fun hHeld => ?_)
        · (try dsimp only); ((repeat' apply And.intro) <;> (go_simp; try (rw [cell_alloc_eq _ _ (by simp [Past.set])]; rfl)))
        clear hK K
        try simp only [Act.put, putA, putZ, putS]
        refine wpAnyH_ready (rs := [3]) (by kernel_rfl) (by simp) ?_
        refine AllReadyH.cons (o := ⟨none, _, _, _, _, _⟩) rfl (fun K hK => ?_) ?_
        · go_simp
          refine hK.out _ _ ?_ (fun hHeld => ?_)
          · (try dsimp only); ((repeat' apply And.intro) <;> (go_simp; try (rw [cell_alloc_eq _ _ (by simp [Past.set])]; rfl)))
          clear hK K
          try simp only [Act.put, putA, putZ, putS]
          refine wpAnyH_done (by kernel_rfl) ?_ _
          go_wp2
          refine bodyPost_ret (v := .tuple #[.agg (eraCells ⟨(Src.offP (Src.tl ws 0) 86400).1, 1, (Src.offP (Src.tl ws 1) 43200).1, ⟨#[]⟩, Src.tx ws 2, true, (Src.yearP (Src.tl ws 3)), 0, 0, 0, 0, 0, 0⟩).toArray, faultC ⟨6, line, Src.pt ws (4 + j)⟩]) ?_ rfl (era_bad (x := ⟨(Src.offP (Src.tl ws 0) 86400).1, 1, (Src.offP (Src.tl ws 1) 43200).1, ⟨#[]⟩, Src.tx ws 2, true, (Src.yearP (Src.tl ws 3)), 0, 0, 0, 0, 0, 0⟩) (by rw [← Hres.out]; simp [Src.eraP, Src.kindP, Src.untilP, hk, hop, o1, o0, hf, hu', u3, hsp]))
          simp [results, Tryz.results54, go_sem, eraCells]
        exact AllReadyH.nil
      exact AllReadyH.nil
    | inr x =>
      obtain ⟨xm, xk, xwd, xd, xt, xr⟩ := x
      rw [hsp] at HS
      simp only [Spot.cells] at HS
      refine Rets.use (HS _ isext).out ?_
      intro y5
      go_wp2_with fail
      refine bodyPost_ret (v := .tuple #[.agg (eraCells ⟨(Src.offP (Src.tl ws 0) 86400).1, 1, (Src.offP (Src.tl ws 1) 43200).1, ⟨#[]⟩, Src.tx ws 2, true, (Src.yearP (Src.tl ws 3)), xm, xk, xwd, xd, xt, xr⟩).toArray, faultC ⟨0, 0, 0⟩]) ?_ rfl (era_good (by rw [← Hres.out]; simp [Src.eraP, Src.kindP, Src.untilP, hk, hop, o1, o0, hf, hu', u3, hsp]))
      simp [results, Tryz.results54, go_sem, eraCells]
end Go.Proofs.YtdhbgelijjlifaaGreatDoor
