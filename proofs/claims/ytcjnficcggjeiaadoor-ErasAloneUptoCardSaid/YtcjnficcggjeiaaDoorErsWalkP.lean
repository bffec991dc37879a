/- Walks of eras: how clocks stand. -/
import Derived.Test.YtcjnficcggjeiaaDoorErsWalkK
import Derived.Test.YtcjnficcggjeiaaDoorErsWalkE
set_option linter.unusedVariables false
set_option linter.unusedSimpArgs false
namespace Go.Proofs.YtcjnficcggjeiaaDoor
open Go.RowKit Go.Shelf

/-- How clocks stand at a place that is meant. -/
def atO (s : Source) (zone t : Int) : Option Phase := match pickZ s zone with
  | none => none
  | some z => (Ers.atD s.rules t z.es).map (fun x => Ers.phaseD s.rules x t)
set_option maxRecDepth 100000 in
set_option maxHeartbeats 16000000 in
theorem eAt_any (s : Source) (hf : fits s) (v : Value) (w : World) (hM : MaxL w) (hr : ReadsS w v s) (zone t : Int) (a1 : -9223372036854775808 ≤ t) (a2 : t ≤ 9223372036854775807) :
    Rets Tryd.prog 10 #[v, .int .i64 zone, .int .i64 t] w (phO (atO s zone t)) := by
  have HRt := fun w h1 h2 => Lib.hid (sright_any s hf v w h1 h2)
  have HO := fun (h9 : s.rules.length ≤ 1000) (x : Era) w h => Lib.hid (eof_any s x v w h h9)
  have hr0 := Lib.hid hr
  have hr00 := hr
  obtain ⟨vr, vz, vl, rfl, hr1, hr2, hr3⟩ := hr
  obtain ⟨zp, hzp, hz2, hz3⟩ := hr2
  obtain ⟨nz, hnz⟩ : ∃ n, s.zones.length = n := ⟨_, rfl⟩
  rw [hnz] at hz2
  obtain ⟨ar, cr, rfl⟩ := shape_of hr1
  obtain ⟨az, cz, rfl⟩ := shape_of hz2
  obtain ⟨al, cl, rfl⟩ := shape_of hr3
  have b2 := len_of hz2
  have hcs := pickZ_cases s zone nz hnz
  have hZ := fun z (h : pickZ s zone = some z) => zone_of h
  have hR := src_rules (s := s)
  have hpe : atO s zone t = match pickZ s zone with | none => none | some z => (Ers.atD s.rules t z.es).map (fun x => Ers.phaseD s.rules x t) := rfl
  generalize atO s zone t = AO at *
  generalize pickZ s zone = PZ at *
  have Hz2 := Lib.hid hz2
  have Hz3 := Lib.hid hz3
  rcases hcs with ⟨h1, rfl⟩ | ⟨h1, h2, rfl⟩ | ⟨h1, h2, h3, rfl⟩ | ⟨h1, k, hk, rfl, h2, h3, rfl⟩
  case inr.inr.inr =>
    rw [h1] at HRt
    obtain ⟨hAll, hLet, h9⟩ := hR h1
    have HOx := HO h9 
    obtain ⟨-, hzm, hEB, hNE⟩ := hZ _ rfl
    have HEn := fun (x : Era) hx sv w hs => Lib.hid (eend_any s.rules hAll x hx sv w hs)
    have HPh := fun (x : Era) hx sv w hm hs => Lib.hid (ephase_any hAll hLet x hx sv t a1 a2 w hm hs)
    have hjp : k < zp.length := by have := congrArg List.length hzp; rw [List.length_map] at this; omega
    have hz1 : zp[k].1 = s.zones[k] := by
      have : (zp.map (·.1))[k]'(by rw [List.length_map]; exact hjp) = s.zones[k] := by simp only [hzp]
      rwa [List.getElem_map] at this
    have hknz : k < nz := by omega
    have h3n : decide (nz ≤ k) = false := decide_eq_false (by omega)
    rcases Hz2.out with ⟨_, _, e9, h9', _⟩ | ⟨b, o, c9, e9, k1, k2, m1, hc⟩
    · exact absurd h9' (by omega)
    injection e9 with e9 e8 e7
    subst e9
    clear e8 e7
    haveI : InW b w := ⟨m1⟩
    obtain ⟨c0, c1⟩ := zone_at hc k hjp
    clear hc
    have hre := Hz3.out zp[k] (List.getElem_mem hjp)
    rw [hz1] at c0 hre
    simp only at hpe
    generalize zp[k].2 = V at *
    generalize s.zones[k] = z at *
    clear hz1 hzp hk HO hZ hR hzm hz2 hz3 Hz2 Hz3 hr00
    obtain ⟨nm, es⟩ := z
    simp only at c0 hre hpe hEB hNE
    obtain ⟨ne, hne⟩ : ∃ n, es.length = n := ⟨_, rfl⟩
    rw [hne] at hre
    obtain ⟨ae, ce, rfl⟩ := shape_of hre
    have b4 := len_of hre
    have hne0 : ne ≠ 0 := by rw [← hne]; exact fun e => hNE (List.eq_nil_of_length_eq_zero e)
    rcases hre with ⟨_, _, e9, h9', _⟩ | ⟨be, oe, c9, e9, k3, k4, m2, hc⟩
    · exact absurd h9' hne0
    injection e9 with e9 e8 e7
    subst e9
    clear e8 e7
    haveI : InW be w := ⟨m2⟩
    have HC := Lib.hid hc
    have Hne := Lib.hid hne
    have Hpe := Lib.hid hpe
    have hsome : Hid (∃ x, Ers.atD s.rules t es = some x) := by
      obtain ⟨x, -, e⟩ := Ers.at_some (l := s.rules) (t := t) hNE hEB
      exact ⟨x, e⟩
    have HEB := Lib.hid hEB
    have HDr := fun j h => Lib.hid (Ers.at_drop s.rules t es j h)
    clear hc hne hpe hNE hEB hne0 hnz hr1 hr3
    generalize s.rules.length = nr at *
    generalize s.links.length = nl at *
    generalize s.rules = rl at *
    unfold Rets
    go_enter Tryd.func10, Tryd.ntmps10
    go_wp2_with (go_at_call 22; refine Rets.use (HRt _ (hM.ext isext) (hr0.out.ext isext)).out ?_; intro y1)
    go_loopw [35] (fun iv wr => ∃ j : Nat, j ≤ ne ∧ iv = .int .i64 j ∧ Hid (Ers.atD rl t es = Ers.atD rl t (es.drop j)) ∧ Ext y1.x wr) (fun iv _ => ne - (intOf iv).toNat)
    case atStart => exact ⟨0, by omega, rfl, rfl, isext⟩
    case round =>
      obtain ⟨j, j1, rfl, Ha, hx⟩ := hrel
      obtain ⟨y2, rfl⟩ := fin hx
      clear hx
      by_cases hlt : j < ne
      · have hj : j < es.length := by rw [Hne.out]; exact hlt
        obtain ⟨d0, d1, d2, d3, d4, d5, d6, d7, d8, d9, d10, d11, d12⟩ := era_at HC.out j hj
        have hdr := HDr j hj
        have hEx := Ers.era_all HEB.out es[j] (List.getElem_mem hj)
        have HOj := HOx es[j]
        have HEj := HEn es[j] hEx
        have HPj := HPh es[j] hEx
        have hev : (es[j].til = false ∧ Hid (endV rl es[j] = .tuple #[.int .i64 0, .bool false])) ∨ (es[j].til = true ∧ Hid (endV rl es[j] = .tuple #[.int .i64 (Ers.endD rl es[j]), .bool true])) := by
          unfold endV
          cases es[j].til
          · exact .inl ⟨rfl, by show _ = _; rw [if_neg (by simp)]⟩
          · exact .inr ⟨rfl, by show _ = _; rw [if_pos rfl]⟩
        generalize endV rl es[j] = EV at *
        have hph : Hid (Ers.atD rl t es = some es[j] → AO = some (Ers.phaseD rl es[j] t)) := fun h => by rw [Hpe.out, h]; rfl
        generalize Ers.phaseD rl es[j] t = ph at *
        generalize Ers.endD rl es[j] = N at *
        generalize hxj : es[j] = x at *
        clear hxj hEx
        obtain ⟨off, kd, sa, rs, fm, til, y, m, kk, wd, d, t', r⟩ := x
        simp only at d0 d1 d2 d3 d4 d5 d6 d7 d8 d9 d10 d11 d12 hev hdr
        obtain ⟨po, ps, pa⟩ := ph
        go_wp2_with fail
        go_at_call 23
        refine (HOj _ (hr0.out.ext isext)).out.mono ?_
        rintro e w' ⟨sv, y3, rfl, hv, -, rfl⟩
        obtain ⟨⟨a1', n1, c1', rfl⟩, -⟩ := id hv
        have Hv := Lib.hid hv
        clear hv
        rcases hev with ⟨rfl, E⟩ | ⟨rfl, E⟩
        · obtain rfl := E.out
          have hat : Ers.atD rl t es = some ⟨off, kd, sa, rs, fm, false, y, m, kk, wd, d, t', r⟩ := by rw [Ha.out, hdr.out, if_pos (.inl rfl)]
          have E2 : Hid (AO = some ⟨po, ps, pa⟩) := hph.out hat
          clear hat hdr Ha hph E
          go_wp2_with (first | (go_at_call 24; refine Rets.use (HEj _ _ (Hv.out.ext isext)).out ?_; intro _) | (go_at_call 25; refine Rets.use (HPj _ _ (hM.ext isext) (Hv.out.ext isext)).out ?_; intro _))
          refine bodyPost_ret (v := .tuple #[phV ⟨po, ps, pa⟩, .bool true]) ?_ rfl ⟨by rw [E2.out]; rfl, done⟩
          simp [results, Tryd.f10, go_sem]
        · obtain rfl := E.out
          by_cases hlN : t < N
          · have hat : Ers.atD rl t es = some ⟨off, kd, sa, rs, fm, true, y, m, kk, wd, d, t', r⟩ := by
              rw [Ha.out, hdr.out]; exact if_pos (.inr hlN)
            have E2 : Hid (AO = some ⟨po, ps, pa⟩) := hph.out hat
            clear hat hdr Ha hph E
            go_wp2_with (first | (go_at_call 24; refine Rets.use (HEj _ _ (Hv.out.ext isext)).out ?_; intro _) | (go_at_call 25; refine Rets.use (HPj _ _ (hM.ext isext) (Hv.out.ext isext)).out ?_; intro _))
            refine bodyPost_ret (v := .tuple #[phV ⟨po, ps, pa⟩, .bool true]) ?_ rfl ⟨by rw [E2.out]; rfl, done⟩
            simp [results, Tryd.f10, go_sem]
          · have hat : Hid (Ers.atD rl t es = Ers.atD rl t (es.drop (j + 1))) := by
              show _ = _
              rw [Ha.out, hdr.out]; exact if_neg (by simp; omega)
            have g0 : decide (t < N) = false := decide_eq_false hlN
            clear hdr Ha hph E hlN
            go_wp2_with (go_at_call 24; refine Rets.use (HEj _ _ (Hv.out.ext isext)).out ?_; intro _)
            go_roundw
            case rel => exact ⟨j + 1, by omega, by go_num, hat, isext⟩
            case measure => simp [intOf]; omega
      · exfalso
        obtain ⟨x, hx⟩ := hsome.out
        rw [Ha.out, List.drop_eq_nil_of_le (by rw [Hne.out]; omega)] at hx
        cases hx
  all_goals
    have E2 : Hid (phO AO = .tuple #[phV noPhase, .bool false]) := by show _ = _; rw [hpe]; rfl
    rw [E2.out]
    clear hpe HO hzp E2 hZ hR hr00
    rw [h1] at HRt
    unfold Rets
    go_enter Tryd.func10, Tryd.ntmps10
    go_wp2_with (go_at_call 22; refine Rets.use (HRt _ (hM.ext isext) (hr0.out.ext isext)).out ?_; intro _)
    refine bodyPost_ret (v := .tuple #[phV noPhase, .bool false]) ?_ rfl ⟨rfl, done⟩
    simp [results, Tryd.f10, go_sem, noPhase]
end Go.Proofs.YtcjnficcggjeiaaDoor
set_option linter.unusedVariables false
set_option linter.unusedSimpArgs false
namespace Go.Proofs.YtcjnficcggjeiaaDoor
open Go.RowKit Go.Shelf

def smallR : List Rule := [⟨⟨#[69]⟩, 1990, 1000000, 3, 1, 7, 0, 3600, 2, 3600, ⟨#[83]⟩⟩, ⟨⟨#[69]⟩, 1990, 1000000, 10, 1, 7, 0, 3600, 2, 0, ⟨#[]⟩⟩]
def smallE : List Era := [⟨1234, 0, 0, ⟨#[]⟩, ⟨#[76, 77, 84]⟩, true, 1995, 1, 0, 0, 1, 0, 0⟩, ⟨3600, 2, 0, ⟨#[69]⟩, ⟨#[67, 37, 115, 84]⟩, false, 0, 0, 0, 0, 0, 0, 0⟩]
def smallZ : Zone := ⟨⟨#[65]⟩, smallE⟩
def smallS : Source := ⟨smallR, [smallZ], []⟩
theorem small_fits : fits smallS := by
  refine ⟨?_, ?_, ?_⟩
  · intro x hx
    simp [smallS, smallR] at hx
    rcases hx with rfl | rfl <;> exact ⟨by decide, by decide⟩
  · intro z hz
    simp [smallS] at hz
    subst hz
    refine ⟨by decide, fun x hx => ?_⟩
    simp [smallZ, smallE] at hx
    rcases hx with rfl | rfl <;> exact ⟨by decide, by decide⟩
  · intro x hx; cases hx
theorem row_newG (w : World) (cs : List Value) (t : TypeId) (n : Nat) (h : n ≤ 100) : Reads (w.alloc (.cells cs.toArray t)) (.slice (some ⟨w.heap.size, 0, none⟩) n n) n cs := by
  refine .inr ⟨_, 0, n, rfl, Nat.le_refl _, by unfold maxLen; omega, by simp, fun i u hu => ?_⟩
  have := new_cells w cs t i u hu
  rw [show (⟨w.heap.size, 0, none⟩ : Addr).add i = ⟨w.heap.size, 0 + i, none⟩ by unfold Addr.add; split <;> simp_all] at this
  exact this
def smallV (n : Nat) : Value := .agg #[.slice (some ⟨n + 1, 0, none⟩) 2 2, .slice (some ⟨n + 1 + 1 + 1, 0, none⟩) 1 1, .slice none 0 0]
def smallW (w : World) (o : Obj) : World := (((w.alloc o).alloc (.cells (ruleRow smallR).toArray 43)).alloc (.cells (eraRow smallE).toArray 41)).alloc (.cells (zoneRow [(smallZ, .slice (some ⟨w.heap.size + 1 + 1, 0, none⟩) 2 2)]).toArray 37)
theorem small_reads (w : World) (o : Obj) : ReadsS (smallW w o) (smallV w.heap.size) smallS := by
  refine ⟨_, _, _, rfl, ?_, ?_, Reads.nil _⟩
  · have := row_newG (w.alloc o) (ruleRow smallR) 43 2 (by omega)
    simp only [World.size_alloc] at this
    exact (this.ext ((Ext.refl _).alloc _)).ext ((Ext.refl _).alloc _)
  · refine ⟨[(smallZ, .slice (some ⟨w.heap.size + 1 + 1, 0, none⟩) 2 2)], rfl, ?_, ?_⟩
    · have := row_newG (((w.alloc o).alloc (.cells (ruleRow smallR).toArray 43)).alloc (.cells (eraRow smallE).toArray 41)) (zoneRow [(smallZ, .slice (some ⟨w.heap.size + 1 + 1, 0, none⟩) 2 2)]) 37 1 (by omega)
      simp only [World.size_alloc] at this
      exact this
    · intro p hp
      simp at hp
      subst hp
      have := row_newG ((w.alloc o).alloc (.cells (ruleRow smallR).toArray 43)) (eraRow smallE) 41 2 (by omega)
      simp only [World.size_alloc] at this
      exact this.ext ((Ext.refl _).alloc _)
def SmallEnd (w : World) (e : Ending) (w' : World) : Prop := ∃ (v : Value) (y : Past w), e = .returned v ∧ ReadsS y.x v smallS ∧ w' = y.x
set_option maxRecDepth 100000 in
set_option maxHeartbeats 4000000 in
theorem small_any (w : World) : Calls Tryd.prog 14 #[] w (SmallEnd w) := by
  have K : ∀ o, Hid (SmallEnd w (.returned (smallV w.heap.size)) (smallW w o)) := fun o => ⟨_, ⟨_, ((((Ext.refl w).alloc _).alloc _).alloc _).alloc _⟩, rfl, small_reads w o, rfl⟩
  go_enter Tryd.func14, Tryd.ntmps14
  go_wp2
  refine bodyPost_ret (v := smallV w.heap.size) ?_ rfl (K _).out
  simp [results, Tryd.f14, go_sem, smallV]
theorem small_at1 : (atO smallS 0 1625097600).map (fun p => (p.off, p.s, p.ab.data.toList)) = some (7200, 3600, [67, 83, 84]) := by decide +kernel
theorem small_at2 : (atO smallS 0 0).map (fun p => (p.off, p.s, p.ab.data.toList)) = some (1234, 0, [76, 77, 84]) := by decide +kernel
theorem small_end : (pickE smallS 0 0).map (fun x => (x.til, Ers.endD smallS.rules x)) = some (true, 788917166) := by decide +kernel
theorem small_set : (Ers.setOf smallS.rules ⟨#[69]⟩).length = 2 := by decide +kernel
end Go.Proofs.YtcjnficcggjeiaaDoor
set_option linter.unusedVariables false
set_option linter.unusedSimpArgs false
namespace Go.Proofs.YtcjnficcggjeiaaDoor
open Go.RowKit Go.Shelf

theorem bytes_of {s : ByteArray} {l : List UInt8} (h : s.data.toList = l) : s = ⟨l.toArray⟩ := by
  subst h; cases s; simp
theorem at_lit {s : Source} {zone t a b : Int} {l : List UInt8} (h : (atO s zone t).map (fun p => (p.off, p.s, p.ab.data.toList)) = some (a, b, l)) : phO (atO s zone t) = .tuple #[.agg #[.int .i64 a, .int .i64 b, .string ⟨l.toArray⟩], .bool true] := by
  cases hp : atO s zone t with
  | none => rw [hp] at h; cases h
  | some p =>
    rw [hp] at h
    simp only [Option.map_some, Option.some.injEq, Prod.mk.injEq] at h
    obtain ⟨h1, h2, h3⟩ := h
    show Value.tuple #[phV p, .bool true] = _
    rw [← h1, ← h2, ← bytes_of h3]
theorem end_lit {s : Source} {zone e a : Int} (h : (pickE s zone e).map (fun x => (x.til, Ers.endD s.rules x)) = some (true, a)) : endO s.rules (pickE s zone e) = .tuple #[.int .i64 a, .bool true] := by
  cases hp : pickE s zone e with
  | none => rw [hp] at h; cases h
  | some x =>
    rw [hp] at h
    simp only [Option.map_some, Option.some.injEq, Prod.mk.injEq] at h
    obtain ⟨h1, h2⟩ := h
    show endV s.rules x = _
    unfold endV
    rw [if_pos h1, h2]
theorem two_3 : Ers.twoL 3 = [48, 51] := rfl
theorem two_30 : Ers.twoL 30 = [51, 48] := by
  unfold Ers.twoL
  rw [if_neg (by omega), Mom.dec_big (by omega), Mom.dec_small (by omega)]; rfl
theorem told_lit : Ers.toldL (-12600) = [45, 48, 51, 51, 48] := by
  have e1 : (-12600 : Int).natAbs / 3600 = 3 := rfl
  have e2 : (-12600 : Int).natAbs / 60 % 60 = 30 := rfl
  have e3 : (-12600 : Int).natAbs % 60 = 0 := rfl
  have e4 : ¬ (-12600 : Int).natAbs % 3600 = 0 := by decide
  unfold Ers.toldL
  rw [if_pos (by omega), e1, e2, if_neg e4, if_pos e3, two_3, two_30]; rfl
theorem abbr_lit : Ers.abbrB ⟨#[37, 122]⟩ ⟨#[]⟩ (-12600) 0 = ⟨#[45, 48, 51, 51, 48]⟩ := by
  have h1 : Ers.at2 [37, 122] 115 < 0 := by decide
  have h2 : Ers.at2 [37, 122] 122 = ((0 : Nat) : Int) := by decide
  have : Ers.abbrL [37, 122] [] (-12600) 0 = [45, 48, 51, 51, 48] := by
    rw [Ers.abbr_z h1 h2, told_lit]; rfl
  show (⟨(Ers.abbrL [37, 122] [] (-12600) 0).toArray⟩ : ByteArray) = _
  rw [this]
set_option maxRecDepth 100000 in
set_option maxHeartbeats 8000000 in
theorem ealive_any (w : World) (hM : MaxL w) : Rets Tryd.prog 6 #[] w (.bool true) := by
  have H1 := fun v w hm hr => Lib.hid (eAt_any smallS small_fits v w hm hr 0 1625097600 (by omega) (by omega))
  have H2 := fun v w hm hr => Lib.hid (eAt_any smallS small_fits v w hm hr 0 0 (by omega) (by omega))
  have H3 := fun v w hm hr => Lib.hid (eEnd_any smallS small_fits v w hm hr (by decide) 0 0)
  have H4 := fun w hm => Lib.hid (abbr_any ⟨#[37, 122]⟩ ⟨#[]⟩ (-12600) 0 (by decide) (by decide) (by omega) (by omega) w hm)
  have H5 := fun v w hr => Lib.hid (eset_any smallS ⟨#[69]⟩ v w hr (by decide))
  have h5 := Lib.hid small_set
  rw [at_lit small_at1] at H1
  rw [at_lit small_at2] at H2
  rw [end_lit small_end] at H3
  rw [abbr_lit] at H4
  unfold Rets
  go_enter Tryd.func6, Tryd.ntmps6
  go_wp2_with fail
  go_at_call 14
  refine (small_any _).mono ?_
  rintro _ _ ⟨v1, y1, rfl, hv1, rfl⟩
  have HV1 := Lib.hid hv1
  clear hv1
  go_wp2_with fail
  go_at_call 10
  refine Rets.use (H1 _ _ (hM.ext isext) (HV1.out.ext isext)).out ?_
  intro y2
  go_wp2_with fail
  go_at_call 14
  refine (small_any _).mono ?_
  rintro _ _ ⟨v3, y3, rfl, hv3, rfl⟩
  have HV3 := Lib.hid hv3
  clear hv3
  go_wp2_with fail
  go_at_call 10
  refine Rets.use (H2 _ _ (hM.ext isext) (HV3.out.ext isext)).out ?_
  intro y4
  go_wp2_with fail
  go_at_call 14
  refine (small_any _).mono ?_
  rintro _ _ ⟨v5, y5, rfl, hv5, rfl⟩
  have HV5 := Lib.hid hv5
  clear hv5
  go_wp2_with fail
  go_at_call 12
  refine Rets.use (H3 _ _ (hM.ext isext) (HV5.out.ext isext)).out ?_
  intro y6
  go_wp2_with fail
  go_at_call 7
  refine Rets.use (H4 _ (hM.ext isext)).out ?_
  intro y7
  go_wp2_with fail
  go_at_call 14
  refine (small_any _).mono ?_
  rintro _ _ ⟨v8, y8, rfl, hv8, rfl⟩
  have HV8 := Lib.hid hv8
  clear hv8
  go_wp2_with fail
  go_at_call 15
  refine (H5 _ _ (HV8.out.ext isext)).out.mono ?_
  rintro _ _ ⟨v9, n9, y9, rfl, hn9, hv9, -, rfl⟩
  obtain ⟨a9, c9, rfl⟩ := shape_of hv9
  obtain rfl : n9 = 2 := hn9.symm.trans h5.out
  clear hv9 hn9
  go_wp2
  go_ret
  exact ⟨rfl, done⟩
set_option maxRecDepth 100000 in
set_option maxHeartbeats 8000000 in
theorem abbrslaw_any (fm lt : ByteArray) (off save : Int) (n1 : -9223372036854775808 ≤ off) (n2 : off ≤ 9223372036854775807) (hf : fm.size ≤ maxLen) (hl : lt.size ≤ maxLen) (w : World) (hM : MaxL w) :
    Rets Tryd.prog 3 #[.string fm, .string lt, .int .i64 off, .int .i64 save] w (.bool true) := by
  have HA := fun w hm => Lib.hid (ealive_any w hm)
  have HP := fun (h1 : fm.size ≤ 1000) (h2 : lt.size ≤ 1000) w hm => Lib.hid (abbr_any fm lt off save h1 h2 n1 n2 w hm)
  have HD := fun (h1 : fm.size ≤ 1000) (h2 : lt.size ≤ 1000) w => Lib.hid (dabbr_any fm lt off save h1 h2 n1 n2 w)
  generalize Ers.abbrB fm lt off save = AB at *
  unfold maxLen at hf hl
  clear n1 n2
  unfold Rets
  by_cases h1 : 1000 < fm.size
  · have g1 : (1000 : Int) < fm.size := by omega
    clear HP HD
    go_enter Tryd.func3, Tryd.ntmps3
    go_wp2_with (go_at_call 6; refine Rets.use (HA _ (hM.ext isext)).out ?_; intro _)
    go_ret
    exact ⟨rfl, done⟩
  · have g1 : decide ((1000 : Int) < fm.size) = false := decide_eq_false (by omega)
    by_cases h2 : 1000 < lt.size
    · have g2 : (1000 : Int) < lt.size := by omega
      clear HP HD
      go_enter Tryd.func3, Tryd.ntmps3
      go_wp2_with (go_at_call 6; refine Rets.use (HA _ (hM.ext isext)).out ?_; intro _)
      go_ret
      exact ⟨rfl, done⟩
    · have g2 : decide ((1000 : Int) < lt.size) = false := decide_eq_false (by omega)
      have HP1 := HP (by omega) (by omega)
      have HD1 := HD (by omega) (by omega)
      clear HP HD
      go_enter Tryd.func3, Tryd.ntmps3
      go_wp2_with (first | (go_at_call 6; refine Rets.use (HA _ (hM.ext isext)).out ?_; intro _) | (go_at_call 7; refine Rets.use (HP1 _ (hM.ext isext)).out ?_; intro _) | (go_at_call 8; refine Rets.use (HD1 _).out ?_; intro _))
      go_ret
      exact ⟨ret_bool (by simp), done⟩
end Go.Proofs.YtcjnficcggjeiaaDoor
namespace Go.Proofs.YtcjnficcggjeiaaDoor
theorem i64_in {x : Int} (h : (Lit.int .i64 x).wf = true) : -9223372036854775808 ≤ x ∧ x ≤ 9223372036854775807 := by
  have h1 : IntKind.i64.min = -9223372036854775808 := rfl
  have h2 : IntKind.i64.max = 9223372036854775807 := rfl
  simp [Lit.wf, h1, h2] at h; omega
theorem abbrslaw_row (fm lt : ByteArray) (off save : Int) (hf : fm.size ≤ maxLen) (hl : lt.size ≤ maxLen) (ho : (Lit.int .i64 off).wf = true) (hs : (Lit.int .i64 save).wf = true) (w : World) (hM : MaxL w) :
    Rets Tryd.prog 3 #[.string fm, .string lt, .int .i64 off, .int .i64 save] w (.bool true) :=
  abbrslaw_any fm lt off save (i64_in ho).1 (i64_in ho).2 hf hl w hM
end Go.Proofs.YtcjnficcggjeiaaDoor
set_option linter.unusedVariables false
set_option linter.unusedSimpArgs false
namespace Go.Proofs.YtcjnficcggjeiaaDoor
open Go.RowKit Go.Shelf

def esum : List Zone → Nat
  | [] => 0
  | z :: l => z.es.length + esum l
def bigZ : List Zone → Bool
  | [] => false
  | z :: l => decide (45 < z.es.length) || bigZ l
theorem esum_drop (l : List Zone) (j : Nat) (h : j < l.length) : esum (l.drop j) = l[j].es.length + esum (l.drop (j + 1)) := by rw [List.drop_eq_getElem_cons h]; rfl
theorem bigZ_drop (l : List Zone) (j : Nat) (h : j < l.length) : bigZ (l.drop j) = (decide (45 < l[j].es.length) || bigZ (l.drop (j + 1))) := by rw [List.drop_eq_getElem_cons h]; rfl
/-- Is a source more than is looked at? -/
def greatB (s : Source) : Bool := decide (40 < s.rules.length) || (decide (20 < s.zones.length) || (decide (200 < s.links.length) || (bigZ s.zones || decide (100 < esum s.zones))))
theorem great_no {s : Source} (h : greatB s = false) : s.rules.length ≤ 40 ∧ s.zones.length ≤ 20 ∧ s.links.length ≤ 200 ∧ esum s.zones ≤ 100 := by
  unfold greatB at h
  simp only [Bool.or_eq_false_iff, decide_eq_false_iff_not] at h
  omega
theorem great_cases (s : Source) (nr nz nl : Nat) (h1 : s.rules.length = nr) (h2 : s.zones.length = nz) (h3 : s.links.length = nl) : (40 < nr ∧ greatB s = true) ∨ (decide ((40 : Int) < nr) = false ∧ 20 < nz ∧ greatB s = true) ∨ (decide ((40 : Int) < nr) = false ∧ decide ((20 : Int) < nz) = false ∧ 200 < nl ∧ greatB s = true) ∨
    (decide ((40 : Int) < nr) = false ∧ decide ((20 : Int) < nz) = false ∧ decide ((200 : Int) < nl) = false ∧ nz ≤ 20 ∧ greatB s = (bigZ s.zones || decide (100 < esum s.zones))) := by
  unfold greatB
  rw [h1, h2, h3]
  by_cases a : 40 < nr
  · exact .inl ⟨a, by simp [a]⟩
  · right
    have a' : decide ((40 : Int) < nr) = false := decide_eq_false (by omega)
    by_cases b : 20 < nz
    · exact .inl ⟨a', b, by simp [b]⟩
    · right
      have b' : decide ((20 : Int) < nz) = false := decide_eq_false (by omega)
      by_cases c : 200 < nl
      · exact .inl ⟨a', b', c, by simp [c]⟩
      · exact .inr ⟨a', b', decide_eq_false (by omega), by omega, by simp [a, b, c]⟩
set_option maxRecDepth 100000 in
set_option maxHeartbeats 8000000 in
theorem great_any (s : Source) (v : Value) (w : World) (hr : ReadsS w v s) : Rets Tryd.prog 9 #[v] w (.bool (greatB s)) := by
  obtain ⟨vr, vz, vl, rfl, hr1, hr2, hr3⟩ := hr
  obtain ⟨zp, hzp, hz2, hz3⟩ := hr2
  obtain ⟨nr, hnr⟩ : ∃ n, s.rules.length = n := ⟨_, rfl⟩
  obtain ⟨nz, hnz⟩ : ∃ n, s.zones.length = n := ⟨_, rfl⟩
  obtain ⟨nl, hnl⟩ : ∃ n, s.links.length = n := ⟨_, rfl⟩
  have hcs := great_cases s nr nz nl hnr hnz hnl
  rw [hnr] at hr1
  rw [hnz] at hz2
  rw [hnl] at hr3
  obtain ⟨ar, cr, rfl⟩ := shape_of hr1
  obtain ⟨az, cz, rfl⟩ := shape_of hz2
  obtain ⟨al, cl, rfl⟩ := shape_of hr3
  have b1 := len_of hr1
  have b2 := len_of hz2
  have b3 := len_of hr3
  generalize greatB s = G at *
  have Hz2 := Lib.hid hz2
  have Hz3 := Lib.hid hz3
  have Hnz := Lib.hid hnz
  clear hr1 hr3 hz2 hz3 hnr hnl hnz
  generalize s.zones = zl at *
  unfold Rets
  rcases hcs with ⟨h1, rfl⟩ | ⟨h1, h2, rfl⟩ | ⟨h1, h2, h3, rfl⟩ | ⟨h1, h2, h3, h4, E⟩
  · have g : (40 : Int) < nr := by omega
    go_enter Tryd.func9, Tryd.ntmps9
    go_wp2
    go_ret
    exact ⟨rfl, done⟩
  · have g : (20 : Int) < nz := by omega
    go_enter Tryd.func9, Tryd.ntmps9
    go_wp2
    go_ret
    exact ⟨rfl, done⟩
  · have g : (200 : Int) < nl := by omega
    go_enter Tryd.func9, Tryd.ntmps9
    go_wp2
    go_ret
    exact ⟨rfl, done⟩
  · have HE := Lib.hid E
    clear E
    go_enter Tryd.func9, Tryd.ntmps9
    go_wp2_with fail
    go_loopw [3, 4] (fun nv iv wr => ∃ j m : Nat, j ≤ nz ∧ m ≤ 45 * j ∧ nv = .int .i64 m ∧ iv = .int .i64 j ∧ Hid (bigZ zl = bigZ (zl.drop j)) ∧ Hid (esum zl = m + esum (zl.drop j)) ∧ Ext (w.alloc (.cells #[.slice ar nr cr, .slice az nz cz, .slice al nl cl] 29)) wr) (fun _ iv _ => nz - (intOf iv).toNat)
    case atStart => exact ⟨0, 0, by omega, by omega, rfl, rfl, rfl, by show _ = _; rw [List.drop_zero]; omega, isext⟩
    case round =>
      obtain ⟨j, m, j1, m1', rfl, rfl, Ha, Hb, hx⟩ := hrel
      obtain ⟨y2, rfl⟩ := fin hx
      clear hx
      by_cases hlt : j < nz
      · have hj : j < zl.length := by rw [Hnz.out]; exact hlt
        have hjp : j < zp.length := by have := congrArg List.length hzp; rw [List.length_map] at this; omega
        have hz1 : zp[j].1 = zl[j] := by
          have : (zp.map (·.1))[j]'(by rw [List.length_map]; exact hjp) = zl[j] := by simp only [hzp]
          rwa [List.getElem_map] at this
        rcases Hz2.out with ⟨_, _, e9, h9', _⟩ | ⟨b, o, c9, e9, k1, k2, m1, hc⟩
        · exact absurd h9' (by omega)
        injection e9 with e9 e8 e7
        subst e9
        clear e8 e7
        haveI : InW b w := ⟨m1⟩
        obtain ⟨c0, c1⟩ := zone_at hc j hjp
        clear hc
        have hre := Hz3.out zp[j] (List.getElem_mem hjp)
        rw [hz1] at c0 hre
        have hd1 := Lib.hid (bigZ_drop zl j hj)
        have hd2 := Lib.hid (esum_drop zl j hj)
        generalize zp[j].2 = V at *
        generalize zl[j] = z at *
        clear hz1
        obtain ⟨nm, es⟩ := z
        simp only at c0 hre
        obtain ⟨ne, hne⟩ : ∃ n, es.length = n := ⟨_, rfl⟩
        rw [hne] at hre
        obtain ⟨ae, ce, rfl⟩ := shape_of hre
        have b4 := len_of hre
        have Hne := Lib.hid hne
        clear hre hne
        by_cases h5 : 45 < ne
        · have g5 : (45 : Int) < ne := by omega
          have E3 : Hid (G = true) := by
            show _ = _
            rw [HE.out, Ha.out, hd1.out]
            simp only
            rw [Hne.out]; simp [h5]
          clear HE Ha Hb hd1 hd2
          go_wp2
          go_ret
          exact ⟨by rw [E3.out]; first | done | rfl, done⟩
        · have g5 : decide ((45 : Int) < ne) = false := decide_eq_false (by omega)
          have E3 : Hid (bigZ zl = bigZ (zl.drop (j + 1))) := by
            show _ = _
            rw [Ha.out, hd1.out]
            simp only
            rw [Hne.out]; simp [h5]
          have E4 : Hid (esum zl = (m + ne) + esum (zl.drop (j + 1))) := by
            show _ = _
            rw [Hb.out, hd2.out]
            simp only
            rw [Hne.out]; omega
          clear Ha Hb hd1 hd2
          go_wp2
          go_roundw
          case rel => exact ⟨j + 1, m + ne, by omega, by omega, by go_num, by go_num, E3, E4, isext⟩
          case measure => simp [intOf]; omega
      · have E3 : Hid (G = decide ((100 : Int) < m)) := by
          have q1 : bigZ zl = false := by rw [Ha.out, List.drop_eq_nil_of_le (by rw [Hnz.out]; omega)]; rfl
          have q2 : esum zl = m := by rw [Hb.out, List.drop_eq_nil_of_le (by rw [Hnz.out]; omega)]; rfl
          show _ = _
          rw [HE.out, q1, q2, Bool.false_or]
          exact decide_eq_decide.2 (by omega)
        clear HE Ha Hb
        go_wp2
        go_ret
        exact ⟨ret_bool (by rw [E3.out]), done⟩
end Go.Proofs.YtcjnficcggjeiaaDoor
