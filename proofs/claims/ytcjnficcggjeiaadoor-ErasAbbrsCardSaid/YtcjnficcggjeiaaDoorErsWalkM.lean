/- Walks of eras: how clocks stand. -/
import Derived.Test.YtcjnficcggjeiaaDoorErsWalkK
set_option linter.unusedVariables false
set_option linter.unusedSimpArgs false
namespace Go.Proofs.YtcjnficcggjeiaaDoor
open Go.RowKit Go.Shelf

/-- How clocks stand at a place that is meant. -/
def atO (s : Source) (zone t : Int) : Option Phase := match pickZ s zone with
  | none => none
  | some z => (Ers.atD s.rules t z.es).map (fun x => Ers.phaseD s.rules x t)
set_option maxRecDepth 100000 in
set_option maxHeartbeats 16000000 in
theorem eAt_any (s : Source) (hf : fits s) (v : Value) (w : World) (hM : MaxL w) (hr : ReadsS w v s) (zone t : Int) (a1 : -9223372036854775808 ≤ t) (a2 : t ≤ 9223372036854775807) :
    Rets Tryd.prog 10 #[v, .int .i64 zone, .int .i64 t] w (phO (atO s zone t)) := by
  have HRt := fun w h1 h2 => Lib.hid (sright_any s hf v w h1 h2)
  have HO := fun (h9 : s.rules.length ≤ 1000) (x : Era) w h => Lib.hid (eof_any s x v w h h9)
  have hr0 := Lib.hid hr
  have hr00 := hr
  obtain ⟨vr, vz, vl, rfl, hr1, hr2, hr3⟩ := hr
  obtain ⟨zp, hzp, hz2, hz3⟩ := hr2
  obtain ⟨nz, hnz⟩ : ∃ n, s.zones.length = n := ⟨_, rfl⟩
  rw [hnz] at hz2
  obtain ⟨ar, cr, rfl⟩ := shape_of hr1
  obtain ⟨az, cz, rfl⟩ := shape_of hz2
  obtain ⟨al, cl, rfl⟩ := shape_of hr3
  have b2 := len_of hz2
  have hcs := pickZ_cases s zone nz hnz
  have hZ := fun z (h : pickZ s zone = some z) => zone_of h
  have hR := src_rules (s := s)
  have hpe : atO s zone t = match pickZ s zone with | none => none | some z => (Ers.atD s.rules t z.es).map (fun x => Ers.phaseD s.rules x t) := rfl
  generalize atO s zone t = AO at *
  generalize pickZ s zone = PZ at *
  have Hz2 := Lib.hid hz2
  have Hz3 := Lib.hid hz3
  rcases hcs with ⟨h1, rfl⟩ | ⟨h1, h2, rfl⟩ | ⟨h1, h2, h3, rfl⟩ | ⟨h1, k, hk, rfl, h2, h3, rfl⟩
  case inr.inr.inr =>
    rw [h1] at HRt
    obtain ⟨hAll, hLet, h9⟩ := hR h1
    have HOx := HO h9 
    obtain ⟨-, hzm, hEB, hNE⟩ := hZ _ rfl
    have HEn := fun (x : Era) hx sv w hs => Lib.hid (eend_any s.rules hAll x hx sv w hs)
    have HPh := fun (x : Era) hx sv w hm hs => Lib.hid (ephase_any hAll hLet x hx sv t a1 a2 w hm hs)
    have hjp : k < zp.length := by have := congrArg List.length hzp; rw [List.length_map] at this; omega
    have hz1 : zp[k].1 = s.zones[k] := by
      have : (zp.map (·.1))[k]'(by rw [List.length_map]; exact hjp) = s.zones[k] := by simp only [hzp]
      rwa [List.getElem_map] at this
    have hknz : k < nz := by omega
    have h3n : decide (nz ≤ k) = false := decide_eq_false (by omega)
    rcases Hz2.out with ⟨_, _, e9, h9', _⟩ | ⟨b, o, c9, e9, k1, k2, m1, hc⟩
    · exact absurd h9' (by omega)
    injection e9 with e9 e8 e7
    subst e9
    clear e8 e7
    haveI : InW b w := ⟨m1⟩
    obtain ⟨c0, c1⟩ := zone_at hc k hjp
    clear hc
    have hre := Hz3.out zp[k] (List.getElem_mem hjp)
    rw [hz1] at c0 hre
    simp only at hpe
    generalize zp[k].2 = V at *
    generalize s.zones[k] = z at *
    clear hz1 hzp hk HO hZ hR hzm hz2 hz3 Hz2 Hz3 hr00
    obtain ⟨nm, es⟩ := z
    simp only at c0 hre hpe hEB hNE
    obtain ⟨ne, hne⟩ : ∃ n, es.length = n := ⟨_, rfl⟩
    rw [hne] at hre
    obtain ⟨ae, ce, rfl⟩ := shape_of hre
    have b4 := len_of hre
    have hne0 : ne ≠ 0 := by rw [← hne]; exact fun e => hNE (List.eq_nil_of_length_eq_zero e)
    rcases hre with ⟨_, _, e9, h9', _⟩ | ⟨be, oe, c9, e9, k3, k4, m2, hc⟩
    · exact absurd h9' hne0
    injection e9 with e9 e8 e7
    subst e9
    clear e8 e7
    haveI : InW be w := ⟨m2⟩
    have HC := Lib.hid hc
    have Hne := Lib.hid hne
    have Hpe := Lib.hid hpe
    have hsome : Hid (∃ x, Ers.atD s.rules t es = some x) := by
      obtain ⟨x, -, e⟩ := Ers.at_some (l := s.rules) (t := t) hNE hEB
      exact ⟨x, e⟩
    have HEB := Lib.hid hEB
    have HDr := fun j h => Lib.hid (Ers.at_drop s.rules t es j h)
    clear hc hne hpe hNE hEB hne0 hnz hr1 hr3
    generalize s.rules.length = nr at *
    generalize s.links.length = nl at *
    generalize s.rules = rl at *
    unfold Rets
    go_enter Tryd.func10, Tryd.ntmps10
    go_wp2_with (go_at_call 22; refine Rets.use (HRt _ (hM.ext isext) (hr0.out.ext isext)).out ?_; intro y1)
    go_loopw [35] (fun iv wr => ∃ j : Nat, j ≤ ne ∧ iv = .int .i64 j ∧ Hid (Ers.atD rl t es = Ers.atD rl t (es.drop j)) ∧ Ext y1.x wr) (fun iv _ => ne - (intOf iv).toNat)
    case atStart => exact ⟨0, by omega, rfl, rfl, isext⟩
    case round =>
      obtain ⟨j, j1, rfl, Ha, hx⟩ := hrel
      obtain ⟨y2, rfl⟩ := fin hx
      clear hx
      by_cases hlt : j < ne
      · have hj : j < es.length := by rw [Hne.out]; exact hlt
        obtain ⟨d0, d1, d2, d3, d4, d5, d6, d7, d8, d9, d10, d11, d12⟩ := era_at HC.out j hj
        have hdr := HDr j hj
        have hEx := Ers.era_all HEB.out es[j] (List.getElem_mem hj)
        have HOj := HOx es[j]
        have HEj := HEn es[j] hEx
        have HPj := HPh es[j] hEx
        have hev : (es[j].til = false ∧ Hid (endV rl es[j] = .tuple #[.int .i64 0, .bool false])) ∨ (es[j].til = true ∧ Hid (endV rl es[j] = .tuple #[.int .i64 (Ers.endD rl es[j]), .bool true])) := by
          unfold endV
          cases es[j].til
          · exact .inl ⟨rfl, by show _ = _; rw [if_neg (by simp)]⟩
          · exact .inr ⟨rfl, by show _ = _; rw [if_pos rfl]⟩
        generalize endV rl es[j] = EV at *
        have hph : Hid (Ers.atD rl t es = some es[j] → AO = some (Ers.phaseD rl es[j] t)) := fun h => by rw [Hpe.out, h]; rfl
        generalize Ers.phaseD rl es[j] t = ph at *
        generalize Ers.endD rl es[j] = N at *
        generalize hxj : es[j] = x at *
        clear hxj hEx
        obtain ⟨off, kd, sa, rs, fm, til, y, m, kk, wd, d, t', r⟩ := x
        simp only at d0 d1 d2 d3 d4 d5 d6 d7 d8 d9 d10 d11 d12 hev hdr
        obtain ⟨po, ps, pa⟩ := ph
        go_wp2_with fail
        go_at_call 23
        refine (HOj _ (hr0.out.ext isext)).out.mono ?_
        rintro e w' ⟨sv, y3, rfl, hv, -, rfl⟩
        obtain ⟨⟨a1', n1, c1', rfl⟩, -⟩ := id hv
        have Hv := Lib.hid hv
        clear hv
        rcases hev with ⟨rfl, E⟩ | ⟨rfl, E⟩
        · obtain rfl := E.out
          have hat : Ers.atD rl t es = some ⟨off, kd, sa, rs, fm, false, y, m, kk, wd, d, t', r⟩ := by rw [Ha.out, hdr.out, if_pos (.inl rfl)]
          have E2 : Hid (AO = some ⟨po, ps, pa⟩) := hph.out hat
          clear hat hdr Ha hph E
          go_wp2_with (first | (go_at_call 24; refine Rets.use (HEj _ _ (Hv.out.ext isext)).out ?_; intro _) | (go_at_call 25; refine Rets.use (HPj _ _ (hM.ext isext) (Hv.out.ext isext)).out ?_; intro _))
          refine bodyPost_ret (v := .tuple #[phV ⟨po, ps, pa⟩, .bool true]) ?_ rfl ⟨by rw [E2.out]; rfl, done⟩
          simp [results, Tryd.f10, go_sem]
        · obtain rfl := E.out
          by_cases hlN : t < N
          · have hat : Ers.atD rl t es = some ⟨off, kd, sa, rs, fm, true, y, m, kk, wd, d, t', r⟩ := by
              rw [Ha.out, hdr.out]; exact if_pos (.inr hlN)
            have E2 : Hid (AO = some ⟨po, ps, pa⟩) := hph.out hat
            clear hat hdr Ha hph E
            go_wp2_with (first | (go_at_call 24; refine Rets.use (HEj _ _ (Hv.out.ext isext)).out ?_; intro _) | (go_at_call 25; refine Rets.use (HPj _ _ (hM.ext isext) (Hv.out.ext isext)).out ?_; intro _))
            refine bodyPost_ret (v := .tuple #[phV ⟨po, ps, pa⟩, .bool true]) ?_ rfl ⟨by rw [E2.out]; rfl, done⟩
            simp [results, Tryd.f10, go_sem]
          · have hat : Hid (Ers.atD rl t es = Ers.atD rl t (es.drop (j + 1))) := by
              show _ = _
              rw [Ha.out, hdr.out]; exact if_neg (by simp; omega)
            have g0 : decide (t < N) = false := decide_eq_false hlN
            clear hdr Ha hph E hlN
            go_wp2_with (go_at_call 24; refine Rets.use (HEj _ _ (Hv.out.ext isext)).out ?_; intro _)
            go_roundw
            case rel => exact ⟨j + 1, by omega, by go_num, hat, isext⟩
            case measure => simp [intOf]; omega
      · exfalso
        obtain ⟨x, hx⟩ := hsome.out
        rw [Ha.out, List.drop_eq_nil_of_le (by rw [Hne.out]; omega)] at hx
        cases hx
  all_goals
    have E2 : Hid (phO AO = .tuple #[phV noPhase, .bool false]) := by show _ = _; rw [hpe]; rfl
    rw [E2.out]
    clear hpe HO hzp E2 hZ hR hr00
    rw [h1] at HRt
    unfold Rets
    go_enter Tryd.func10, Tryd.ntmps10
    go_wp2_with (go_at_call 22; refine Rets.use (HRt _ (hM.ext isext) (hr0.out.ext isext)).out ?_; intro _)
    refine bodyPost_ret (v := .tuple #[phV noPhase, .bool false]) ?_ rfl ⟨rfl, done⟩
    simp [results, Tryd.f10, go_sem, noPhase]
end Go.Proofs.YtcjnficcggjeiaaDoor
set_option linter.unusedVariables false
set_option linter.unusedSimpArgs false
namespace Go.Proofs.YtcjnficcggjeiaaDoor
open Go.RowKit Go.Shelf

def smallR : List Rule := [⟨⟨#[69]⟩, 1990, 1000000, 3, 1, 7, 0, 3600, 2, 3600, ⟨#[83]⟩⟩, ⟨⟨#[69]⟩, 1990, 1000000, 10, 1, 7, 0, 3600, 2, 0, ⟨#[]⟩⟩]
def smallE : List Era := [⟨1234, 0, 0, ⟨#[]⟩, ⟨#[76, 77, 84]⟩, true, 1995, 1, 0, 0, 1, 0, 0⟩, ⟨3600, 2, 0, ⟨#[69]⟩, ⟨#[67, 37, 115, 84]⟩, false, 0, 0, 0, 0, 0, 0, 0⟩]
def smallZ : Zone := ⟨⟨#[65]⟩, smallE⟩
def smallS : Source := ⟨smallR, [smallZ], []⟩
theorem small_fits : fits smallS := by
  refine ⟨?_, ?_, ?_⟩
  · intro x hx
    simp [smallS, smallR] at hx
    rcases hx with rfl | rfl <;> exact ⟨by decide, by decide⟩
  · intro z hz
    simp [smallS] at hz
    subst hz
    refine ⟨by decide, fun x hx => ?_⟩
    simp [smallZ, smallE] at hx
    rcases hx with rfl | rfl <;> exact ⟨by decide, by decide⟩
  · intro x hx; cases hx
theorem row_newG (w : World) (cs : List Value) (t : TypeId) (n : Nat) (h : n ≤ 100) : Reads (w.alloc (.cells cs.toArray t)) (.slice (some ⟨w.heap.size, 0, none⟩) n n) n cs := by
  refine .inr ⟨_, 0, n, rfl, Nat.le_refl _, by unfold maxLen; omega, by simp, fun i u hu => ?_⟩
  have := new_cells w cs t i u hu
  rw [show (⟨w.heap.size, 0, none⟩ : Addr).add i = ⟨w.heap.size, 0 + i, none⟩ by unfold Addr.add; split <;> simp_all] at this
  exact this
def smallV (n : Nat) : Value := .agg #[.slice (some ⟨n + 1, 0, none⟩) 2 2, .slice (some ⟨n + 1 + 1 + 1, 0, none⟩) 1 1, .slice none 0 0]
def smallW (w : World) (o : Obj) : World := (((w.alloc o).alloc (.cells (ruleRow smallR).toArray 43)).alloc (.cells (eraRow smallE).toArray 41)).alloc (.cells (zoneRow [(smallZ, .slice (some ⟨w.heap.size + 1 + 1, 0, none⟩) 2 2)]).toArray 37)
theorem small_reads (w : World) (o : Obj) : ReadsS (smallW w o) (smallV w.heap.size) smallS := by
  refine ⟨_, _, _, rfl, ?_, ?_, Reads.nil _⟩
  · have := row_newG (w.alloc o) (ruleRow smallR) 43 2 (by omega)
    simp only [World.size_alloc] at this
    exact (this.ext ((Ext.refl _).alloc _)).ext ((Ext.refl _).alloc _)
  · refine ⟨[(smallZ, .slice (some ⟨w.heap.size + 1 + 1, 0, none⟩) 2 2)], rfl, ?_, ?_⟩
    · have := row_newG (((w.alloc o).alloc (.cells (ruleRow smallR).toArray 43)).alloc (.cells (eraRow smallE).toArray 41)) (zoneRow [(smallZ, .slice (some ⟨w.heap.size + 1 + 1, 0, none⟩) 2 2)]) 37 1 (by omega)
      simp only [World.size_alloc] at this
      exact this
    · intro p hp
      simp at hp
      subst hp
      have := row_newG ((w.alloc o).alloc (.cells (ruleRow smallR).toArray 43)) (eraRow smallE) 41 2 (by omega)
      simp only [World.size_alloc] at this
      exact this.ext ((Ext.refl _).alloc _)
def SmallEnd (w : World) (e : Ending) (w' : World) : Prop := ∃ (v : Value) (y : Past w), e = .returned v ∧ ReadsS y.x v smallS ∧ w' = y.x
set_option maxRecDepth 100000 in
set_option maxHeartbeats 4000000 in
theorem small_any (w : World) : Calls Tryd.prog 14 #[] w (SmallEnd w) := by
  have K : ∀ o, Hid (SmallEnd w (.returned (smallV w.heap.size)) (smallW w o)) := fun o => ⟨_, ⟨_, ((((Ext.refl w).alloc _).alloc _).alloc _).alloc _⟩, rfl, small_reads w o, rfl⟩
  go_enter Tryd.func14, Tryd.ntmps14
  go_wp2
  refine bodyPost_ret (v := smallV w.heap.size) ?_ rfl (K _).out
  simp [results, Tryd.f14, go_sem, smallV]
theorem small_at1 : (atO smallS 0 1625097600).map (fun p => (p.off, p.s, p.ab.data.toList)) = some (7200, 3600, [67, 83, 84]) := by decide +kernel
theorem small_at2 : (atO smallS 0 0).map (fun p => (p.off, p.s, p.ab.data.toList)) = some (1234, 0, [76, 77, 84]) := by decide +kernel
theorem small_end : (pickE smallS 0 0).map (fun x => (x.til, Ers.endD smallS.rules x)) = some (true, 788917166) := by decide +kernel
theorem small_set : (Ers.setOf smallS.rules ⟨#[69]⟩).length = 2 := by decide +kernel
end Go.Proofs.YtcjnficcggjeiaaDoor
