/- Walks of eras: the laws of ends, phases, places. -/
import Derived.Test.YtcjnficcggjeiaaGreatDoorErsWalkR
import Derived.Test.YtcjnficcggjeiaaGreatDoorErsWalkS
set_option linter.unusedVariables false
set_option linter.unusedSimpArgs false
namespace Go.Proofs.YtcjnficcggjeiaaGreatDoor
open Go.RowKit Go.Shelf

theorem pickE_none {s : Source} {zone : Int} (h : pickZ s zone = none) (i : Int) : pickE s zone i = none := by unfold pickE; rw [h]
theorem atO_none {s : Source} {zone : Int} (h : pickZ s zone = none) (t : Int) : atO s zone t = none := by unfold atO; rw [h]
theorem phO_no : phO none = .tuple #[.agg #[.int .i64 0, .int .i64 0, .string ⟨#[]⟩], .bool false] := rfl
set_option maxRecDepth 100000 in
set_option maxHeartbeats 4000000 in
theorem endslaw_any (s : Source) (hf : fits s) (zone era : Int) (v : Value) (w : World) (hM : MaxL w) (hr : ReadsS w v s) :
    Rets Tryz.prog 3 #[v, .int .i64 zone, .int .i64 era] w (.bool true) := by
  have HG := fun w h => Lib.hid (great_any s v w h)
  have HA := fun w h => Lib.hid (ealive_any w h)
  have HR := fun w hr => Lib.hid (dright_any s hf v w hr)
  have HE := fun (h9 : s.rules.length ≤ 1000) w hm hr => Lib.hid (eEnd_any s hf v w hm hr h9 zone era)
  have HD := fun (hS : Src.srcB s = true) (x : Era) hx ht w hr => Lib.hid (dEnd_any s hS x hx ht v w hr)
  have hr0 := Lib.hid hr
  have HA2 : ∀ {b : World} [ExtC w b] (y : Past b), Hid (Rets Tryz.prog 7 #[] y.x (.bool true)) := fun {b} _ y => HA y.x (hM.ext ((isext : Ext w b).past y))
  obtain ⟨vr, vz, vl, rfl, hr1, hr2, hr3⟩ := hr
  obtain ⟨zp, hzp, hz2, hz3⟩ := hr2
  obtain ⟨nz, hnz⟩ : ∃ n, s.zones.length = n := ⟨_, rfl⟩
  rw [hnz] at hz2
  obtain ⟨ar, cr, rfl⟩ := shape_of hr1
  obtain ⟨az, cz, rfl⟩ := shape_of hz2
  obtain ⟨al, cl, rfl⟩ := shape_of hr3
  have b2 := len_of hz2
  unfold Rets
  cases hg : greatB s
  case true =>
    rw [hg] at HG
    clear hr1 hr3 hz2 hz3 hnz hzp HE HD HR
    generalize s.rules.length = nr at *
    generalize s.links.length = nl at *
    go_enter Tryz.func3, Tryz.ntmps3
    go_wp2_with (first | (go_at_call 6; refine Rets.use (HG _ (hr0.out.ext isext)).out ?_; intro _) | (go_at_call 7; refine Rets.use (HA _ (hM.ext isext)).out ?_; intro _) | (go_at_call 8; refine Rets.use (HE _ (hM.ext isext) (hr0.out.ext isext)).out ?_; intro _) | (go_at_call 9; refine Rets.use (HR _ (hr0.out.ext isext)).out ?_; intro _))
    go_ret
    exact ⟨rfl, done⟩
  case false =>
    rw [hg] at HG
    obtain ⟨h9, -⟩ := great_no hg
    have HE := HE (by omega)
    rcases pickZ_cases s zone nz hnz with ⟨h1, hp⟩ | ⟨h1, h2, hp⟩ | ⟨h1, h2, h3, hp⟩ | ⟨h1, k, hk, rfl, h2, h3, hp⟩
    case inr.inr.inr =>
      rw [h1] at HR
      obtain ⟨-, hzm, hEB, hNE⟩ := zone_of hp
      have HD := HD h1
      have hjp : k < zp.length := by have := congrArg List.length hzp; rw [List.length_map] at this; omega
      have hz1 : zp[k].1 = s.zones[k] := by
        have : (zp.map (·.1))[k]'(by rw [List.length_map]; exact hjp) = s.zones[k] := by simp only [hzp]
        rwa [List.getElem_map] at this
      have hknz : k < nz := by omega
      have h3n : decide (nz ≤ k) = false := decide_eq_false (by omega)
      rcases hz2 with ⟨_, _, e9, h9', _⟩ | ⟨b, o, c9, e9, k1, k2, m1, hc⟩
      · exact absurd h9' (by omega)
      injection e9 with e9 e8 e7
      subst e9
      clear e8 e7
      haveI : InW b w := ⟨m1⟩
      obtain ⟨c0, c1⟩ := zone_at hc k hjp
      clear hc
      have hre := hz3 zp[k] (List.getElem_mem hjp)
      rw [hz1] at c0 hre
      generalize zp[k].2 = V at *
      generalize s.zones[k] = z at *
      clear hz1 hz3 hzp hk hnz hjp hzm
      obtain ⟨nm, es⟩ := z
      simp only at c0 hre hEB hNE
      obtain ⟨ne, hne⟩ : ∃ n, es.length = n := ⟨_, rfl⟩
      obtain ⟨ae, ce, rfl⟩ := shape_of hre
      have hre0 := hre
      rw [hne] at hre c1
      have b4 := len_of hre
      have Hne := Lib.hid hne
      clear hr1 hr3
      rcases pickE_cases es era ne hne _ (pickE_at hp era) with ⟨g1, hq⟩ | ⟨g1, g2, hq⟩ | ⟨j, hj, rfl, g1, g2, hq⟩
      · rw [hq, endO_no] at HE
        clear HD hp hq hne hre hre0 hNE hEB
        generalize s.rules.length = nr at *
        generalize s.links.length = nl at *
        go_enter Tryz.func3, Tryz.ntmps3
        go_wp2_with (first | (go_at_call 6; refine Rets.use (HG _ (hr0.out.ext isext)).out ?_; intro _) | (go_at_call 7; refine Rets.use (HA _ (hM.ext isext)).out ?_; intro _) | (go_at_call 8; refine Rets.use (HE _ (hM.ext isext) (hr0.out.ext isext)).out ?_; intro _) | (go_at_call 9; refine Rets.use (HR _ (hr0.out.ext isext)).out ?_; intro _))
        go_ret
        exact ⟨rfl, done⟩
      · rw [hq, endO_no] at HE
        clear HD hp hq hne hre hre0 hNE hEB
        generalize s.rules.length = nr at *
        generalize s.links.length = nl at *
        go_enter Tryz.func3, Tryz.ntmps3
        go_wp2_with (first | (go_at_call 6; refine Rets.use (HG _ (hr0.out.ext isext)).out ?_; intro _) | (go_at_call 7; refine Rets.use (HA _ (hM.ext isext)).out ?_; intro _) | (go_at_call 8; refine Rets.use (HE _ (hM.ext isext) (hr0.out.ext isext)).out ?_; intro _) | (go_at_call 9; refine Rets.use (HR _ (hr0.out.ext isext)).out ?_; intro _))
        go_ret
        exact ⟨rfl, done⟩
      · have hjne : j < ne := by omega
        have g2n : decide (ne ≤ j) = false := decide_eq_false (by omega)
        rcases hre with ⟨_, _, e9, h9', _⟩ | ⟨be, oe, c9, e9, k3, k4, m2, hc⟩
        · exact absurd h9' (by omega)
        injection e9 with e9 e8 e7
        subst e9
        clear e8 e7
        haveI : InW be w := ⟨m2⟩
        obtain ⟨d0, d1, d2, d3, d4, d5, d6, d7, d8, d9, d10, d11, d12⟩ := era_at hc j hj
        have hEx := Ers.era_all hEB es[j] (List.getElem_mem hj)
        clear hc hre0
        rw [hq] at HE
        have HDx := HD es[j] hEx
        generalize es[j] = x at *
        cases ht : x.til
        · rw [endO_last ht] at HE
          clear HD HDx hp hq hNE hEB hEx hne
          obtain ⟨off, kd, sa, rs, fm, til, y, m, kk, wd, d, t', r⟩ := x
          simp only at d0 d1 d2 d3 d4 d5 d6 d7 d8 d9 d10 d11 d12 ht
          subst ht
          generalize s.rules.length = nr at *
          generalize s.links.length = nl at *
          go_enter Tryz.func3, Tryz.ntmps3
          go_wp2_with (first | (go_at_call 6; refine Rets.use (HG _ (hr0.out.ext isext)).out ?_; intro _) | (go_at_call 7; refine Rets.use (HA _ (hM.ext isext)).out ?_; intro _) | (go_at_call 8; refine Rets.use (HE _ (hM.ext isext) (hr0.out.ext isext)).out ?_; intro _) | (go_at_call 9; refine Rets.use (HR _ (hr0.out.ext isext)).out ?_; intro _))
          go_ret
          exact ⟨rfl, done⟩
        · rw [endO_yes ht] at HE
          have HDx := HDx ht
          have HD2 := fun {b : World} [ExtC w b] (y : Past b) => HDx y.x (hr0.out.ext ((isext : Ext w b).past y))
          clear HD HDx hp hq hNE hEB hEx hne
          generalize Ers.endD s.rules x = N at *
          obtain ⟨off, kd, sa, rs, fm, til, y, m, kk, wd, d, t', r⟩ := x
          simp only at d0 d1 d2 d3 d4 d5 d6 d7 d8 d9 d10 d11 d12 ht HD2
          subst ht
          generalize s.rules.length = nr at *
          generalize s.links.length = nl at *
          go_enter Tryz.func3, Tryz.ntmps3
          go_wp2_with (first | (go_at_call 6; refine Rets.use (HG _ (hr0.out.ext isext)).out ?_; intro _) | (go_at_call 7; refine Rets.use (HA _ (hM.ext isext)).out ?_; intro _) | (go_at_call 8; refine Rets.use (HE _ (hM.ext isext) (hr0.out.ext isext)).out ?_; intro _) | (go_at_call 9; refine Rets.use (HR _ (hr0.out.ext isext)).out ?_; intro _))
          refine wp_region_past1 (by kernel_rfl) (by kernel_rfl) ?_
          repeat (go_big_quiet_step ((first | (go_at_call 7; exact Rets.quiet (HA2 _).out) | (go_at_call 10; exact Rets.quiet (HD2 _).out))))
          refine wpQuiet_nil ?_
          intro _
          go_wp2
          go_ret
          exact ⟨ret_bool (by simp), done⟩
    all_goals
      rw [h1] at HR
      rw [pickE_none hp, endO_no] at HE
      clear hr1 hr3 hz2 hz3 hnz hzp HD hp
      generalize s.rules.length = nr at *
      generalize s.links.length = nl at *
      go_enter Tryz.func3, Tryz.ntmps3
      go_wp2_with (first | (go_at_call 6; refine Rets.use (HG _ (hr0.out.ext isext)).out ?_; intro _) | (go_at_call 7; refine Rets.use (HA _ (hM.ext isext)).out ?_; intro _) | (go_at_call 8; refine Rets.use (HE _ (hM.ext isext) (hr0.out.ext isext)).out ?_; intro _) | (go_at_call 9; refine Rets.use (HR _ (hr0.out.ext isext)).out ?_; intro _))
      go_ret
      exact ⟨rfl, done⟩
set_option maxRecDepth 100000 in
set_option maxHeartbeats 4000000 in
theorem phaseslaw_any (s : Source) (hf : fits s) (zone era t : Int) (a1 : -9223372036854775808 ≤ t) (a2 : t ≤ 9223372036854775807) (v : Value) (w : World) (hM : MaxL w) (hr : ReadsS w v s) :
    Rets Tryz.prog 5 #[v, .int .i64 zone, .int .i64 era, .int .i64 t] w (.bool true) := by
  have HG := fun w h => Lib.hid (great_any s v w h)
  have HA := fun w h => Lib.hid (ealive_any w h)
  have HR := fun w hr => Lib.hid (dright_any s hf v w hr)
  have HE := fun (h9 : s.rules.length ≤ 1000) w hm hr => Lib.hid (ePhase_any s hf v w hm hr h9 zone era t a1 a2)
  have HD := fun (hS : Src.srcB s = true) (x : Era) hx w hr => Lib.hid (dPhase_any s hS x hx t a1 a2 v w hr)
  have hr0 := Lib.hid hr
  have HA2 : ∀ {b : World} [ExtC w b] (y : Past b), Hid (Rets Tryz.prog 7 #[] y.x (.bool true)) := fun {b} _ y => HA y.x (hM.ext ((isext : Ext w b).past y))
  obtain ⟨vr, vz, vl, rfl, hr1, hr2, hr3⟩ := hr
  obtain ⟨zp, hzp, hz2, hz3⟩ := hr2
  obtain ⟨nz, hnz⟩ : ∃ n, s.zones.length = n := ⟨_, rfl⟩
  rw [hnz] at hz2
  obtain ⟨ar, cr, rfl⟩ := shape_of hr1
  obtain ⟨az, cz, rfl⟩ := shape_of hz2
  obtain ⟨al, cl, rfl⟩ := shape_of hr3
  have b2 := len_of hz2
  unfold Rets
  cases hg : greatB s
  case true =>
    rw [hg] at HG
    clear hr1 hr3 hz2 hz3 hnz hzp HE HD HR
    generalize s.rules.length = nr at *
    generalize s.links.length = nl at *
    go_enter Tryz.func5, Tryz.ntmps5
    go_wp2_with (first | (go_at_call 6; refine Rets.use (HG _ (hr0.out.ext isext)).out ?_; intro _) | (go_at_call 7; refine Rets.use (HA _ (hM.ext isext)).out ?_; intro _) | (go_at_call 13; refine Rets.use (HE _ (hM.ext isext) (hr0.out.ext isext)).out ?_; intro _) | (go_at_call 9; refine Rets.use (HR _ (hr0.out.ext isext)).out ?_; intro _))
    go_ret
    exact ⟨rfl, done⟩
  case false =>
    rw [hg] at HG
    obtain ⟨h9, -⟩ := great_no hg
    have HE := HE (by omega)
    rcases pickZ_cases s zone nz hnz with ⟨h1, hp⟩ | ⟨h1, h2, hp⟩ | ⟨h1, h2, h3, hp⟩ | ⟨h1, k, hk, rfl, h2, h3, hp⟩
    case inr.inr.inr =>
      rw [h1] at HR
      obtain ⟨-, hzm, hEB, hNE⟩ := zone_of hp
      have HD := HD h1
      have hjp : k < zp.length := by have := congrArg List.length hzp; rw [List.length_map] at this; omega
      have hz1 : zp[k].1 = s.zones[k] := by
        have : (zp.map (·.1))[k]'(by rw [List.length_map]; exact hjp) = s.zones[k] := by simp only [hzp]
        rwa [List.getElem_map] at this
      have hknz : k < nz := by omega
      have h3n : decide (nz ≤ k) = false := decide_eq_false (by omega)
      rcases hz2 with ⟨_, _, e9, h9', _⟩ | ⟨b, o, c9, e9, k1, k2, m1, hc⟩
      · exact absurd h9' (by omega)
      injection e9 with e9 e8 e7
      subst e9
      clear e8 e7
      haveI : InW b w := ⟨m1⟩
      obtain ⟨c0, c1⟩ := zone_at hc k hjp
      clear hc
      have hre := hz3 zp[k] (List.getElem_mem hjp)
      rw [hz1] at c0 hre
      generalize zp[k].2 = V at *
      generalize s.zones[k] = z at *
      clear hz1 hz3 hzp hk hnz hjp hzm
      obtain ⟨nm, es⟩ := z
      simp only at c0 hre hEB hNE
      obtain ⟨ne, hne⟩ : ∃ n, es.length = n := ⟨_, rfl⟩
      obtain ⟨ae, ce, rfl⟩ := shape_of hre
      have hre0 := hre
      rw [hne] at hre c1
      have b4 := len_of hre
      have Hne := Lib.hid hne
      clear hr1 hr3
      rcases pickE_cases es era ne hne _ (pickE_at hp era) with ⟨g1, hq⟩ | ⟨g1, g2, hq⟩ | ⟨j, hj, rfl, g1, g2, hq⟩
      · rw [hq, Option.map_none, phO_no] at HE
        clear HD hp hq hne hre hre0 hNE hEB
        generalize s.rules.length = nr at *
        generalize s.links.length = nl at *
        go_enter Tryz.func5, Tryz.ntmps5
        go_wp2_with (first | (go_at_call 6; refine Rets.use (HG _ (hr0.out.ext isext)).out ?_; intro _) | (go_at_call 7; refine Rets.use (HA _ (hM.ext isext)).out ?_; intro _) | (go_at_call 13; refine Rets.use (HE _ (hM.ext isext) (hr0.out.ext isext)).out ?_; intro _) | (go_at_call 9; refine Rets.use (HR _ (hr0.out.ext isext)).out ?_; intro _))
        go_ret
        exact ⟨rfl, done⟩
      · rw [hq, Option.map_none, phO_no] at HE
        clear HD hp hq hne hre hre0 hNE hEB
        generalize s.rules.length = nr at *
        generalize s.links.length = nl at *
        go_enter Tryz.func5, Tryz.ntmps5
        go_wp2_with (first | (go_at_call 6; refine Rets.use (HG _ (hr0.out.ext isext)).out ?_; intro _) | (go_at_call 7; refine Rets.use (HA _ (hM.ext isext)).out ?_; intro _) | (go_at_call 13; refine Rets.use (HE _ (hM.ext isext) (hr0.out.ext isext)).out ?_; intro _) | (go_at_call 9; refine Rets.use (HR _ (hr0.out.ext isext)).out ?_; intro _))
        go_ret
        exact ⟨rfl, done⟩
      · have hjne : j < ne := by omega
        have g2n : decide (ne ≤ j) = false := decide_eq_false (by omega)
        rcases hre with ⟨_, _, e9, h9', _⟩ | ⟨be, oe, c9, e9, k3, k4, m2, hc⟩
        · exact absurd h9' (by omega)
        injection e9 with e9 e8 e7
        subst e9
        clear e8 e7
        haveI : InW be w := ⟨m2⟩
        obtain ⟨d0, d1, d2, d3, d4, d5, d6, d7, d8, d9, d10, d11, d12⟩ := era_at hc j hj
        have hEx := Ers.era_all hEB es[j] (List.getElem_mem hj)
        clear hc hre0
        rw [hq] at HE
        have HDx := HD es[j] hEx
        generalize es[j] = x at *
        simp only [Option.map_some, phO_some] at HE
        have HD2 := fun {b : World} [ExtC w b] (y : Past b) => HDx y.x (hr0.out.ext ((isext : Ext w b).past y))
        clear HD HDx hp hq hNE hEB hEx hne
        generalize Ers.phaseD s.rules x t = P1 at *
        obtain ⟨po, ps, pa⟩ := P1
        obtain ⟨off, kd, sa, rs, fm, til, y, m, kk, wd, d, t', r⟩ := x
        simp only at d0 d1 d2 d3 d4 d5 d6 d7 d8 d9 d10 d11 d12 HD2
        generalize s.rules.length = nr at *
        generalize s.links.length = nl at *
        go_enter Tryz.func5, Tryz.ntmps5
        go_wp2_with (first | (go_at_call 6; refine Rets.use (HG _ (hr0.out.ext isext)).out ?_; intro _) | (go_at_call 7; refine Rets.use (HA _ (hM.ext isext)).out ?_; intro _) | (go_at_call 13; refine Rets.use (HE _ (hM.ext isext) (hr0.out.ext isext)).out ?_; intro _) | (go_at_call 9; refine Rets.use (HR _ (hr0.out.ext isext)).out ?_; intro _))
        refine wp_region_past1 (by kernel_rfl) (by kernel_rfl) ?_
        repeat (go_big_quiet_step ((first | (go_at_call 7; exact Rets.quiet (HA2 _).out) | (go_at_call 14; exact Rets.quiet (HD2 _).out))))
        refine wpQuiet_nil ?_
        intro _
        go_wp2
        go_ret
        exact ⟨ret_bool (by simp), done⟩
    all_goals
      rw [h1] at HR
      rw [pickE_none hp, Option.map_none, phO_no] at HE
      clear hr1 hr3 hz2 hz3 hnz hzp HD hp
      generalize s.rules.length = nr at *
      generalize s.links.length = nl at *
      go_enter Tryz.func5, Tryz.ntmps5
      go_wp2_with (first | (go_at_call 6; refine Rets.use (HG _ (hr0.out.ext isext)).out ?_; intro _) | (go_at_call 7; refine Rets.use (HA _ (hM.ext isext)).out ?_; intro _) | (go_at_call 13; refine Rets.use (HE _ (hM.ext isext) (hr0.out.ext isext)).out ?_; intro _) | (go_at_call 9; refine Rets.use (HR _ (hr0.out.ext isext)).out ?_; intro _))
      go_ret
      exact ⟨rfl, done⟩
set_option maxRecDepth 100000 in
set_option maxHeartbeats 4000000 in
theorem telllaw_any (s : Source) (hf : fits s) (zone t : Int) (a1 : -9223372036854775808 ≤ t) (a2 : t ≤ 9223372036854775807) (v : Value) (w : World) (hM : MaxL w) (hr : ReadsS w v s) :
    Rets Tryz.prog 4 #[v, .int .i64 zone, .int .i64 t] w (.bool true) := by
  have HG := fun w h => Lib.hid (great_any s v w h)
  have HA := fun w h => Lib.hid (ealive_any w h)
  have HR := fun w hr => Lib.hid (dright_any s hf v w hr)
  have HE := fun (h9 : s.rules.length ≤ 1000) w hm hr => Lib.hid (eAt_any s hf v w hm hr zone t a1 a2)
  have HD := fun (hS : Src.srcB s = true) (z : Zone) h1 h2 zv w hr hre x0 hx0 => Lib.hid (dAt_any s hS z h1 h2 t a1 a2 zv v w hr hre x0 hx0)
  have hr0 := Lib.hid hr
  have HA2 : ∀ {b : World} [ExtC w b] (y : Past b), Hid (Rets Tryz.prog 7 #[] y.x (.bool true)) := fun {b} _ y => HA y.x (hM.ext ((isext : Ext w b).past y))
  obtain ⟨vr, vz, vl, rfl, hr1, hr2, hr3⟩ := hr
  obtain ⟨zp, hzp, hz2, hz3⟩ := hr2
  obtain ⟨nz, hnz⟩ : ∃ n, s.zones.length = n := ⟨_, rfl⟩
  rw [hnz] at hz2
  obtain ⟨ar, cr, rfl⟩ := shape_of hr1
  obtain ⟨az, cz, rfl⟩ := shape_of hz2
  obtain ⟨al, cl, rfl⟩ := shape_of hr3
  have b2 := len_of hz2
  unfold Rets
  cases hg : greatB s
  case true =>
    rw [hg] at HG
    clear hr1 hr3 hz2 hz3 hnz hzp HE HD HR
    generalize s.rules.length = nr at *
    generalize s.links.length = nl at *
    go_enter Tryz.func4, Tryz.ntmps4
    go_wp2_with (first | (go_at_call 6; refine Rets.use (HG _ (hr0.out.ext isext)).out ?_; intro _) | (go_at_call 7; refine Rets.use (HA _ (hM.ext isext)).out ?_; intro _) | (go_at_call 11; refine Rets.use (HE _ (hM.ext isext) (hr0.out.ext isext)).out ?_; intro _) | (go_at_call 9; refine Rets.use (HR _ (hr0.out.ext isext)).out ?_; intro _))
    go_ret
    exact ⟨rfl, done⟩
  case false =>
    rw [hg] at HG
    obtain ⟨h9, -⟩ := great_no hg
    have HE := HE (by omega)
    rcases pickZ_cases s zone nz hnz with ⟨h1, hp⟩ | ⟨h1, h2, hp⟩ | ⟨h1, h2, h3, hp⟩ | ⟨h1, k, hk, rfl, h2, h3, hp⟩
    case inr.inr.inr =>
      rw [h1] at HR
      obtain ⟨-, hzm, hEB, hNE⟩ := zone_of hp
      have HD := HD h1
      have hjp : k < zp.length := by have := congrArg List.length hzp; rw [List.length_map] at this; omega
      have hz1 : zp[k].1 = s.zones[k] := by
        have : (zp.map (·.1))[k]'(by rw [List.length_map]; exact hjp) = s.zones[k] := by simp only [hzp]
        rwa [List.getElem_map] at this
      have hknz : k < nz := by omega
      have h3n : decide (nz ≤ k) = false := decide_eq_false (by omega)
      rcases hz2 with ⟨_, _, e9, h9', _⟩ | ⟨b, o, c9, e9, k1, k2, m1, hc⟩
      · exact absurd h9' (by omega)
      injection e9 with e9 e8 e7
      subst e9
      clear e8 e7
      haveI : InW b w := ⟨m1⟩
      obtain ⟨c0, c1⟩ := zone_at hc k hjp
      clear hc
      have hre := hz3 zp[k] (List.getElem_mem hjp)
      rw [hz1] at c0 hre
      generalize zp[k].2 = V at *
      generalize s.zones[k] = z at *
      clear hz1 hz3 hzp hk hnz hjp hzm
      obtain ⟨nm, es⟩ := z
      simp only at c0 hre hEB hNE
      obtain ⟨ne, hne⟩ : ∃ n, es.length = n := ⟨_, rfl⟩
      obtain ⟨ae, ce, rfl⟩ := shape_of hre
      have hre0 := hre
      rw [hne] at hre c1
      have b4 := len_of hre
      have Hne := Lib.hid hne
      clear hr1 hr3
      obtain ⟨x, hxm, hx⟩ := Ers.at_some (l := s.rules) (t := t) hNE hEB
      have HDx := fun w hr (h : Reads w (.slice ae ne ce) ne (eraRow es)) => HD ⟨nm, es⟩ hEB hNE (.slice ae ne ce) w hr (by show Reads w _ es.length _; rw [hne]; exact h) x hx
      rw [atO_at hp] at HE
      simp only [hx, Option.map_some, phO_some] at HE
      have Hre := Lib.hid hre
      have HD2 := fun {b : World} [ExtC w b] (y : Past b) => HDx y.x (hr0.out.ext ((isext : Ext w b).past y)) (Hre.out.ext ((isext : Ext w b).past y))
      clear HD HDx hp hne hre hre0 hNE hEB hx hxm
      generalize s.rules.length = nr at *
      generalize s.links.length = nl at *
      generalize Ers.phaseD s.rules x t = P1 at *
      obtain ⟨po, ps, pa⟩ := P1
      simp only at HD2
      go_enter Tryz.func4, Tryz.ntmps4
      go_wp2_with (first | (go_at_call 6; refine Rets.use (HG _ (hr0.out.ext isext)).out ?_; intro _) | (go_at_call 7; refine Rets.use (HA _ (hM.ext isext)).out ?_; intro _) | (go_at_call 11; refine Rets.use (HE _ (hM.ext isext) (hr0.out.ext isext)).out ?_; intro _) | (go_at_call 9; refine Rets.use (HR _ (hr0.out.ext isext)).out ?_; intro _))
      refine wp_region_past1 (by kernel_rfl) (by kernel_rfl) ?_
      repeat (go_big_quiet_step ((first | (go_at_call 7; exact Rets.quiet (HA2 _).out) | (go_at_call 12; exact Rets.quiet (HD2 _).out))))
      refine wpQuiet_nil ?_
      intro _
      go_wp2
      go_ret
      exact ⟨ret_bool (by simp), done⟩
    all_goals
      rw [h1] at HR
      rw [atO_none hp, phO_no] at HE
      clear hr1 hr3 hz2 hz3 hnz hzp HD hp
      generalize s.rules.length = nr at *
      generalize s.links.length = nl at *
      go_enter Tryz.func4, Tryz.ntmps4
      go_wp2_with (first | (go_at_call 6; refine Rets.use (HG _ (hr0.out.ext isext)).out ?_; intro _) | (go_at_call 7; refine Rets.use (HA _ (hM.ext isext)).out ?_; intro _) | (go_at_call 11; refine Rets.use (HE _ (hM.ext isext) (hr0.out.ext isext)).out ?_; intro _) | (go_at_call 9; refine Rets.use (HR _ (hr0.out.ext isext)).out ?_; intro _))
      go_ret
      exact ⟨rfl, done⟩
theorem endslaw_row (s : Source) (v : Value) (zone era : Int) (_ : (Lit.int .i64 zone).wf = true) (_ : (Lit.int .i64 era).wf = true) (w : World) (hr : ReadsS w v s) (hf : fits s) (hM : MaxL w) :
    Rets Tryz.prog 3 #[v, .int .i64 zone, .int .i64 era] w (.bool true) :=
  endslaw_any s hf zone era v w hM hr
theorem phaseslaw_row (s : Source) (v : Value) (zone era t : Int) (_ : (Lit.int .i64 zone).wf = true) (_ : (Lit.int .i64 era).wf = true) (ht : (Lit.int .i64 t).wf = true) (w : World) (hr : ReadsS w v s) (hf : fits s) (hM : MaxL w) :
    Rets Tryz.prog 5 #[v, .int .i64 zone, .int .i64 era, .int .i64 t] w (.bool true) :=
  phaseslaw_any s hf zone era t (i64_in ht).1 (i64_in ht).2 v w hM hr
theorem telllaw_row (s : Source) (v : Value) (zone t : Int) (_ : (Lit.int .i64 zone).wf = true) (ht : (Lit.int .i64 t).wf = true) (w : World) (hr : ReadsS w v s) (hf : fits s) (hM : MaxL w) :
    Rets Tryz.prog 4 #[v, .int .i64 zone, .int .i64 t] w (.bool true) :=
  telllaw_any s hf zone t (i64_in ht).1 (i64_in ht).2 v w hM hr
end Go.Proofs.YtcjnficcggjeiaaGreatDoor
