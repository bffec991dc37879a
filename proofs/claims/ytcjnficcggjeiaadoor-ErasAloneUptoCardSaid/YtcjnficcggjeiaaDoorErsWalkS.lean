/- The law of holding: ahead of an era's end an era up to it holds, behind it one behind it. -/
import Derived.Test.YtcjnficcggjeiaaDoorErsWalkP
set_option linter.unusedVariables false
set_option linter.unusedSimpArgs false
namespace Go.Proofs.YtcjnficcggjeiaaDoor
open Go.RowKit Go.Shelf
namespace Ers
theorem end_bd {l : List Rule} (hA : Rul.allB l = true) {x : Era} (hx : Src.eraB x = true) : -9100000000000 ≤ endD l x ∧ endD l x ≤ 9100000000000 := by
  obtain ⟨o1, o2, -, -, he⟩ := era_parts hx
  obtain ⟨b1, b2⟩ := ahead_bd hA hx
  have hy : x.y ≤ 9999 := by rcases he with ⟨-, -, h, -⟩ | ⟨-, h, -⟩ <;> omega
  obtain ⟨l1, l2⟩ := loc_bd x.m x.k x.wd x.d x.t x.r x.y hy
  unfold endD
  have e : locD x = locV x.m x.k x.wd x.d x.t x.r x.y := rfl
  split
  · omega
  · split <;> omega
theorem at_first {l : List Rule} {t : Int} {es : List Era} {j : Nat} (hj : j < es.length) (h1 : es[j].til = false ∨ t < endD l es[j]) (h2 : ∀ i (hi : i < j), es[i].til = true ∧ endD l es[i] ≤ t) : atD l t es = some es[j] := by
  have : ∀ i, i ≤ j → atD l t es = atD l t (es.drop i) := by
    intro i
    induction i with
    | zero => intro _; rfl
    | succ i ih =>
      intro hi
      rw [ih (by omega), at_drop l t es i (by omega)]
      obtain ⟨a, b⟩ := h2 i (by omega)
      rw [if_neg]
      rintro (h | h)
      · rw [a] at h; cases h
      · omega
  rw [this j (Nat.le_refl _), at_drop l t es j hj, if_pos h1]
/-- Ends that rise. -/
def Rises (l : List Rule) (es : List Era) (n : Nat) : Prop := ∀ i (h : i + 1 < es.length), i < n → es[i + 1].til = true → endD l es[i] < endD l es[i + 1]
theorem rises_le {l : List Rule} {es : List Era} (hEB : Src.erasB es = true) {n : Nat} (hr : Rises l es n) (k : Nat) (hk : k + 1 < es.length) (hn : k ≤ n) : ∀ i (hi : i ≤ k), endD l es[i] ≤ endD l es[k] := by
  have : ∀ d i, i + d = k → ∀ h : i < es.length, endD l es[i] ≤ endD l es[k] := by
    intro d
    induction d with
    | zero => intro i hi h; obtain rfl : i = k := by omega
              exact Int.le_refl _
    | succ d ih =>
      intro i hi h
      have h1 := ih (i + 1) (by omega) (by omega)
      have h2 := hr i (by omega) (by omega) (by rw [last_till hEB (i + 1) (by omega)]; simp; omega)
      omega
  intro i hi
  exact this (k - i) i (by omega) (by omega)
theorem at_hold {l : List Rule} {es : List Era} (hEB : Src.erasB es = true) (hr : Rises l es es.length) (k : Nat) (hk : k + 1 < es.length) : atD l (endD l es[k] - 1) es = some es[k] ∧ atD l (endD l es[k]) es = some es[k + 1] := by
  have hle := rises_le hEB hr k hk (by omega)
  have til : ∀ i (h : i ≤ k), es[i].til = true := fun i h => by rw [last_till hEB i (by omega)]; simp; omega
  constructor
  · refine at_first (by omega) (.inr (by omega)) (fun i hi => ⟨til i (by omega), ?_⟩)
    have h1 := hr i (by omega) (by omega) (til (i + 1) (by omega))
    have h2 := hle (i + 1) (by omega)
    omega
  · refine at_first hk ?_ (fun i hi => ⟨til i (by omega), hle i (by omega)⟩)
    cases ht : es[k + 1].til
    · exact .inl rfl
    · exact .inr (hr k hk (by omega) ht)
end Ers
theorem pickE_at {s : Source} {k : Nat} {z : Zone} (hp : pickZ s k = some z) (i : Int) : pickE s k i = if 0 ≤ i then z.es[i.toNat]? else none := by
  unfold pickE; rw [hp]
theorem atO_at {s : Source} {k t : Int} {z : Zone} (hp : pickZ s k = some z) : atO s k t = (Ers.atD s.rules t z.es).map (fun x => Ers.phaseD s.rules x t) := by
  unfold atO; rw [hp]
theorem esum_ge {l : List Zone} {z : Zone} (h : z ∈ l) : z.es.length ≤ esum l := by
  induction l with
  | nil => cases h
  | cons x l ih =>
    simp only [esum]
    rcases List.mem_cons.1 h with rfl | h
    · omega
    · have := ih h; omega
/-- Of a source that may be, ends rise. -/
def RiseIf (s : Source) (l : List Rule) (es : List Era) (n : Nat) : Prop := Src.srcB s = true → Ers.Rises l es n
theorem phO_some (p : Phase) : phO (some p) = .tuple #[.agg #[.int .i64 p.off, .int .i64 p.s, .string p.ab], .bool true] := rfl
theorem endO_no (l : List Rule) : endO l none = .tuple #[.int .i64 0, .bool false] := rfl
theorem endO_yes {l : List Rule} {x : Era} (h : x.til = true) : endO l (some x) = .tuple #[.int .i64 (Ers.endD l x), .bool true] := by
  show endV l x = _; unfold endV; rw [if_pos h]
theorem endO_last {l : List Rule} {x : Era} (h : x.til = false) : endO l (some x) = .tuple #[.int .i64 0, .bool false] := by
  show endV l x = _; unfold endV; rw [if_neg (by rw [h]; simp)]
set_option maxRecDepth 100000 in
set_option maxHeartbeats 2000000 in
theorem holdlaw_any (s : Source) (hf : fits s) (zone era : Int) (e1 : -9223372036854775808 ≤ era) (e2 : era ≤ 9223372036854775807) (v : Value) (w : World) (hM : MaxL w) (hr : ReadsS w v s) :
    Rets Tryd.prog 5 #[v, .int .i64 zone, .int .i64 era] w (.bool true) := by
  have HG := fun w h => Lib.hid (great_any s v w h)
  have HA := fun w h => Lib.hid (ealive_any w h)
  have HE0 := fun (h9 : s.rules.length ≤ 1000) i w hm hr => Lib.hid (eEnd_any s hf v w hm hr h9 zone i)
  have HPt := fun t a1 a2 w hm hr => Lib.hid (eAt_any s hf v w hm hr zone t a1 a2)
  have HPp := fun (h9 : s.rules.length ≤ 1000) i t a1 a2 w hm hr => Lib.hid (ePhase_any s hf v w hm hr h9 zone i t a1 a2)
  have hr0 := Lib.hid hr
  have hr00 := hr
  obtain ⟨vr, vz, vl, rfl, hr1, hr2, hr3⟩ := hr
  obtain ⟨zp, hzp, hz2, hz3⟩ := hr2
  obtain ⟨nz, hnz⟩ : ∃ n, s.zones.length = n := ⟨_, rfl⟩
  rw [hnz] at hz2
  obtain ⟨ar, cr, rfl⟩ := shape_of hr1
  obtain ⟨az, cz, rfl⟩ := shape_of hz2
  obtain ⟨al, cl, rfl⟩ := shape_of hr3
  have b2 := len_of hz2
  unfold Rets
  cases hg : greatB s
  case true =>
    rw [hg] at HG
    clear hr1 hr3 hz2 hz3 hnz hzp hr00 HE0 HPt HPp
    generalize s.rules.length = nr at *
    generalize s.links.length = nl at *
    go_enter Tryd.func5, Tryd.ntmps5
    go_wp2_with (first | (go_at_call 9; refine Rets.use (HG _ (hr0.out.ext isext)).out ?_; intro _) | (go_at_call 6; refine Rets.use (HA _ (hM.ext isext)).out ?_; intro _))
    go_ret
    exact ⟨rfl, done⟩
  case false =>
    rw [hg] at HG
    obtain ⟨h9, -, -, hsum⟩ := great_no hg
    by_cases hz0 : zone < 0
    · clear hr1 hr3 hz2 hz3 hnz hzp hr00 h9 hsum HE0 HPt HPp
      generalize s.rules.length = nr at *
      generalize s.links.length = nl at *
      go_enter Tryd.func5, Tryd.ntmps5
      go_wp2_with (first | (go_at_call 9; refine Rets.use (HG _ (hr0.out.ext isext)).out ?_; intro _) | (go_at_call 6; refine Rets.use (HA _ (hM.ext isext)).out ?_; intro _))
      go_ret
      exact ⟨rfl, done⟩
    by_cases hz1 : (nz : Int) ≤ zone
    · have g0 : decide (zone < 0) = false := decide_eq_false hz0
      clear hr1 hr3 hz2 hz3 hnz hzp hr00 h9 hsum hz0 HE0 HPt HPp
      generalize s.rules.length = nr at *
      generalize s.links.length = nl at *
      go_enter Tryd.func5, Tryd.ntmps5
      go_wp2_with (first | (go_at_call 9; refine Rets.use (HG _ (hr0.out.ext isext)).out ?_; intro _) | (go_at_call 6; refine Rets.use (HA _ (hM.ext isext)).out ?_; intro _))
      go_ret
      exact ⟨rfl, done⟩
    obtain ⟨k, rfl⟩ : ∃ k : Nat, zone = k := ⟨zone.toNat, by omega⟩
    have hknz : k < nz := by omega
    have g0 : decide ((k : Int) < 0) = false := decide_eq_false hz0
    have g1 : decide ((nz : Int) ≤ k) = false := decide_eq_false hz1
    have g1n : decide (nz ≤ k) = false := decide_eq_false (by omega)
    have hk : k < s.zones.length := by omega
    have hjp : k < zp.length := by have := congrArg List.length hzp; rw [List.length_map] at this; omega
    have hz1' : zp[k].1 = s.zones[k] := by
      have : (zp.map (·.1))[k]'(by rw [List.length_map]; exact hjp) = s.zones[k] := by simp only [hzp]
      rwa [List.getElem_map] at this
    have hpz : Src.srcB s = true → pickZ s k = some s.zones[k] := fun h => by
      unfold pickZ
      rw [if_pos ⟨h, by omega⟩, Int.toNat_natCast, List.getElem?_eq_getElem hk]
    have hpn : Src.srcB s = false → ∀ i, pickE s k i = none := fun h i => by
      unfold pickE pickZ
      rw [if_neg (by rw [h]; simp)]
    have HE0 := HE0 (by omega)
    have HPp := HPp (by omega)
    rcases hz2 with ⟨_, _, e9, h9', _⟩ | ⟨b, o, c9, e9, k1, k2, m1, hc⟩
    · exact absurd h9' (by omega)
    injection e9 with e9 e8 e7
    subst e9
    clear e8 e7
    haveI : InW b w := ⟨m1⟩
    obtain ⟨c0, c1⟩ := zone_at hc k hjp
    clear hc
    have hre := hz3 zp[k] (List.getElem_mem hjp)
    rw [hz1'] at c0 hre
    have hzo : ∀ z, pickZ s k = some z → Src.erasB z.es = true := fun z h => (zone_of h).2.2.1
    have hesl : s.zones[k].es.length ≤ 100 := Nat.le_trans (esum_ge (List.getElem_mem hk)) hsum
    clear hsum
    generalize zp[k].2 = V at *
    generalize s.zones[k] = z at *
    clear hz1' hz3 hzp hk hnz hjp hz0 hz1
    obtain ⟨nm, es⟩ := z
    simp only at c0 hre
    obtain ⟨ne, hne⟩ : ∃ n, es.length = n := ⟨_, rfl⟩
    simp only at hesl
    rw [hne] at hre hesl
    obtain ⟨ae, ce, rfl⟩ := shape_of hre
    have Hne := Lib.hid hne
    clear hre hne hr1 hr3 hr00
    have HSR := @src_rules s
    generalize s.rules.length = nr at *
    generalize s.links.length = nl at *
    generalize hrl : s.rules = rl at *
    have Hrl := Lib.hid hrl
    have Hpz := Lib.hid hpz
    have Hpn := Lib.hid hpn
    have Hzo := Lib.hid hzo
    have HSR' := Lib.hid HSR
    clear hpz hpn hzo hrl hg HSR
    go_enter Tryd.func5, Tryd.ntmps5
    go_wp2_with (go_at_call 9; refine Rets.use (HG _ (hr0.out.ext isext)).out ?_; intro y1)
    go_loopw [7] (fun iv wr => ∃ j : Nat, j ≤ ne ∧ iv = .int .i64 j ∧ Hid (RiseIf s rl es j) ∧ Ext y1.x wr) (fun iv _ => ne - (intOf iv).toNat)
    case atStart => exact ⟨0, by omega, rfl, fun _ i _ h => by omega, isext⟩
    case round =>
      obtain ⟨j, j1, rfl, Ha, hx⟩ := hrel
      obtain ⟨y2, rfl⟩ := fin hx
      clear hx
      by_cases hlt : j + 1 < ne
      · have g2 : (j : Int) + 1 < ne := by omega
        have HEa := HE0 (j : Int)
        have HEb := HE0 ((j : Int) + 1)
        cases hS : Src.srcB s
        · rw [Hpn.out hS, endO_no] at HEa HEb
          clear HE0 HPt HPp Ha hS
          go_wp2_with fail
          go_at_call 12
          refine Rets.use (HEa _ (hM.ext isext) (hr0.out.ext isext)).out ?_
          intro y3
          go_wp2_with fail
          go_at_call 12
          refine Rets.use (HEb _ (hM.ext isext) (hr0.out.ext isext)).out ?_
          intro y4
          go_wp2_with (go_at_call 6; refine Rets.use (HA _ (hM.ext isext)).out ?_; intro _)
          go_ret
          exact ⟨rfl, done⟩
        · have hz := Hpz.out hS
          have hEB := Hzo.out _ hz
          have hjl : j < es.length := by rw [Hne.out]; omega
          have hjl1 : j + 1 < es.length := by rw [Hne.out]; omega
          have htl := Ers.last_till hEB j hjl
          rw [pickE_at hz, if_pos (by omega), Int.toNat_natCast] at HEa
          rw [pickE_at hz, if_pos (by omega), show ((j : Int) + 1).toNat = j + 1 by omega] at HEb
          simp only [List.getElem?_eq_getElem hjl, List.getElem?_eq_getElem hjl1] at HEa HEb
          rw [endO_yes (by rw [htl]; simp; omega)] at HEa
          have hrise : (es[j + 1].til = true → Ers.endD rl es[j] < Ers.endD rl es[j + 1]) → Hid (RiseIf s rl es (j + 1)) := fun h hs i hi hij ht => by
            by_cases e : i = j
            · subst e; exact h ht
            · exact Ha.out hs i hi (by omega) ht
          cases ht : es[j + 1].til
          · rw [endO_last ht] at HEb
            have E := hrise (fun h => by rw [ht] at h; cases h)
            generalize Ers.endD rl es[j] = N at *
            clear HE0 HPt HPp Ha hS hrise htl ht hz hEB hjl hjl1
            go_wp2_with fail
            go_at_call 12
            refine Rets.use (HEa _ (hM.ext isext) (hr0.out.ext isext)).out ?_
            intro y3
            go_wp2_with fail
            go_at_call 12
            refine Rets.use (HEb _ (hM.ext isext) (hr0.out.ext isext)).out ?_
            intro y4
            go_wp2
            go_roundw
            case rel => exact ⟨j + 1, by omega, by go_num, E, isext⟩
            case measure => simp [intOf]; omega
          · rw [endO_yes ht] at HEb
            by_cases hlN : Ers.endD rl es[j + 1] ≤ Ers.endD rl es[j]
            · generalize Ers.endD rl es[j] = N at *
              generalize Ers.endD rl es[j + 1] = N1 at *
              clear HE0 HPt HPp Ha hS hrise htl ht hz hEB hjl hjl1
              go_wp2_with fail
              go_at_call 12
              refine Rets.use (HEa _ (hM.ext isext) (hr0.out.ext isext)).out ?_
              intro y3
              go_wp2_with fail
              go_at_call 12
              refine Rets.use (HEb _ (hM.ext isext) (hr0.out.ext isext)).out ?_
              intro y4
              go_wp2_with (go_at_call 6; refine Rets.use (HA _ (hM.ext isext)).out ?_; intro _)
              go_ret
              exact ⟨rfl, done⟩
            · have E := hrise (fun _ => by omega)
              generalize Ers.endD rl es[j] = N at *
              generalize Ers.endD rl es[j + 1] = N1 at *
              have g3 : decide (N1 ≤ N) = false := decide_eq_false hlN
              clear HE0 HPt HPp Ha hS hrise htl ht hz hEB hjl hjl1 hlN
              go_wp2_with fail
              go_at_call 12
              refine Rets.use (HEa _ (hM.ext isext) (hr0.out.ext isext)).out ?_
              intro y3
              go_wp2_with fail
              go_at_call 12
              refine Rets.use (HEb _ (hM.ext isext) (hr0.out.ext isext)).out ?_
              intro y4
              go_wp2
              go_roundw
              case rel => exact ⟨j + 1, by omega, by go_num, E, isext⟩
              case measure => simp [intOf]; omega
      · have g2 : decide ((j : Int) + 1 < ne) = false := decide_eq_false (by omega)
        have HEe := HE0 era
        have hcs : endO rl (pickE s k era) = .tuple #[.int .i64 0, .bool false] ∨ (Src.srcB s = true ∧ ∃ i : Nat, era = i ∧ ∃ h : i + 1 < es.length, endO rl (pickE s k era) = .tuple #[.int .i64 (Ers.endD rl es[i]), .bool true]) := by
          cases hS : Src.srcB s
          · left; rw [Hpn.out hS, endO_no]
          · have hz := Hpz.out hS
            have hEB := Hzo.out _ hz
            rw [pickE_at hz]
            by_cases h0 : 0 ≤ era
            · rw [if_pos h0]
              by_cases h1 : era.toNat < es.length
              · simp only [List.getElem?_eq_getElem h1]
                have htl := Ers.last_till hEB era.toNat h1
                by_cases h2 : era.toNat + 1 < es.length
                · right
                  exact ⟨by first | exact hS | trivial | rfl, era.toNat, by omega, h2, endO_yes (by rw [htl]; simp; omega)⟩
                · left; exact endO_last (by rw [htl]; simp; omega)
              · left
                rw [List.getElem?_eq_none (by show es.length ≤ _; omega)]; rfl
            · left; rw [if_neg h0]; rfl
        rcases hcs with h | ⟨hS, i, rfl, hi, h⟩
        · rw [h] at HEe
          clear HE0 HPt HPp Ha h
          go_wp2_with (first | (go_at_call 12; refine Rets.use (HEe _ (hM.ext isext) (hr0.out.ext isext)).out ?_; intro _) | (go_at_call 6; refine Rets.use (HA _ (hM.ext isext)).out ?_; intro _))
          go_ret
          exact ⟨rfl, done⟩
        · rw [h] at HEe
          have hz := Hpz.out hS
          have hEB := Hzo.out _ hz
          obtain ⟨n1, n2⟩ := Ers.end_bd (HSR'.out hS).1 (Ers.era_all hEB es[i] (List.getElem_mem _))
          have hris : Ers.Rises rl es es.length := fun q hq _ ht => Ha.out hS q hq (by have := Hne.out; omega) ht
          obtain ⟨t1, t2⟩ := Ers.at_hold hEB hris i hi
          have HP1 := HPt (Ers.endD rl es[i] - 1) (by omega) (by omega)
          have HP2 := HPt (Ers.endD rl es[i]) (by omega) (by omega)
          have HQ1 := HPp (i : Int) (Ers.endD rl es[i] - 1) (by omega) (by omega)
          have HQ2 := HPp ((i : Int) + 1) (Ers.endD rl es[i]) (by omega) (by omega)
          rw [atO_at hz, Hrl.out] at HP1 HP2
          rw [pickE_at hz, if_pos (by omega), Int.toNat_natCast] at HQ1
          rw [pickE_at hz, if_pos (by omega), show ((i : Int) + 1).toNat = i + 1 by omega] at HQ2
          simp only [List.getElem?_eq_getElem (show i < es.length by omega), List.getElem?_eq_getElem hi] at HQ1 HQ2
          simp only [t1, Option.map_some, phO_some] at HP1 HQ1
          simp only [t2, Option.map_some, phO_some] at HP2 HQ2
          generalize Ers.phaseD rl es[i] (Ers.endD rl es[i] - 1) = P1 at *
          generalize Ers.phaseD rl es[i + 1] (Ers.endD rl es[i]) = P2 at *
          generalize Ers.endD rl es[i] = N at *
          obtain ⟨po, ps, pa⟩ := P1
          obtain ⟨qo, qs, qa⟩ := P2
          have hi100 : i ≤ 100 := by have := Hne.out; omega
          clear HE0 HPt HPp Ha h hz hEB hris t1 t2 hS hi
          go_wp2_with fail
          go_at_call 12
          refine Rets.use (HEe _ (hM.ext isext) (hr0.out.ext isext)).out ?_
          intro y3
          go_wp2_with fail
          go_at_call 10
          refine Rets.use (HP1 _ (hM.ext isext) (hr0.out.ext isext)).out ?_
          intro y4
          go_wp2_with fail
          go_at_call 10
          refine Rets.use (HP2 _ (hM.ext isext) (hr0.out.ext isext)).out ?_
          intro y5
          go_wp2_with fail
          go_at_call 13
          refine Rets.use (HQ1 _ (hM.ext isext) (hr0.out.ext isext)).out ?_
          intro y6
          go_wp2_with fail
          go_at_call 13
          refine Rets.use (HQ2 _ (hM.ext isext) (hr0.out.ext isext)).out ?_
          intro y7
          go_wp2_with (go_at_call 6; refine Rets.use (HA _ (hM.ext isext)).out ?_; intro _)
          go_ret
          exact ⟨ret_bool (by simp), done⟩
theorem holdlaw_row (s : Source) (v : Value) (zone era : Int) (_ : (Lit.int .i64 zone).wf = true) (he : (Lit.int .i64 era).wf = true) (w : World) (hr : ReadsS w v s) (hf : fits s) (hM : MaxL w) :
    Rets Tryd.prog 5 #[v, .int .i64 zone, .int .i64 era] w (.bool true) :=
  holdlaw_any s hf zone era (i64_in he).1 (i64_in he).2 v w hM hr
end Go.Proofs.YtcjnficcggjeiaaDoor
