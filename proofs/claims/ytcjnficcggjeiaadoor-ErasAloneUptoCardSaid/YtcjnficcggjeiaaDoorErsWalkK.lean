/- Walks of eras: which era is meant; when it ends; its phase. -/
import Derived.Test.YtcjnficcggjeiaaDoorErsWalkI
import Derived.Test.YtcjnficcggjeiaaDoorTail
set_option linter.unusedVariables false
set_option linter.unusedSimpArgs false
namespace Go.Proofs.YtcjnficcggjeiaaDoor
open Go.RowKit Go.Shelf

theorem wp_region_past_tail1 {P : Program} {id : Nat} {Q : Exit → Act → World → Prop} {a : Act} {w : World} {y : Past w} {l : List Oper} (n : Nat) (hm : P.follows .mixedOrders = true) (hB : Region.lexTailB .any l.toArray n = true)
    (h : wpQuiet P l.toArray (fun w' => ∃ y : Past w, w' = y.x) (fun a' => ∀ y : Past w, wpList P l.toArray Q (l.drop n) a' y.x) (l.take n) a) : (Code.region id l.toArray true).wp P Q a y.x := by
  refine wp_region_tail n (fun w' => ∃ y : Past w, w' = y.x) hm hB ⟨⟨y.x.drew, Ext.drew y.hb⟩, rfl⟩ ?_
  have hq : (fun a' => ∀ y : Past w, wpList P l.toArray Q (l.drop n) a' y.x) = (fun a' => ∀ w', (∃ y : Past w, w' = y.x) → wpList P l.toArray Q (l.drop n) a' w') := by
    funext a'
    apply propext
    constructor
    · rintro h _ ⟨y, rfl⟩; exact h y
    · intro h y; exact h _ ⟨y, rfl⟩
  rw [← hq]
  exact h
def noEra : Era := ⟨0, 0, 0, ⟨#[]⟩, ⟨#[]⟩, false, 0, 0, 0, 0, 0, 0, 0⟩
/-- The era that is meant. -/
def pickZ (s : Source) (zone : Int) : Option Zone := if Src.srcB s = true ∧ 0 ≤ zone then s.zones[zone.toNat]? else none
def pickE (s : Source) (zone at0 : Int) : Option Era := match pickZ s zone with
  | none => none
  | some z => if 0 ≤ at0 then z.es[at0.toNat]? else none
theorem pickZ_cases (s : Source) (zone : Int) (nz : Nat) (hn : s.zones.length = nz) : (Src.srcB s = false ∧ pickZ s zone = none) ∨ (Src.srcB s = true ∧ zone < 0 ∧ pickZ s zone = none) ∨ (Src.srcB s = true ∧ decide (zone < 0) = false ∧ (nz : Int) ≤ zone ∧ pickZ s zone = none) ∨
    (Src.srcB s = true ∧ ∃ (k : Nat) (h : k < s.zones.length), zone = k ∧ decide ((k : Int) < 0) = false ∧ decide ((nz : Int) ≤ k) = false ∧ pickZ s zone = some s.zones[k]) := by
  unfold pickZ
  cases hs : Src.srcB s
  · exact .inl ⟨rfl, by simp⟩
  · right
    by_cases h1 : zone < 0
    · exact .inl ⟨rfl, h1, by rw [if_neg (by omega)]⟩
    · right
      by_cases h2 : (nz : Int) ≤ zone
      · refine .inl ⟨rfl, decide_eq_false h1, h2, ?_⟩
        rw [if_pos ⟨rfl, by omega⟩, List.getElem?_eq_none (by omega)]
      · refine .inr ⟨rfl, zone.toNat, by omega, by omega, decide_eq_false (by omega), decide_eq_false (by omega), ?_⟩
        rw [if_pos ⟨rfl, by omega⟩, List.getElem?_eq_getElem (by omega)]
theorem pickE_cases (es : List Era) (at0 : Int) (ne : Nat) (hn : es.length = ne) (o : Option Era) (ho : o = if 0 ≤ at0 then es[at0.toNat]? else none) : (at0 < 0 ∧ o = none) ∨ (decide (at0 < 0) = false ∧ (ne : Int) ≤ at0 ∧ o = none) ∨
    (∃ (k : Nat) (h : k < es.length), at0 = k ∧ decide ((k : Int) < 0) = false ∧ decide ((ne : Int) ≤ k) = false ∧ o = some es[k]) := by
  by_cases h1 : at0 < 0
  · exact .inl ⟨h1, by rw [ho, if_neg (by omega)]⟩
  · right
    by_cases h2 : (ne : Int) ≤ at0
    · refine .inl ⟨decide_eq_false h1, h2, ?_⟩
      rw [ho, if_pos (by omega), List.getElem?_eq_none (by omega)]
    · refine .inr ⟨at0.toNat, by omega, by omega, decide_eq_false (by omega), decide_eq_false (by omega), ?_⟩
      rw [ho, if_pos (by omega), List.getElem?_eq_getElem (by omega)]
def FindEnd (w : World) (l : List Rule) (o : Option Era) (e : Ending) (w' : World) : Prop := match o with
  | none => e = .returned (.tuple #[eraxV noEra (.slice none 0 0), .bool false]) ∧ ∃ y : Past w, w' = y.x
  | some x => ∃ (sv : Value) (y : Past w), e = .returned (.tuple #[eraxV x sv, .bool true]) ∧ HasSet y.x l x sv ∧ w' = y.x
theorem findEnd_no {w w' : World} {l : List Rule} {o : Option Era} (ho : o = none) (hx : Ext w w') : FindEnd w l o (.returned (.tuple #[eraxV noEra (.slice none 0 0), .bool false])) w' := by
  subst ho; exact ⟨rfl, ⟨w', hx⟩, rfl⟩
theorem findEnd_yes {w w' : World} {l : List Rule} {o : Option Era} {x : Era} {sv : Value} (ho : o = some x) (hx : Ext w w') (h : HasSet w' l x sv) : FindEnd w l o (.returned (.tuple #[eraxV x sv, .bool true])) w' := by
  subst ho; exact ⟨sv, ⟨w', hx⟩, rfl, h, rfl⟩
theorem HasSet.set {w : World} (y : Past w) {l : List Rule} {x : Era} {sv : Value} {N : Nat} (k i : Nat) (u : Value) [InW k w] (h : HasSet y.x l x sv) (ha : Apart sv N) (hk : k < N) : HasSet (y.set k i u).x l x sv :=
  ⟨h.1, fun hh => by obtain ⟨n, h1, h2⟩ := h.2 hh; exact ⟨n, h1, reads_set y k i u h2 ha hk⟩⟩
set_option maxRecDepth 100000 in
set_option maxHeartbeats 16000000 in
theorem efind_any (s : Source) (hf : fits s) (v : Value) (w : World) (hM : MaxL w) (hr : ReadsS w v s) (h9 : s.rules.length ≤ 1000) (zone at0 : Int) :
    Calls Tryd.prog 27 #[v, .int .i64 zone, .int .i64 at0] w (FindEnd w s.rules (pickE s zone at0)) := by
  have HRt := fun w h1 h2 => Lib.hid (sright_any s hf v w h1 h2)
  have HO := fun (x : Era) w h => Lib.hid (eof_any s x v w h h9)
  have HN : ∀ w', pickE s zone at0 = none → Ext w w' → Hid (FindEnd w s.rules (pickE s zone at0) (.returned (.tuple #[eraxV noEra (.slice none 0 0), .bool false])) w') := fun w' h1 h2 => findEnd_no h1 h2
  have HY : ∀ w' x sv, pickE s zone at0 = some x → Ext w w' → HasSet w' s.rules x sv → Hid (FindEnd w s.rules (pickE s zone at0) (.returned (.tuple #[eraxV x sv, .bool true])) w') := fun w' x sv h1 h2 h3 => findEnd_yes h1 h2 h3
  have hr0 := Lib.hid hr
  obtain ⟨vr, vz, vl, rfl, hr1, hr2, hr3⟩ := hr
  obtain ⟨zp, hzp, hz2, hz3⟩ := hr2
  obtain ⟨nz, hnz⟩ : ∃ n, s.zones.length = n := ⟨_, rfl⟩
  rw [hnz] at hz2
  obtain ⟨ar, cr, rfl⟩ := shape_of hr1
  obtain ⟨az, cz, rfl⟩ := shape_of hz2
  obtain ⟨al, cl, rfl⟩ := shape_of hr3
  have b2 := len_of hz2
  have hcs := pickZ_cases s zone nz hnz
  have hpe : pickE s zone at0 = match pickZ s zone with | none => none | some z => if 0 ≤ at0 then z.es[at0.toNat]? else none := rfl
  generalize pickE s zone at0 = PE at *
  generalize pickZ s zone = PZ at *
  generalize s.rules.length = nr at *
  generalize s.links.length = nl at *
  have Hz2 := Lib.hid hz2
  have Hz3 := Lib.hid hz3
  clear hr1 hr3 hz2 hz3
  rcases hcs with ⟨h1, rfl⟩ | ⟨h1, h2, rfl⟩ | ⟨h1, h2, h3, rfl⟩ | ⟨h1, k, hk, rfl, h2, h3, rfl⟩
  case inr.inr.inr =>
    rw [h1] at HRt
    have hjp : k < zp.length := by have := congrArg List.length hzp; rw [List.length_map] at this; omega
    have hz1 : zp[k].1 = s.zones[k] := by
      have : (zp.map (·.1))[k]'(by rw [List.length_map]; exact hjp) = s.zones[k] := by simp only [hzp]
      rwa [List.getElem_map] at this
    have hknz : k < nz := by omega
    rcases Hz2.out with ⟨_, _, e9, h9', _⟩ | ⟨b, o, c9, e9, k1, k2, m1, hc⟩
    · exact absurd h9' (by omega)
    injection e9 with e9 e8 e7
    subst e9
    clear e8 e7
    haveI : InW b w := ⟨m1⟩
    obtain ⟨c0, c1⟩ := zone_at hc k hjp
    clear hc
    have hre := Hz3.out zp[k] (List.getElem_mem hjp)
    rw [hz1] at c0 hre
    simp only at hpe
    generalize zp[k].2 = V at *
    generalize s.zones[k] = z at *
    clear hz1 hzp hk
    obtain ⟨nm, es⟩ := z
    simp only at c0 hre hpe
    obtain ⟨ne, hne⟩ : ∃ n, es.length = n := ⟨_, rfl⟩
    rw [hne] at hre
    obtain ⟨ae, ce, rfl⟩ := shape_of hre
    have b4 := len_of hre
    rcases pickE_cases es at0 ne hne PE hpe with ⟨g1, rfl⟩ | ⟨g1, g2, rfl⟩ | ⟨j, hj, rfl, g1, g2, rfl⟩
    · have HN2 : ∀ w', Ext w w' → Hid (FindEnd w s.rules none (.returned (.tuple #[eraxV noEra (.slice none 0 0), .bool false])) w') := fun w' h => HN w' rfl h
      clear hpe HY HO HN
      go_enter Tryd.func27, Tryd.ntmps27
      go_wp2_with (go_at_call 22; refine Rets.use (HRt _ (hM.ext isext) (hr0.out.ext isext)).out ?_; intro _)
      refine bodyPost_ret (v := .tuple #[eraxV noEra (.slice none 0 0), .bool false]) ?_ rfl (HN2 _ isext).out
      simp [results, Tryd.f27, go_sem, noEra]
    · have HN2 : ∀ w', Ext w w' → Hid (FindEnd w s.rules none (.returned (.tuple #[eraxV noEra (.slice none 0 0), .bool false])) w') := fun w' h => HN w' rfl h
      clear hpe HY HO HN
      go_enter Tryd.func27, Tryd.ntmps27
      go_wp2_with (go_at_call 22; refine Rets.use (HRt _ (hM.ext isext) (hr0.out.ext isext)).out ?_; intro _)
      refine bodyPost_ret (v := .tuple #[eraxV noEra (.slice none 0 0), .bool false]) ?_ rfl (HN2 _ isext).out
      simp [results, Tryd.f27, go_sem, noEra]
    · have hjne : j < ne := by omega
      rcases hre with ⟨_, _, e9, h9', _⟩ | ⟨be, oe, c9, e9, k3, k4, m2, hc⟩
      · exact absurd h9' (by omega)
      injection e9 with e9 e8 e7
      subst e9
      clear e8 e7
      haveI : InW be w := ⟨m2⟩
      obtain ⟨d0, d1, d2, d3, d4, d5, d6, d7, d8, d9, d10, d11, d12⟩ := era_at hc j hj
      clear hc hpe
      have HY := fun w' sv => HY w' es[j] sv rfl
      have HOx := HO es[j]
      generalize es[j] = x at *
      obtain ⟨off, kd, sa, rs, fm, til, y, m, kk, wd, d, t, r⟩ := x
      simp only at d0 d1 d2 d3 d4 d5 d6 d7 d8 d9 d10 d11 d12
      clear HN HO hne hnz hj
      go_enter Tryd.func27, Tryd.ntmps27
      go_wp2_with (go_at_call 22; refine Rets.use (HRt _ (hM.ext isext) (hr0.out.ext isext)).out ?_; intro y1)
      refine wp_region_past_tail1 10 (by kernel_rfl) (by kernel_rfl) ?_
      simp only [List.take_succ_cons, List.take_zero, List.drop_succ_cons, List.drop_zero]
      repeat (go_big_quiet_step (fail))
      refine wpQuiet_nil ?_
      intro y2
      go_wp2_with fail
      go_at_call 23
      refine (HOx _ (hr0.out.ext isext)).out.mono ?_
      rintro e w' ⟨sv, y3, rfl, hv, hap, rfl⟩
      obtain ⟨⟨a1, n1, c1', rfl⟩, -⟩ := id hv
      have Hv := Lib.hid hv
      have Ha := Lib.hid hap
      clear hv hap
      go_wp2
      refine bodyPost_ret (v := .tuple #[eraxV ⟨off, kd, sa, rs, fm, til, y, m, kk, wd, d, t, r⟩ (.slice a1 n1 c1'), .bool true]) ?_ rfl (HY _ _ isext ?_).out
      · simp [results, Tryd.f27, go_sem]
      · have hle : w.heap.size + 2 ≤ y2.x.heap.size := by
          have := Past.le y2
          simp only [World.size_alloc] at this
          exact this
        have Ha2 := Ha.out
        repeat refine HasSet.set _ _ _ _ ?_ Ha2 (by omega)
        exact Hv.out
  all_goals
    have HN := fun w' => HN w' hpe
    clear hpe HY HO hzp
    rw [h1] at HRt
    go_enter Tryd.func27, Tryd.ntmps27
    go_wp2_with (go_at_call 22; refine Rets.use (HRt _ (hM.ext isext) (hr0.out.ext isext)).out ?_; intro _)
    refine bodyPost_ret (v := .tuple #[eraxV noEra (.slice none 0 0), .bool false]) ?_ rfl (HN _ isext).out
    simp [results, Tryd.f27, go_sem, noEra]
end Go.Proofs.YtcjnficcggjeiaaDoor
set_option linter.unusedVariables false
set_option linter.unusedSimpArgs false
namespace Go.Proofs.YtcjnficcggjeiaaDoor
open Go.RowKit Go.Shelf

theorem zone_of {s : Source} {zone : Int} {z : Zone} (h : pickZ s zone = some z) : Src.srcB s = true ∧ z ∈ s.zones ∧ Src.erasB z.es = true ∧ z.es ≠ [] := by
  unfold pickZ at h
  split at h
  · rename_i hc
    have hz : z ∈ s.zones := List.mem_of_getElem? h
    have hb := hc.1
    unfold Src.srcB at hb
    simp only [Bool.and_eq_true] at hb
    have := List.all_eq_true.1 hb.2.2.1 z hz
    unfold Src.zoneB at this
    simp only [Bool.and_eq_true, decide_eq_true_eq] at this
    exact ⟨hc.1, hz, this.2, fun e => by have := this.1.2.1; rw [e] at this; simp at this⟩
  · cases h
theorem src_rules {s : Source} (h : Src.srcB s = true) : Rul.allB s.rules = true ∧ (∀ x ∈ s.rules, Src.letterB x.l.data.toList = true) ∧ s.rules.length ≤ 1000 := by
  refine ⟨Src.rules_ok h, ?_, ?_⟩
  · unfold Src.srcB at h
    simp only [Bool.and_eq_true] at h
    intro x hx
    have := List.all_eq_true.1 h.2.1 x hx
    unfold Src.ruleB at this
    simp only [Bool.and_eq_true] at this
    exact this.2
  · unfold Src.srcB Src.lensB at h
    simp only [Bool.and_eq_true, decide_eq_true_eq] at h
    omega
theorem era_of {s : Source} {zone at0 : Int} {x : Era} (h : pickE s zone at0 = some x) : Src.srcB s = true ∧ Src.eraB x = true := by
  unfold pickE at h
  cases hz : pickZ s zone with
  | none => rw [hz] at h; cases h
  | some z =>
    rw [hz] at h
    simp only at h
    split at h
    · obtain ⟨h1, -, h3, -⟩ := zone_of hz
      exact ⟨h1, Ers.era_all h3 x (List.mem_of_getElem? h)⟩
    · cases h
def endO (l : List Rule) : Option Era → Value
  | none => .tuple #[.int .i64 0, .bool false]
  | some x => endV l x
set_option maxRecDepth 100000 in
set_option maxHeartbeats 8000000 in
theorem eEnd_any (s : Source) (hf : fits s) (v : Value) (w : World) (hM : MaxL w) (hr : ReadsS w v s) (h9 : s.rules.length ≤ 1000) (zone at0 : Int) :
    Rets Tryd.prog 12 #[v, .int .i64 zone, .int .i64 at0] w (endO s.rules (pickE s zone at0)) := by
  have HF := fun w h1 h2 => Lib.hid (efind_any s hf v w h1 h2 h9 zone at0)
  have HE := fun (x : Era) (hx : pickE s zone at0 = some x) sv w hs => Lib.hid (eend_any s.rules (src_rules (era_of hx).1).1 x (era_of hx).2 sv w hs)
  have hr0 := Lib.hid hr
  obtain ⟨vr, vz, vl, rfl, hr1, hr2, hr3⟩ := hr
  cases hp : pickE s zone at0 with
  | none =>
    rw [hp] at HF
    clear HE hr1 hr2 hr3 hp
    show Rets _ _ _ _ (.tuple #[.int .i64 0, .bool false])
    unfold Rets
    go_enter Tryd.func12, Tryd.ntmps12
    go_wp2_with fail
    go_at_call 27
    refine (HF _ (hM.ext isext) (hr0.out.ext isext)).out.mono ?_
    rintro e w' ⟨rfl, y1, rfl⟩
    go_wp2
    go_ret2
    exact ⟨rfl, done⟩
  | some x =>
    have HEx := HE x hp
    rw [hp] at HF
    clear HE hr1 hr2 hr3 hp
    show Rets _ _ _ _ (endV s.rules x)
    obtain ⟨a, b, hab⟩ : ∃ a b, endV s.rules x = .tuple #[.int .i64 a, .bool b] := by
      unfold endV; split
      · exact ⟨_, _, rfl⟩
      · exact ⟨_, _, rfl⟩
    rw [hab] at HEx ⊢
    clear hab
    unfold Rets
    go_enter Tryd.func12, Tryd.ntmps12
    go_wp2_with fail
    go_at_call 27
    refine (HF _ (hM.ext isext) (hr0.out.ext isext)).out.mono ?_
    rintro e w' ⟨sv, y1, rfl, hv, rfl⟩
    obtain ⟨⟨a1, n1, c1, rfl⟩, -⟩ := id hv
    have Hv := Lib.hid hv
    clear hv
    obtain ⟨off, kd, sa, rs, fm, til, y, m, k, wd, d, t, r⟩ := x
    go_wp2_with (go_at_call 24; refine Rets.use (HEx _ _ (Hv.out.ext isext)).out ?_; intro _)
    go_ret2
    exact ⟨rfl, done⟩
def noPhase : Phase := ⟨0, 0, ⟨#[]⟩⟩
def phO (p : Option Phase) : Value := match p with
  | none => .tuple #[phV noPhase, .bool false]
  | some p => .tuple #[phV p, .bool true]
set_option maxRecDepth 100000 in
set_option maxHeartbeats 8000000 in
theorem ePhase_any (s : Source) (hf : fits s) (v : Value) (w : World) (hM : MaxL w) (hr : ReadsS w v s) (h9 : s.rules.length ≤ 1000) (zone at0 t : Int) (a1 : -9223372036854775808 ≤ t) (a2 : t ≤ 9223372036854775807) :
    Rets Tryd.prog 13 #[v, .int .i64 zone, .int .i64 at0, .int .i64 t] w (phO ((pickE s zone at0).map (fun x => Ers.phaseD s.rules x t))) := by
  have HF := fun w h1 h2 => Lib.hid (efind_any s hf v w h1 h2 h9 zone at0)
  have HE := fun (x : Era) (hx : pickE s zone at0 = some x) sv w hm hs => Lib.hid (ephase_any (src_rules (era_of hx).1).1 (src_rules (era_of hx).1).2.1 x (era_of hx).2 sv t a1 a2 w hm hs)
  have hr0 := Lib.hid hr
  obtain ⟨vr, vz, vl, rfl, hr1, hr2, hr3⟩ := hr
  cases hp : pickE s zone at0 with
  | none =>
    rw [hp] at HF
    clear HE hr1 hr2 hr3 hp
    show Rets _ _ _ _ (.tuple #[phV noPhase, .bool false])
    unfold Rets
    go_enter Tryd.func13, Tryd.ntmps13
    go_wp2_with fail
    go_at_call 27
    refine (HF _ (hM.ext isext) (hr0.out.ext isext)).out.mono ?_
    rintro e w' ⟨rfl, y1, rfl⟩
    go_wp2
    refine bodyPost_ret (v := .tuple #[phV noPhase, .bool false]) ?_ rfl ⟨rfl, done⟩
    simp [results, Tryd.f13, go_sem, noPhase]
  | some x =>
    have HEx := HE x hp
    rw [hp] at HF
    clear HE hr1 hr2 hr3 hp
    show Rets _ _ _ _ (.tuple #[phV (Ers.phaseD s.rules x t), .bool true])
    generalize Ers.phaseD s.rules x t = ph at *
    obtain ⟨po, ps, pa⟩ := ph
    unfold Rets
    go_enter Tryd.func13, Tryd.ntmps13
    go_wp2_with fail
    go_at_call 27
    refine (HF _ (hM.ext isext) (hr0.out.ext isext)).out.mono ?_
    rintro e w' ⟨sv, y1, rfl, hv, rfl⟩
    obtain ⟨⟨a1, n1, c1, rfl⟩, -⟩ := id hv
    have Hv := Lib.hid hv
    clear hv
    obtain ⟨off, kd, sa, rs, fm, til, y, m, k, wd, d, t', r⟩ := x
    go_wp2_with (go_at_call 25; refine Rets.use (HEx _ _ (hM.ext isext) (Hv.out.ext isext)).out ?_; intro _)
    refine bodyPost_ret (v := .tuple #[phV ⟨po, ps, pa⟩, .bool true]) ?_ rfl ⟨rfl, done⟩
    simp [results, Tryd.f13, go_sem]
end Go.Proofs.YtcjnficcggjeiaaDoor
