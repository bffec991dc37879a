/- The law of eras alone: what a zone tells hangs on its eras, and on the sets that they name, alone. -/
import Derived.Test.YtcjnficcggjeiaaDoorErsWalkS
import Derived.Deep.RegionHeld3
import Derived.Test.YtcjnficcggjeiaaDoorSrcWalkK
set_option linter.unusedVariables false
set_option linter.unusedSimpArgs false
namespace Go.Proofs.YtcjnficcggjeiaaDoor
open Go.RowKit Go.Shelf
namespace Ers
def usedB : List Era → Rule → Bool
  | [], _ => false
  | x :: l, r => (x.rs.data.toList == r.nm.data.toList) || usedB l r
theorem used_drop (l : List Era) (r : Rule) (j : Nat) (h : j < l.length) : usedB (l.drop j) r = ((l[j].rs.data.toList == r.nm.data.toList) || usedB (l.drop (j + 1)) r) := by rw [List.drop_eq_getElem_cons h]; rfl
theorem used_in {l : List Era} {x : Era} {r : Rule} (hx : x ∈ l) (h : (x.rs.data.toList == r.nm.data.toList) = true) : usedB l r = true := by
  induction l with
  | nil => cases hx
  | cons y l ih =>
    unfold usedB
    rcases List.mem_cons.1 hx with rfl | hx
    · rw [h]; rfl
    · rw [ih hx]; simp
theorem set_alone {l : List Rule} {es : List Era} {x : Era} (hx : x ∈ es) : setOf (l.filter (usedB es)) x.rs = setOf l x.rs := by
  unfold setOf
  rw [List.filter_filter]
  refine List.filter_congr fun r _ => ?_
  cases h : (r.nm.data.toList == x.rs.data.toList) with
  | false => simp
  | true =>
    rw [used_in hx (by rw [beq_iff_eq] at h ⊢; exact h.symm)]; rfl
theorem end_alone {l : List Rule} {es : List Era} {x : Era} (hx : x ∈ es) : endD (l.filter (usedB es)) x = endD l x := by
  unfold endD aheadS; rw [set_alone hx]
theorem phase_alone {l : List Rule} {es : List Era} {x : Era} (hx : x ∈ es) (t : Int) : phaseD (l.filter (usedB es)) x t = phaseD l x t := by
  unfold phaseD saveD letD forceT; rw [set_alone hx]
theorem at_alone {l : List Rule} {es : List Era} (t : Int) : ∀ es' : List Era, (∀ x ∈ es', x ∈ es) → atD (l.filter (usedB es)) t es' = atD l t es'
  | [], _ => rfl
  | x :: r, h => by
    unfold atD
    rw [end_alone (h x (by simp)), at_alone t r (fun y hy => h y (by simp [hy]))]
theorem atD_mem {l : List Rule} {t : Int} : ∀ {es : List Era} {x : Era}, atD l t es = some x → x ∈ es
  | [], _, h => by cases h
  | y :: r, x, h => by
    unfold atD at h
    split at h
    · injection h with h; subst h; simp
    · exact List.mem_cons_of_mem _ (atD_mem h)
theorem take_yes {l : List Rule} {es : List Era} {j : Nat} (h : j < l.length) (hu : usedB es l[j] = true) : (l.take (j + 1)).filter (usedB es) = (l.take j).filter (usedB es) ++ [l[j]] := by
  rw [List.take_succ_eq_append_getElem h, List.filter_append]
  congr 1
  exact List.filter_cons_of_pos (l := []) hu
theorem take_no {l : List Rule} {es : List Era} {j : Nat} (h : j < l.length) (hu : usedB es l[j] = false) : (l.take (j + 1)).filter (usedB es) = (l.take j).filter (usedB es) := by
  rw [List.take_succ_eq_append_getElem h, List.filter_append]
  have : List.filter (usedB es) [l[j]] = [] := List.filter_cons_of_neg (l := []) (by rw [hu]; simp)
  rw [this, List.append_nil]
end Ers
/-- A zone alone, with the rules of the sets that its eras name. -/
def aloneS (s : Source) (z : Zone) : Source := ⟨s.rules.filter (Ers.usedB z.es), [z], []⟩
theorem alone_fits {s : Source} {z : Zone} (hf : fits s) (hz : z ∈ s.zones) : fits (aloneS s z) :=
  ⟨fun x hx => hf.1 x (List.mem_filter.1 hx).1, fun y hy => by rw [List.mem_singleton.1 hy]; exact hf.2.1 z hz, fun x hx => by cases hx⟩
theorem alone_right {s : Source} {z : Zone} (hS : Src.srcB s = true) (hz : z ∈ s.zones) : Src.srcB (aloneS s z) = true := by
  unfold Src.srcB Src.lensB at hS ⊢
  simp only [Bool.and_eq_true, decide_eq_true_eq, List.all_eq_true] at hS ⊢
  obtain ⟨⟨a1, a2, a3⟩, b, c, d⟩ := hS
  refine ⟨⟨Nat.le_trans (List.length_filter_le _ _) a1, by show 1 ≤ 50; omega, by show 0 ≤ 100; omega⟩, fun x hx => b x (List.mem_filter.1 hx).1, fun y hy => ?_, fun x hx => by cases hx⟩
  rw [List.mem_singleton.1 hy]; exact c z hz
theorem alone_at {s : Source} {k : Nat} {z : Zone} (hp : pickZ s k = some z) (t : Int) : atO (aloneS s z) 0 t = atO s k t := by
  obtain ⟨hS, hz, -, -⟩ := zone_of hp
  have h0 : pickZ (aloneS s z) 0 = some z := by unfold pickZ; rw [if_pos ⟨alone_right hS hz, by omega⟩]; rfl
  rw [atO_at hp]
  unfold atO
  rw [h0]
  simp only
  show Option.map (fun x => Ers.phaseD (s.rules.filter (Ers.usedB z.es)) x t) (Ers.atD (s.rules.filter (Ers.usedB z.es)) t z.es) = _
  rw [Ers.at_alone t z.es (fun _ h => h)]
  cases ha : Ers.atD s.rules t z.es with
  | none => rfl
  | some x => rw [Option.map_some, Option.map_some, Ers.phase_alone (Ers.atD_mem ha)]
instance {w : World} {base : Nat} {e : TypeId} {size : Nat} {v : Value} {n : Nat} {xs : List Value} [h : OwnsC w base e size v n xs] : OwnsC w.drew base e size v n xs := ⟨h.own⟩
theorem leN {a cur : World} [h : ExtC a cur] {N : Nat} (hN : N ≤ a.heap.size) : N ≤ cur.heap.size := Nat.le_trans hN (Below.size h.ext)
theorem owns_mono {w : World} {base base' : Nat} {e : TypeId} {size n : Nat} {v : Value} {xs : List Value} (h : w.ownsRow base e size v n xs) (hb : base' ≤ base) : w.ownsRow base' e size v n xs := by
  refine ⟨h.1, ?_⟩
  rcases h.2 with h2 | ⟨g, cap, cur, h1, h2, h3⟩
  · exact .inl h2
  · exact .inr ⟨g, cap, cur, h1, Nat.le_trans hb h2, h3⟩
theorem grownN {a w1 w' : World} {N : Nat} {e : TypeId} {size n : Nat} {v : Value} {xs : List Value} (hN : a.heap.size ≤ N) (h : Ext a w1) (hown : w1.ownsRow N e size v n xs) (hg : w1.grownBy w' v.ownBlock) : Ext a w' :=
  Ext.grown h (owns_mono hown hN) hg
theorem owns_low {w : World} {base : Nat} {e : TypeId} {size n : Nat} {v : Value} {xs : List Value} (h : w.ownsRow base e size v n xs) {k i : Nat} {u : Value} (hk : k < base) : (w.setCell ⟨k, i, none⟩ u).ownsRow base e size v n xs := by
  refine ⟨h.1, ?_⟩
  rcases h.2 with h2 | ⟨g, cap, cur, h1, h2, h3, h4⟩
  · exact .inl h2
  · exact .inr ⟨g, cap, cur, h1, h2, by rw [Below.heap_setCell _ _ _ _ (by show g ≠ k; omega)]; exact h3, h4⟩
theorem ext_set0 {W : World} {a b c a' : Value} {T : TypeId} {N : Nat} (hN : N = W.heap.size) (y : Past (W.alloc (.cells #[a, b, c] T))) [InW N (W.alloc (.cells #[a, b, c] T))] : Ext (W.alloc (.cells #[a', b, c] T)) (y.set N 0 a').x := by
  have e : (W.alloc (.cells #[a, b, c] T)).setCell ⟨N, 0, none⟩ a' = W.alloc (.cells #[a', b, c] T) := by subst hN; simp [go_sem]
  have h := (y.set N 0 a').hb
  exact e ▸ h
theorem phO_cases (s : Source) (k : Nat) (z : Zone) (t : Int) (hz : Src.srcB s = true → pickZ s k = some z) (hn : Src.srcB s = false → pickZ s k = none) : ∃ (p : Phase) (okb : Bool), phO (atO s k t) = .tuple #[.agg #[.int .i64 p.off, .int .i64 p.s, .string p.ab], .bool okb] ∧ (Src.srcB s = false → okb = false) ∧
    (Src.srcB s = true → okb = true ∧ phO (atO (aloneS s z) 0 t) = .tuple #[.agg #[.int .i64 p.off, .int .i64 p.s, .string p.ab], .bool true]) := by
  cases hS : Src.srcB s with
  | false =>
    refine ⟨noPhase, false, ?_, fun _ => rfl, fun h => by cases h⟩
    unfold atO; rw [hn hS]; rfl
  | true =>
    have hp := hz hS
    obtain ⟨-, -, h3, h4⟩ := zone_of hp
    obtain ⟨x, -, hx⟩ := Ers.at_some (l := s.rules) (t := t) h4 h3
    have e : atO s k t = some (Ers.phaseD s.rules x t) := by rw [atO_at hp, hx]; rfl
    refine ⟨Ers.phaseD s.rules x t, true, by rw [e]; rfl, fun h => (by cases h), fun _ => ⟨rfl, ?_⟩⟩
    rw [alone_at hp, e]; rfl
theorem alone_reads {w : World} {s : Source} {z : Zone} {rv zv V : Value} {m : Nat} (h1 : Reads w rv m (ruleRow (s.rules.filter (Ers.usedB z.es)))) (hm : (s.rules.filter (Ers.usedB z.es)).length = m) (h2 : Reads w zv 1 (zoneRow [(z, V)])) (h3 : Reads w V z.es.length (eraRow z.es)) : ReadsS w (.agg #[rv, zv, .slice none 0 0]) (aloneS s z) := by
  subst hm
  exact ⟨rv, zv, .slice none 0 0, rfl, h1, ⟨[(z, V)], rfl, h2, fun p hp => by rw [List.mem_singleton.1 hp]; exact h3⟩, Reads.nil _⟩
set_option maxRecDepth 100000 in
set_option maxHeartbeats 4000000 in
theorem alonelaw_any (s : Source) (hf : fits s) (zone t : Int) (a1 : -9223372036854775808 ≤ t) (a2 : t ≤ 9223372036854775807) (v : Value) (w : World) (hM : MaxL w) (hr : ReadsS w v s) :
    Rets Tryd.prog 4 #[v, .int .i64 zone, .int .i64 t] w (.bool true) := by
  obtain ⟨i0, hi, hzz0, hzz1, hzz2⟩ := info_partsR Tryd.infoRule
  have HG := fun w h => Lib.hid (great_any s v w h)
  have HA := fun w h => Lib.hid (ealive_any w h)
  have HRd := fun w hr => Lib.hid (dright_any s hf v w hr)
  have HPt := fun w hm hr => Lib.hid (eAt_any s hf v w hm hr zone t a1 a2)
  have hr0 := Lib.hid hr
  obtain ⟨vr, vz, vl, rfl, hr1, hr2, hr3⟩ := hr
  obtain ⟨zp, hzp, hz2, hz3⟩ := hr2
  obtain ⟨nz, hnz⟩ : ∃ n, s.zones.length = n := ⟨_, rfl⟩
  obtain ⟨nr, hnr⟩ : ∃ n, s.rules.length = n := ⟨_, rfl⟩
  rw [hnz] at hz2
  rw [hnr] at hr1
  obtain ⟨ar, cr, rfl⟩ := shape_of hr1
  obtain ⟨az, cz, rfl⟩ := shape_of hz2
  obtain ⟨al, cl, rfl⟩ := shape_of hr3
  have b2 := len_of hz2
  unfold Rets
  cases hg : greatB s
  case true =>
    rw [hg] at HG
    clear hr1 hr3 hz2 hz3 hnz hzp HPt HRd hnr
    generalize s.links.length = nl at *
    go_enter Tryd.func4, Tryd.ntmps4
    go_wp2_with (first | (go_at_call 9; refine Rets.use (HG _ (hr0.out.ext isext)).out ?_; intro _) | (go_at_call 6; refine Rets.use (HA _ (hM.ext isext)).out ?_; intro _))
    go_ret
    exact ⟨rfl, done⟩
  case false =>
    rw [hg] at HG
    obtain ⟨h9, -, -, hsum⟩ := great_no hg
    by_cases hz0 : zone < 0
    · clear hr1 hr3 hz2 hz3 hnz hzp h9 hsum HPt HRd hnr
      generalize s.links.length = nl at *
      go_enter Tryd.func4, Tryd.ntmps4
      go_wp2_with (first | (go_at_call 9; refine Rets.use (HG _ (hr0.out.ext isext)).out ?_; intro _) | (go_at_call 6; refine Rets.use (HA _ (hM.ext isext)).out ?_; intro _))
      go_ret
      exact ⟨rfl, done⟩
    by_cases hz1 : (nz : Int) ≤ zone
    · have g0 : decide (zone < 0) = false := decide_eq_false hz0
      clear hr1 hr3 hz2 hz3 hnz hzp h9 hz0 hsum HPt HRd hnr
      generalize s.links.length = nl at *
      go_enter Tryd.func4, Tryd.ntmps4
      go_wp2_with (first | (go_at_call 9; refine Rets.use (HG _ (hr0.out.ext isext)).out ?_; intro _) | (go_at_call 6; refine Rets.use (HA _ (hM.ext isext)).out ?_; intro _))
      go_ret
      exact ⟨rfl, done⟩
    obtain ⟨k, rfl⟩ : ∃ k : Nat, zone = k := ⟨zone.toNat, by omega⟩
    have hknz : k < nz := by omega
    have g0 : decide ((k : Int) < 0) = false := decide_eq_false hz0
    have g1 : decide ((nz : Int) ≤ k) = false := decide_eq_false hz1
    have g1n : decide (nz ≤ k) = false := decide_eq_false (by omega)
    have hk : k < s.zones.length := by omega
    have hjp : k < zp.length := by have := congrArg List.length hzp; rw [List.length_map] at this; omega
    have hz1' : zp[k].1 = s.zones[k] := by
      have : (zp.map (·.1))[k]'(by rw [List.length_map]; exact hjp) = s.zones[k] := by simp only [hzp]
      rwa [List.getElem_map] at this
    have hpz : Src.srcB s = true → pickZ s k = some s.zones[k] := fun h => by
      unfold pickZ
      rw [if_pos ⟨h, by omega⟩, Int.toNat_natCast, List.getElem?_eq_getElem hk]
    have hpn : Src.srcB s = false → pickZ s k = none := fun h => by
      unfold pickZ
      rw [if_neg (by rw [h]; simp)]
    obtain ⟨p1, okb, hph, hpf, hpt⟩ := phO_cases s k s.zones[k] t hpz hpn
    rw [hph] at HPt
    have hfA := alone_fits hf (List.getElem_mem hk)
    have HQ := fun v w hm hr => Lib.hid (eAt_any (aloneS s (s.zones[k]'hk)) hfA v w hm hr 0 t a1 a2)
    rcases hz2 with ⟨_, _, e9, h9', _⟩ | ⟨b, o, c9, e9, k1, k2, m1, hc⟩
    · exact absurd h9' (by omega)
    injection e9 with e9 e8 e7
    subst e9
    clear e8 e7
    haveI : InW b w := ⟨m1⟩
    obtain ⟨c0, c1⟩ := zone_at hc k hjp
    clear hc
    have hre := hz3 zp[k] (List.getElem_mem hjp)
    rw [hz1'] at c0 hre
    have hesl : s.zones[k].es.length ≤ 100 := Nat.le_trans (esum_ge (List.getElem_mem hk)) hsum
    clear hsum hpz hpn hph hfA
    have HAR := fun (w : World) (rv zv V : Value) (m : Nat) h1 hm h2 h3 => alone_reads (w := w) (s := s) (z := s.zones[k]'hk) (rv := rv) (zv := zv) (V := V) (m := m) h1 hm h2 h3
    generalize zp[k].2 = V at *
    generalize s.zones[k] = z at *
    clear hz1' hz3 hzp hk hnz hjp hz0 hz1
    obtain ⟨nm, es⟩ := z
    simp only at c0 hre hesl HAR
    obtain ⟨ne, hne⟩ : ∃ n, es.length = n := ⟨_, rfl⟩
    rw [hne] at hre hesl HAR
    obtain ⟨ae, ce, rfl⟩ := shape_of hre
    have Hre := Lib.hid hre
    have Hne := Lib.hid hne
    have Hr1 := Lib.hid hr1
    have Hnr := Lib.hid hnr
    have Hpf := Lib.hid hpf
    have Hpt := Lib.hid hpt
    have HAR' := Lib.hid HAR
    clear hne hr1 hr3 hnr hpf hpt HAR
    generalize s.links.length = nl at *
    obtain ⟨po, ps, pa⟩ := p1
    simp only at HPt Hpt
    have hnr100 : nr ≤ 40 := by have := Hnr.out; omega
    generalize s.rules = rl at *
    generalize phO (atO (aloneS s ⟨nm, es⟩) 0 t) = QV at *
    go_enter Tryd.func4, Tryd.ntmps4
    go_wp2_with fail
    go_at_call 9
    refine Rets.use (HG _ (hr0.out.ext isext)).out ?_
    intro y1
    go_wp2_with fail
    go_at_call 10
    refine Rets.use (HPt _ (hM.ext isext) (hr0.out.ext isext)).out ?_
    intro y2
    go_wp2_with fail
    go_loopw [10] (fun iv wr => ∃ (j m : Nat) (ls : List Rule) (av : Option Addr) (cap : Nat), j ≤ nr ∧ m ≤ j ∧ iv = .int .i64 j ∧ Hid (ls.length = m) ∧ Hid ((rl.take j).filter (Ers.usedB es) = ls) ∧ OwnsC wr (y2.x.heap.size + 1 + 1 + 1) 43 11 (.slice av m cap) m (ruleRow ls) ∧ Ext (((y2.x.alloc (.cells #[.int .i64 po, .int .i64 ps, .string pa] 32)).alloc (.cells #[.string nm, .slice ae ne ce] 37)).alloc (.cells #[.slice av m cap, .slice (some ⟨y2.x.heap.size + 1, 0, none⟩) 1 1, .slice none 0 0] 29)) wr) (fun iv _ => nr - (intOf iv).toNat)
    case atStart => exact ⟨0, 0, [], none, 0, by omega, by omega, rfl, rfl, rfl, ⟨World.ownsRow_nil _ _ _ _⟩, isext⟩
    case round =>
      obtain ⟨j, m, ls, av, cap, j2, m2, rfl, Hm, Hl, hown, hx⟩ := hrel
      obtain ⟨yr, rfl⟩ := fin hx
      clear hx
      by_cases hlt : j < nr
      · have hj : j < rl.length := by rw [Hnr.out]; exact hlt
        rcases Hr1.out with ⟨_, _, e9, h9, _⟩ | ⟨b1, o1, c9, e9, k3, k4, m3, hc⟩
        · exact absurd h9 (by omega)
        injection e9 with e9 e8 e7
        subst e9
        clear e8 e7
        haveI : InW b1 w := ⟨m3⟩
        obtain ⟨c0', c1', c2, c3, c4, c5, c6, c7, c8, c9', c10⟩ := rule_at hc j hj
        clear hc
        have Eno := fun h => Lib.hid (Ers.take_no (es := es) hj h)
        have Eyes := fun h => Lib.hid (Ers.take_yes (es := es) hj h)
        generalize rl[j] = x at *
        have HUD := fun q hq => Lib.hid (Ers.used_drop es x q hq)
        have HRow := Lib.hid (ruleRow_snoc ls x)
        obtain ⟨nm', a, b', mm, kq, wd, d, t', r', s', lt⟩ := x
        simp only at c0' c1' c2 c3 c4 c5 c6 c7 c8 c9' c10
        go_wp2_with fail
        go_loopw [11, 12] (fun uv kv wr => ∃ (kk : Nat) (U : Bool), kk ≤ ne ∧ kv = .int .i64 kk ∧ uv = .bool U ∧ Hid (Ers.usedB es ⟨nm', a, b', mm, kq, wd, d, t', r', s', lt⟩ = (U || Ers.usedB (es.drop kk) ⟨nm', a, b', mm, kq, wd, d, t', r', s', lt⟩)) ∧ Ext yr.x wr) (fun _ kv _ => ne - (intOf kv).toNat)
        case atStart => exact ⟨0, false, by omega, rfl, rfl, rfl, isext⟩
        case round =>
          obtain ⟨kk, U, hk1, rfl, rfl, HU, hx⟩ := hrel
          obtain ⟨y5, rfl⟩ := fin hx
          clear hx
          by_cases hlk : kk < ne
          · have hkl : kk < es.length := by rw [Hne.out]; exact hlk
            have hd := HUD kk hkl
            cases U
            · rcases Hre.out with ⟨_, _, e9, h9, _⟩ | ⟨be, oe, c9'', e9, k5, k6, m5, hc⟩
              · exact absurd h9 (by omega)
              injection e9 with e9 e8 e7
              subst e9
              clear e8 e7
              haveI : InW be w := ⟨m5⟩
              obtain ⟨d0, d1, d2, d3, d4, d5, d6, d7, d8, d9, d10, d11, d12⟩ := era_at hc kk hkl
              clear hc d0 d1 d2 d4 d5 d6 d7 d8 d9 d10 d11 d12
              generalize es[kk].rs = ers at *
              rcases text_cases ers nm' with ⟨q1, q2, rfl⟩ | ⟨q1, q2, q3⟩
              · have E : Hid (Ers.usedB es ⟨ers, a, b', mm, kq, wd, d, t', r', s', lt⟩ = (true || Ers.usedB (es.drop (kk + 1)) ⟨ers, a, b', mm, kq, wd, d, t', r', s', lt⟩)) := by
                  show _ = _; rw [HU.out, hd.out]; simp
                clear HU hd HUD Eno Eyes
                go_wp2_with fail
                refine wp_region_past1 (by kernel_rfl) (by kernel_rfl) ?_
                repeat (go_big_quiet_step (fail))
                refine wpQuiet_nil ?_
                intro _
                go_wp2
                go_roundw
                case rel => exact ⟨kk + 1, true, by omega, by go_num, rfl, E, isext⟩
                case measure => simp [intOf]; omega
              · have E : Hid (Ers.usedB es ⟨nm', a, b', mm, kq, wd, d, t', r', s', lt⟩ = (false || Ers.usedB (es.drop (kk + 1)) ⟨nm', a, b', mm, kq, wd, d, t', r', s', lt⟩)) := by
                  show _ = _; rw [HU.out, hd.out]; simp only [beq_eq_false_iff_ne.2 q3, Bool.false_or]
                clear HU hd HUD Eno Eyes q3
                go_wp2_with fail
                refine wp_region_past1 (by kernel_rfl) (by kernel_rfl) ?_
                repeat (go_big_quiet_step (fail))
                refine wpQuiet_nil ?_
                intro _
                go_wp2
                go_roundw
                case rel => exact ⟨kk + 1, false, by omega, by go_num, rfl, E, isext⟩
                case measure => simp [intOf]; omega
            · have E : Hid (Ers.usedB es ⟨nm', a, b', mm, kq, wd, d, t', r', s', lt⟩ = (true || Ers.usedB (es.drop (kk + 1)) ⟨nm', a, b', mm, kq, wd, d, t', r', s', lt⟩)) := by
                show _ = _; rw [HU.out]; simp
              clear HU hd HUD Eno Eyes
              go_wp2_with fail
              refine wp_region_past1 (by kernel_rfl) (by kernel_rfl) ?_
              repeat (go_big_quiet_step (fail))
              refine wpQuiet_nil ?_
              intro _
              go_wp2
              go_roundw
              case rel => exact ⟨kk + 1, true, by omega, by go_num, rfl, E, isext⟩
              case measure => simp [intOf]; omega
          · have EU : Ers.usedB es ⟨nm', a, b', mm, kq, wd, d, t', r', s', lt⟩ = U := by
              rw [HU.out, List.drop_eq_nil_of_le (by rw [Hne.out]; omega)]; simp [Ers.usedB]
            cases U
            · have E : Hid ((rl.take (j + 1)).filter (Ers.usedB es) = ls) := by show _ = _; rw [(Eno EU).out, Hl.out]
              clear HU HUD Eno Eyes EU HRow
              go_wp2
              go_roundw
              case rel => exact ⟨j + 1, m, ls, av, cap, by omega, by omega, by go_num, Hm, E, inferInstance, isext⟩
              case measure => simp [intOf]; omega
            · have E : Hid ((rl.take (j + 1)).filter (Ers.usedB es) = ls ++ [⟨nm', a, b', mm, kq, wd, d, t', r', s', lt⟩]) := by show _ = _; rw [(Eyes EU).out, Hl.out]
              clear HU HUD Eno Eyes EU
              go_wp2_with fail
              refine wp_region_held_drew (S := fun w' => ∃ y : Past (w.alloc (.cells #[.slice (some ⟨b1, o1, none⟩) nr cr, .slice (some ⟨b, o, none⟩) nz cz, .slice al nl cl] 29)), w' = y.x) (by kernel_rfl) (fin isext) (fun hHeld => ?_)
              refine wpAnyH_take (i := 0) (oi := ⟨some 82, _, _, _, _, _⟩) (v := ?_) rfl (by kernel_rfl) (by kernel_rfl) (by kernel_rfl) (fun _ _ _ h => h) (Or.inl ⟨by rfl, ?_⟩) (by assumption) ?_
              rotate_left
              · rintro w ⟨yS, rfl⟩; go_simp; first | done | (with_reducible rfl) | (rw [if_pos (by omega)]) | (rw [if_neg (by omega)])
              try simp only [Act.put, List.setIfInBounds_toArray, List.set_cons_zero, List.set_cons_succ]
              refine wpAnyH_take (i := 2) (oi := ⟨some 84, _, _, _, _, _⟩) (v := ?_) rfl (by kernel_rfl) (by kernel_rfl) (by kernel_rfl) (fun _ _ _ h => h) (Or.inl ⟨by rfl, ?_⟩) (by assumption) ?_
              rotate_left
              · rintro w ⟨yS, rfl⟩; go_simp; first | done | (with_reducible rfl) | (rw [if_pos (by omega)]) | (rw [if_neg (by omega)])
              try simp only [Act.put, List.setIfInBounds_toArray, List.set_cons_zero, List.set_cons_succ]
              refine wpAnyH_take (i := 3) (oi := ⟨some 85, _, _, _, _, _⟩) (v := ?_) rfl (by kernel_rfl) (by kernel_rfl) (by kernel_rfl) (fun _ _ _ h => h) (Or.inl ⟨by rfl, ?_⟩) (by assumption) ?_
              rotate_left
              · rintro w ⟨yS, rfl⟩; go_simp; first | done | (with_reducible rfl) | (rw [if_pos (by omega)]) | (rw [if_neg (by omega)])
              try simp only [Act.put, List.setIfInBounds_toArray, List.set_cons_zero, List.set_cons_succ]
              refine wpAnyH_take (i := 4) (oi := ⟨some 86, _, _, _, _, _⟩) (v := ?_) rfl (by kernel_rfl) (by kernel_rfl) (by kernel_rfl) (fun _ _ _ h => h) (Or.inl ⟨by rfl, ?_⟩) (by assumption) ?_
              rotate_left
              · rintro w ⟨yS, rfl⟩; go_simp; first | done | (with_reducible rfl) | (rw [if_pos (by omega)]) | (rw [if_neg (by omega)])
              try simp only [Act.put, List.setIfInBounds_toArray, List.set_cons_zero, List.set_cons_succ]
              refine wpAnyH_take (i := 5) (oi := ⟨some 87, _, _, _, _, _⟩) (v := ?_) rfl (by kernel_rfl) (by kernel_rfl) (by kernel_rfl) (fun _ _ _ h => h) (Or.inl ⟨by rfl, ?_⟩) (by assumption) ?_
              rotate_left
              · rintro w ⟨yS, rfl⟩; go_simp; first | done | (with_reducible rfl) | (rw [if_pos (by omega)]) | (rw [if_neg (by omega)])
              try simp only [Act.put, List.setIfInBounds_toArray, List.set_cons_zero, List.set_cons_succ]
              refine wpAnyH_take (i := 6) (oi := ⟨some 88, _, _, _, _, _⟩) (v := ?_) rfl (by kernel_rfl) (by kernel_rfl) (by kernel_rfl) (fun _ _ _ h => h) (Or.inl ⟨by rfl, ?_⟩) (by assumption) ?_
              rotate_left
              · rintro w ⟨yS, rfl⟩; go_simp; first | done | (with_reducible rfl) | (rw [if_pos (by omega)]) | (rw [if_neg (by omega)])
              try simp only [Act.put, List.setIfInBounds_toArray, List.set_cons_zero, List.set_cons_succ]
              refine wpAnyH_ready (rs := [1, 7]) (by kernel_rfl) (by simp) ?_
              refine AllReadyH.cons (o := ⟨some 83, _, _, _, _, _⟩) rfl (fun K hK => ?_) ?_
              · go_simp
                refine hK.out _ _ ?_ (fun hHeld => ?_)
                · exact fin isext
                clear hK K
                try simp only [Act.put, List.setIfInBounds_toArray, List.set_cons_zero, List.set_cons_succ]
                refine wpAnyH_ready (rs := [7]) (by kernel_rfl) (by simp) ?_
                refine AllReadyH.cons (o := ⟨some 89, _, _, _, _, _⟩) rfl (fun K hK => ?_) ?_
                · go_simp
                  refine hK.out _ _ ?_ (fun hHeld => ?_)
                  · exact fin isext
                  clear hK K
                  try simp only [Act.put, List.setIfInBounds_toArray, List.set_cons_zero, List.set_cons_succ]
                  refine wpAnyH_ready (rs := [8]) (by kernel_rfl) (by simp) ?_
                  refine AllReadyH.cons (o := ⟨some 90, _, _, _, _, _⟩) rfl (fun K hK => ?_) ?_
                  · refine wp_append_own _ _ _ 25 rfl (y2.x.heap.size + 1 + 1 + 1) 43 i0 (.agg #[.string ByteArray.empty, .int .i64 0, .int .i64 0, .int .i64 0, .int .i64 0, .int .i64 0, .int .i64 0, .int .i64 0, .int .i64 0, .int .i64 0, .string ByteArray.empty]) 11 104 Tryd.underlying25 hi hzz0 hzz1 hzz2 rfl (by decide) (.slice av m cap) m (ruleRow ls) rfl (OwnsC.own) _ 1 1 [.string nm', .int .i64 a, .int .i64 b', .int .i64 mm, .int .i64 kq, .int .i64 wd, .int .i64 d, .int .i64 t', .int .i64 r', .int .i64 s', .string lt] rfl rfl (new_cells' _ _ _ _ (by simp)) (by simp [Value.oneCell']) (by unfold maxLen; omega) (by omega) (leN (a := (((y2.x.alloc (.cells #[.int .i64 po, .int .i64 ps, .string pa] 32)).alloc (.cells #[.string nm, .slice ae ne ce] 37)).alloc (.cells #[.slice av m cap, .slice (some ⟨y2.x.heap.size + 1, 0, none⟩) 1 1, .slice none 0 0] 29))) (by simp only [World.size_alloc]; omega)) (fun v' w1 hown1 hgrow1 _ => ?_); obtain ⟨av', cap', rfl⟩ := owns_shape hown1; obtain ⟨y7, rfl⟩ := fin (grownN (a := (((y2.x.alloc (.cells #[.int .i64 po, .int .i64 ps, .string pa] 32)).alloc (.cells #[.string nm, .slice ae ne ce] 37)).alloc (.cells #[.slice av m cap, .slice (some ⟨y2.x.heap.size + 1, 0, none⟩) 1 1, .slice none 0 0] 29))) (N := (y2.x.heap.size + 1 + 1 + 1)) (by simp only [World.size_alloc]; omega) isext (OwnsC.own (e := 43) (size := 11) (n := m) (xs := ruleRow ls)) hgrow1); clear hgrow1; have hO : OwnsC y7.x (y2.x.heap.size + 1 + 1 + 1) 43 11 (.slice av' (m + 1) cap') (m + 1) (ruleRow (ls ++ [⟨nm', a, b', mm, kq, wd, d, t', r', s', lt⟩])) := ⟨by rw [HRow.out]; exact hown1⟩
                    refine hK.out _ _ ?_ (fun hHeld => ?_)
                    · exact fin isext
                    clear hK K
                    try simp only [Act.put, List.setIfInBounds_toArray, List.set_cons_zero, List.set_cons_succ]
                    refine wpAnyH_take (i := 9) (oi := ⟨some 91, _, _, _, _, _⟩) (v := ?_) rfl (by kernel_rfl) (by kernel_rfl) (by kernel_rfl) (fun _ _ _ h => h) (Or.inl ⟨by rfl, ?_⟩) (by assumption) ?_
                    rotate_left
                    · rintro w ⟨yS, rfl⟩; go_simp; first | done | (with_reducible rfl) | (rw [if_pos (by omega)]) | (rw [if_neg (by omega)])
                    try simp only [Act.put, List.setIfInBounds_toArray, List.set_cons_zero, List.set_cons_succ]
                    refine wpAnyH_ready (rs := [10]) (by kernel_rfl) (by simp) ?_
                    refine AllReadyH.cons (o := ⟨none, _, _, _, _, _⟩) rfl (fun K hK => ?_) ?_
                    · go_simp
                      refine hK.out _ _ ?_ (fun hHeld => ?_)
                      · exact fin isext
                      clear hK K
                      try simp only [Act.put, List.setIfInBounds_toArray, List.set_cons_zero, List.set_cons_succ]
                      refine wpAnyH_done (by kernel_rfl) ?_ _
                      go_wp2
                      go_roundw
                      case rel => exact ⟨j + 1, m + 1, ls ++ [⟨nm', a, b', mm, kq, wd, d, t', r', s', lt⟩], av', cap', by omega, by omega, by go_num, by show _ = _; rw [List.length_append, Hm.out]; rfl, E, ⟨by show World.ownsRow (World.setCell _ _ _) _ _ _ _ _ _; exact owns_low hO.own (by omega)⟩, ext_set0 (by simp) y7⟩
                      case measure => simp [intOf]; omega
                    exact AllReadyH.nil
                  exact AllReadyH.nil
                exact AllReadyH.nil
              refine AllReadyH.cons (o := ⟨some 89, _, _, _, _, _⟩) rfl (fun K hK => ?_) ?_
              · go_simp
                refine hK.out _ _ ?_ (fun hHeld => ?_)
                · exact fin isext
                clear hK K
                try simp only [Act.put, List.setIfInBounds_toArray, List.set_cons_zero, List.set_cons_succ]
                refine wpAnyH_ready (rs := [1]) (by kernel_rfl) (by simp) ?_
                refine AllReadyH.cons (o := ⟨some 83, _, _, _, _, _⟩) rfl (fun K hK => ?_) ?_
                · go_simp
                  refine hK.out _ _ ?_ (fun hHeld => ?_)
                  · exact fin isext
                  clear hK K
                  try simp only [Act.put, List.setIfInBounds_toArray, List.set_cons_zero, List.set_cons_succ]
                  refine wpAnyH_ready (rs := [8]) (by kernel_rfl) (by simp) ?_
                  refine AllReadyH.cons (o := ⟨some 90, _, _, _, _, _⟩) rfl (fun K hK => ?_) ?_
                  · refine wp_append_own _ _ _ 25 rfl (y2.x.heap.size + 1 + 1 + 1) 43 i0 (.agg #[.string ByteArray.empty, .int .i64 0, .int .i64 0, .int .i64 0, .int .i64 0, .int .i64 0, .int .i64 0, .int .i64 0, .int .i64 0, .int .i64 0, .string ByteArray.empty]) 11 104 Tryd.underlying25 hi hzz0 hzz1 hzz2 rfl (by decide) (.slice av m cap) m (ruleRow ls) rfl (OwnsC.own) _ 1 1 [.string nm', .int .i64 a, .int .i64 b', .int .i64 mm, .int .i64 kq, .int .i64 wd, .int .i64 d, .int .i64 t', .int .i64 r', .int .i64 s', .string lt] rfl rfl (new_cells' _ _ _ _ (by simp)) (by simp [Value.oneCell']) (by unfold maxLen; omega) (by omega) (leN (a := (((y2.x.alloc (.cells #[.int .i64 po, .int .i64 ps, .string pa] 32)).alloc (.cells #[.string nm, .slice ae ne ce] 37)).alloc (.cells #[.slice av m cap, .slice (some ⟨y2.x.heap.size + 1, 0, none⟩) 1 1, .slice none 0 0] 29))) (by simp only [World.size_alloc]; omega)) (fun v' w1 hown1 hgrow1 _ => ?_); obtain ⟨av', cap', rfl⟩ := owns_shape hown1; obtain ⟨y7, rfl⟩ := fin (grownN (a := (((y2.x.alloc (.cells #[.int .i64 po, .int .i64 ps, .string pa] 32)).alloc (.cells #[.string nm, .slice ae ne ce] 37)).alloc (.cells #[.slice av m cap, .slice (some ⟨y2.x.heap.size + 1, 0, none⟩) 1 1, .slice none 0 0] 29))) (N := (y2.x.heap.size + 1 + 1 + 1)) (by simp only [World.size_alloc]; omega) isext (OwnsC.own (e := 43) (size := 11) (n := m) (xs := ruleRow ls)) hgrow1); clear hgrow1; have hO : OwnsC y7.x (y2.x.heap.size + 1 + 1 + 1) 43 11 (.slice av' (m + 1) cap') (m + 1) (ruleRow (ls ++ [⟨nm', a, b', mm, kq, wd, d, t', r', s', lt⟩])) := ⟨by rw [HRow.out]; exact hown1⟩
                    refine hK.out _ _ ?_ (fun hHeld => ?_)
                    · exact fin isext
                    clear hK K
                    try simp only [Act.put, List.setIfInBounds_toArray, List.set_cons_zero, List.set_cons_succ]
                    refine wpAnyH_take (i := 9) (oi := ⟨some 91, _, _, _, _, _⟩) (v := ?_) rfl (by kernel_rfl) (by kernel_rfl) (by kernel_rfl) (fun _ _ _ h => h) (Or.inl ⟨by rfl, ?_⟩) (by assumption) ?_
                    rotate_left
                    · rintro w ⟨yS, rfl⟩; go_simp; first | done | (with_reducible rfl) | (rw [if_pos (by omega)]) | (rw [if_neg (by omega)])
                    try simp only [Act.put, List.setIfInBounds_toArray, List.set_cons_zero, List.set_cons_succ]
                    refine wpAnyH_ready (rs := [10]) (by kernel_rfl) (by simp) ?_
                    refine AllReadyH.cons (o := ⟨none, _, _, _, _, _⟩) rfl (fun K hK => ?_) ?_
                    · go_simp
                      refine hK.out _ _ ?_ (fun hHeld => ?_)
                      · exact fin isext
                      clear hK K
                      try simp only [Act.put, List.setIfInBounds_toArray, List.set_cons_zero, List.set_cons_succ]
                      refine wpAnyH_done (by kernel_rfl) ?_ _
                      go_wp2
                      go_roundw
                      case rel => exact ⟨j + 1, m + 1, ls ++ [⟨nm', a, b', mm, kq, wd, d, t', r', s', lt⟩], av', cap', by omega, by omega, by go_num, by show _ = _; rw [List.length_append, Hm.out]; rfl, E, ⟨by show World.ownsRow (World.setCell _ _ _) _ _ _ _ _ _; exact owns_low hO.own (by omega)⟩, ext_set0 (by simp) y7⟩
                      case measure => simp [intOf]; omega
                    exact AllReadyH.nil
                  exact AllReadyH.nil
                exact AllReadyH.nil
              exact AllReadyH.nil
      · have E : Hid (rl.filter (Ers.usedB es) = ls) := by have := Hl.out; rwa [List.take_of_length_le (by rw [Hnr.out]; omega)] at this
        clear Hl
        cases hS : Src.srcB s
        · obtain rfl := Hpf.out hS
          rw [hS] at HRd
          clear HQ HPt hS
          go_wp2_with (first | (go_at_call 11; refine Rets.use (HRd _ (hr0.out.ext isext)).out ?_; intro _) | (go_at_call 6; refine Rets.use (HA _ (hM.ext isext)).out ?_; intro _))
          go_ret
          exact ⟨rfl, done⟩
        · obtain ⟨rfl, hQV⟩ := Hpt.out hS
          rw [hS] at HRd
          rw [hQV] at HQ
          have HZ : Hid (Reads ((y2.x.alloc (.cells #[.int .i64 po, .int .i64 ps, .string pa] 32)).alloc (.cells #[.string nm, .slice ae ne ce] 37)) (.slice (some ⟨y2.x.heap.size + 1, 0, none⟩) 1 1) 1 (zoneRow [(⟨nm, es⟩, .slice ae ne ce)])) := by
            have := row_newG (y2.x.alloc (.cells #[.int .i64 po, .int .i64 ps, .string pa] 32)) (zoneRow [(⟨nm, es⟩, .slice ae ne ce)]) 37 1 (by omega)
            simp only [World.size_alloc] at this
            exact this
          clear HPt hS hQV
          go_wp2_with fail
          go_at_call 11
          refine Rets.use (HRd _ (hr0.out.ext isext)).out ?_
          intro y8
          go_wp2_with fail
          go_at_call 10
          refine Rets.use (HQ _ _ (hM.ext isext) (HAR'.out _ _ _ _ m (by rw [E.out]; exact owns_reads (OwnsC.own (base := y2.x.heap.size + 1 + 1 + 1) (e := 43) (size := 11)) (by omega)) (by rw [E.out]; exact Hm.out) (HZ.out.ext isext) (Hre.out.ext isext))).out ?_
          intro y9
          go_wp2_with (go_at_call 6; refine Rets.use (HA _ (hM.ext isext)).out ?_; intro _)
          go_ret
          exact ⟨ret_bool (by simp), done⟩
theorem alonelaw_row (s : Source) (v : Value) (zone t : Int) (_ : (Lit.int .i64 zone).wf = true) (ht : (Lit.int .i64 t).wf = true) (w : World) (hr : ReadsS w v s) (hf : fits s) (hM : MaxL w) :
    Rets Tryd.prog 4 #[v, .int .i64 zone, .int .i64 t] w (.bool true) :=
  alonelaw_any s hf zone t (i64_in ht).1 (i64_in ht).2 v w hM hr
end Go.Proofs.YtcjnficcggjeiaaDoor
