/- Walks of eras: the document's set of a name; its end of an era. -/
import Derived.Test.YtcjnficcggjeiaaGreatDoorErsWalkP
import Derived.Deep.RegionHeld3
set_option linter.unusedVariables false
set_option linter.unusedSimpArgs false
namespace Go.Proofs.YtcjnficcggjeiaaGreatDoor
open Go.RowKit Go.Shelf

theorem base_le1 {w cur : World} (o : Obj) [h : ExtC (w.alloc o) cur] : w.heap.size + 1 ≤ cur.heap.size := by
  have := Below.size h.ext
  rwa [World.size_alloc] at this
theorem grown1 {w w1 w' : World} (o : Obj) {e : TypeId} {size n : Nat} {v : Value} {xs : List Value} (h : Ext (w.alloc o) w1) (hown : w1.ownsRow (w.heap.size + 1) e size v n xs) (hg : w1.grownBy w' v.ownBlock) : Ext (w.alloc o) w' :=
  Ext.grown h (by rw [World.size_alloc]; exact hown) hg
theorem apart_le {v : Value} {N M : Nat} (h : Apart v N) (hm : M ≤ N) : Apart v M := fun b o n c e => Nat.le_trans hm (h b o n c e)
set_option maxRecDepth 100000 in
set_option maxHeartbeats 8000000 in
theorem eraset_any (s : Source) (nm : ByteArray) (v : Value) (w : World) (hr : ReadsS w v s) (h9 : s.rules.length ≤ 1000) :
    Calls Tryz.prog 23 #[v, .string nm] w (SetEnd w (Ers.setOf s.rules nm)) := by
  obtain ⟨i0, hi, hz0, hz1, hz2⟩ := info_partsR Tryz.infoRule
  obtain ⟨vr, vz, vl, rfl, hr1, hr2, hr3⟩ := hr
  obtain ⟨zp, hzp, hz2', -⟩ := hr2
  obtain ⟨rl, zl, ll⟩ := s
  simp only at hr1 hr3 hz2' h9 ⊢
  obtain ⟨nr, hnr⟩ : ∃ n, rl.length = n := ⟨_, rfl⟩
  rw [hnr] at hr1 h9
  obtain ⟨ar, cr, rfl⟩ := shape_of hr1
  obtain ⟨az, cz, rfl⟩ := shape_of hz2'
  obtain ⟨al, cl, rfl⟩ := shape_of hr3
  have b1 := len_of hr1
  have Hr1 := Lib.hid hr1
  have Hnr := Lib.hid hnr
  have hend : ∀ (av : Value) (m : Nat) (w1 : World) (ls : List Rule), ls.length = m → Ers.setOf rl nm = ls → w1.ownsRow (w.heap.size + 1) 67 11 av m (ruleRow ls) → Ext w w1 → Hid (SetEnd w (Ers.setOf rl nm) (.returned av) w1) := fun av m w1 ls h1 h2 h3 h4 => by
    show SetEnd _ _ _ _
    rw [h2]
    exact ⟨av, m, ⟨w1, h4⟩, rfl, h1, owns_reads h3 (by omega), apart_le (apart_of h3) (by omega), rfl⟩
  have hrow : ∀ (ls : List Rule) x, Hid (ruleRow (ls ++ [x]) = ruleRow ls ++ ruleCells x) := fun ls x => ruleRow_snoc ls x
  generalize zl.length = nz at *
  generalize ll.length = nl at *
  clear hr1 hr3 hz2' hnr hzp
  go_enter Tryz.func23, Tryz.ntmps23
  go_wp2_with fail
  go_loopw [5, 6] (fun ov iv wr => ∃ (j m : Nat) (ls : List Rule), j ≤ nr ∧ m ≤ j ∧ iv = .int .i64 j ∧ Hid (ls.length = m) ∧ Hid (Ers.setOf (rl.take j) nm = ls) ∧ OwnsC wr (w.heap.size + 1) 67 11 ov m (ruleRow ls) ∧ Ext (w.alloc (.cells #[.slice ar nr cr, .slice az nz cz, .slice al nl cl] 26)) wr) (fun _ i _ => nr - (intOf i).toNat)
  case atStart => exact ⟨0, 0, [], by omega, by omega, rfl, rfl, rfl, ⟨World.ownsRow_nil _ _ _ _⟩, isext⟩
  case round =>
    obtain ⟨j, m, ls, j2, m2, rfl, Hm, Hl, hown, hx⟩ := hrel
    obtain ⟨yr, rfl⟩ := fin hx
    clear hx
    obtain ⟨av, cap, rfl⟩ := owns_shape hown.own
    by_cases hlt : j < nr
    · have hj : j < rl.length := by rw [Hnr.out]; exact hlt
      rcases Hr1.out with ⟨_, _, e9, h9, _⟩ | ⟨b, o, c9, e9, k1, k2, m1, hc⟩
      · exact absurd h9 (by omega)
      injection e9 with e9 e8 e7
      subst e9
      clear e8 e7
      haveI : InW b w := ⟨m1⟩
      obtain ⟨c0, c1, c2, c3, c4, c5, c6, c7, c8, c9, c10⟩ := rule_at hc j hj
      clear hc
      have Eno := fun h => Lib.hid (Ers.set_no (nm := nm) hj h)
      have Eyes := fun h => Lib.hid (Ers.set_yes (nm := nm) hj h)
      generalize rl[j] = x at *
      obtain ⟨nm', a, b', mm, k, wd, d, t, r, s, lt⟩ := x
      simp only at c0 c1 c2 c3 c4 c5 c6 c7 c8 c9 c10
      rcases text_cases nm' nm with ⟨q1, q2, rfl⟩ | ⟨q1, q2, q3⟩
      · have E : Hid (Ers.setOf (rl.take (j + 1)) nm' = ls ++ [⟨nm', a, b', mm, k, wd, d, t, r, s, lt⟩]) := by show _ = _; rw [(Eyes (by simp)).out, Hl.out]
        have HR := hrow ls ⟨nm', a, b', mm, k, wd, d, t, r, s, lt⟩
        clear Eno Eyes hrow
        go_wp2_with (at_builtin; refine wpList_append_own _ rfl _ _ 22 rfl (w.heap.size + 1) 67 i0 (.agg #[.string ByteArray.empty, .int .i64 0, .int .i64 0, .int .i64 0, .int .i64 0, .int .i64 0, .int .i64 0, .int .i64 0, .int .i64 0, .int .i64 0, .string ByteArray.empty]) 11 104 Tryz.underlying22 hi hz0 hz1 hz2 rfl (by decide) (.slice av m cap) m (ruleRow ls) rfl (OwnsC.own) _ 1 1 [.string nm', .int .i64 a, .int .i64 b', .int .i64 mm, .int .i64 k, .int .i64 wd, .int .i64 d, .int .i64 t, .int .i64 r, .int .i64 s, .string lt] rfl rfl (new_cells' _ _ _ _ (by simp)) (by simp [Value.oneCell']) (by unfold maxLen; omega) (by omega) (base_le1 (.cells #[.slice (some ⟨b, o, none⟩) nr cr, .slice az nz cz, .slice al nl cl] 26)) ?_; intro v' w1 hown1 hgrow1 _; obtain ⟨av', cap', rfl⟩ := owns_shape hown1; obtain ⟨y1, rfl⟩ := fin (grown1 (w := w) (.cells #[.slice (some ⟨b, o, none⟩) nr cr, .slice az nz cz, .slice al nl cl] 26) isext (OwnsC.own (e := 67) (size := 11) (n := m) (xs := ruleRow ls)) hgrow1); clear hgrow1; have hO : OwnsC y1.x (w.heap.size + 1) 67 11 (.slice av' (m + 1) cap') (m + 1) (ruleRow (ls ++ [⟨nm', a, b', mm, k, wd, d, t, r, s, lt⟩])) := ⟨by rw [HR.out]; exact hown1⟩)
        go_roundw
        case rel => exact ⟨j + 1, m + 1, ls ++ [⟨nm', a, b', mm, k, wd, d, t, r, s, lt⟩], by omega, by omega, by go_num, by show _ = _; rw [List.length_append, Hm.out]; rfl, E, inferInstance, isext⟩
        case measure => simp [intOf]; omega
      · have E : Hid (Ers.setOf (rl.take (j + 1)) nm = ls) := by show _ = _; rw [(Eno (beq_eq_false_iff_ne.2 q3)).out, Hl.out]
        clear Eno Eyes hrow q3
        go_wp2
        go_roundw
        case rel => exact ⟨j + 1, m, ls, by omega, by omega, by go_num, Hm, E, inferInstance, isext⟩
        case measure => simp [intOf]; omega
    · have E : Hid (Ers.setOf rl nm = ls) := by have := Hl.out; rwa [List.take_of_length_le (by rw [Hnr.out]; omega)] at this
      have HE := fun w1 h3 h4 => hend (.slice av m cap) m w1 ls Hm.out E.out h3 h4
      clear hend
      go_wp2
      go_ret
      exact (HE _ OwnsC.own isext).out
end Go.Proofs.YtcjnficcggjeiaaGreatDoor
set_option linter.unusedVariables false
set_option linter.unusedSimpArgs false
namespace Go.Proofs.YtcjnficcggjeiaaGreatDoor
open Go.RowKit Go.Shelf

theorem rahead_set {l : List Rule} (hA : Rul.allB l = true) (x : Era) (t : Int) (a1 : -9223372036854775808 ≤ t) (a2 : t ≤ 9223372036854775807) (n : Nat) (hn : (Ers.setOf l x.rs).length = n) (v : Value) (w : World) (hr : Reads w v n (ruleRow (Ers.setOf l x.rs))) :
    Rets Tryz.prog 22 #[v, .int .i64 t] w (.tuple #[turnV (Rul.orNo (Rul.aheadD (Ers.setOf l x.rs) t)), .bool (Rul.aheadD (Ers.setOf l x.rs) t).isSome]) :=
  rahead_all (Ers.setOf l x.rs) n hn (Ers.set_all hA _) t a1 a2 v w hr
set_option maxRecDepth 100000 in
set_option maxHeartbeats 8000000 in
theorem dEnd_any (s : Source) (hS : Src.srcB s = true) (x : Era) (hx : Src.eraB x = true) (ht : x.til = true) (v : Value) (w : World) (hr : ReadsS w v s) :
    Rets Tryz.prog 10 #[v, eraV x] w (.int .i64 (Ers.endD s.rules x)) := by
  obtain ⟨hA, -, h9⟩ := src_rules hS
  obtain ⟨o1, o2, -, hk, he⟩ := Ers.era_parts hx
  have hy : 1 ≤ x.y ∧ x.y ≤ 9999 ∧ Mom.rightB x.m x.k x.wd x.d x.t x.r = true := by
    rcases he with ⟨-, h1, h2, h3⟩ | ⟨h, -⟩
    · exact ⟨h1, h2, h3⟩
    · rw [ht] at h; cases h
  obtain ⟨l1, l2⟩ := Ers.loc_bd x.m x.k x.wd x.d x.t x.r x.y hy.2.1
  obtain ⟨b1, b2⟩ := Ers.ahead_bd hA hx
  have HS := fun w h => Lib.hid (eraset_any s x.rs v w h h9)
  have HL := fun w => Lib.hid (rlocal_any x.m x.k x.wd x.d x.t x.r x.y w)
  have HA := fun n hn v w hr => Lib.hid (rahead_set hA x (Ers.locD x) (by unfold Ers.locD; omega) (by unfold Ers.locD; omega) n hn v w hr)
  have E : Ers.endD s.rules x = if x.r = 2 then Ers.locD x else if x.r = 1 then Ers.locD x - x.off else Ers.locD x - x.off - Ers.aheadS s.rules x := rfl
  have EA : Ers.aheadS s.rules x = if x.kd = 2 then (Rul.orNo (Rul.aheadD (Ers.setOf s.rules x.rs) (Ers.locD x))).s else x.s := rfl
  have hloc : locV x.m x.k x.wd x.d x.t x.r x.y = Ers.locD x := rfl
  rw [hloc] at l1 l2 HL
  generalize Ers.locD x = T at *
  generalize Ers.endD s.rules x = EN at *
  generalize Ers.aheadS s.rules x = AS at *
  generalize Mom.onB x.m x.k x.wd x.d x.t x.r x.y = ob at *
  generalize (Rul.aheadD (Ers.setOf s.rules x.rs) T).isSome = fb at *
  generalize Rul.orNo (Rul.aheadD (Ers.setOf s.rules x.rs) T) = bb at *
  have hr0 := Lib.hid hr
  obtain ⟨vr, vz, vl, rfl, hr1, hr2, hr3⟩ := hr
  obtain ⟨zp, hzp, hz2', -⟩ := hr2
  obtain ⟨ar, cr, rfl⟩ := shape_of hr1
  obtain ⟨az, cz, rfl⟩ := shape_of hz2'
  obtain ⟨al, cl, rfl⟩ := shape_of hr3
  generalize s.rules.length = nr at *
  generalize s.zones.length = nz at *
  generalize s.links.length = nl at *
  have hcs : (x.r = 2 ∧ EN = T) ∨ ((x.r == 2) = false ∧ x.r = 1 ∧ EN = T - x.off) ∨ ((x.r == 2) = false ∧ (x.r == 1) = false ∧ x.kd = 2 ∧ EN = T - x.off - bb.s ∧ AS = bb.s) ∨ ((x.r == 2) = false ∧ (x.r == 1) = false ∧ (x.kd == 2) = false ∧ EN = T - x.off - x.s ∧ AS = x.s) := by
    by_cases h1 : x.r = 2
    · exact .inl ⟨h1, by rw [E, if_pos h1]⟩
    · right
      rw [if_neg h1] at E
      by_cases h2 : x.r = 1
      · exact .inl ⟨beq_eq_false_iff_ne.2 h1, h2, by rw [E, if_pos h2]⟩
      · right
        rw [if_neg h2] at E
        by_cases h3 : x.kd = 2
        · rw [if_pos h3] at EA
          exact .inl ⟨beq_eq_false_iff_ne.2 h1, beq_eq_false_iff_ne.2 h2, h3, by rw [E, EA], EA⟩
        · rw [if_neg h3] at EA
          exact .inr ⟨beq_eq_false_iff_ne.2 h1, beq_eq_false_iff_ne.2 h2, beq_eq_false_iff_ne.2 h3, by rw [E, EA], EA⟩
  clear E EA hk he hy ht hx hr1 hr3 hz2' hzp hloc
  obtain ⟨off, kd, sa, rs, fm, til, y, m, k, wd, d, t', r⟩ := x
  obtain ⟨ba, br, bs, bl⟩ := bb
  simp only at hcs HS HL HA o1 o2
  unfold Rets
  rcases hcs with ⟨rfl, rfl⟩ | ⟨g1, rfl, rfl⟩ | ⟨g1, g2, rfl, rfl, rfl⟩ | ⟨g1, g2, g3, rfl, rfl⟩
  · clear HS HA
    go_enter Tryz.func10, Tryz.ntmps10
    go_wp2_with (go_at_call 21; refine Rets.use (HL _).out ?_; intro _)
    go_ret
    exact ⟨rfl, done⟩
  · clear HS HA
    go_enter Tryz.func10, Tryz.ntmps10
    go_wp2_with (go_at_call 21; refine Rets.use (HL _).out ?_; intro _)
    go_ret
    exact ⟨rfl, done⟩
  · go_enter Tryz.func10, Tryz.ntmps10
    go_wp2_with fail
    go_at_call 21
    refine Rets.use (HL _).out ?_
    intro y1
    go_wp2_with fail
    go_at_call 23
    refine (HS _ (hr0.out.ext isext)).out.mono ?_
    rintro e w' ⟨sv, n, y2, rfl, hn, hv, hap, rfl⟩
    obtain ⟨a1, c1, rfl⟩ := shape_of hv
    have HAx := HA n hn (.slice a1 n c1)
    have Hv := Lib.hid hv
    clear hn hv hap HA
    go_wp2_with (go_at_call 22; refine Rets.use (HAx _ (Hv.out.ext isext)).out ?_; intro _)
    go_ret
    exact ⟨rfl, done⟩
  · clear HS HA
    go_enter Tryz.func10, Tryz.ntmps10
    go_wp2_with (go_at_call 21; refine Rets.use (HL _).out ?_; intro _)
    go_ret
    exact ⟨rfl, done⟩
end Go.Proofs.YtcjnficcggjeiaaGreatDoor
set_option linter.unusedVariables false
set_option linter.unusedSimpArgs false
namespace Go.Proofs.YtcjnficcggjeiaaGreatDoor
open Go.RowKit Go.Shelf

set_option maxRecDepth 100000 in
set_option maxHeartbeats 8000000 in
theorem dPhase_any (s : Source) (hS : Src.srcB s = true) (x : Era) (hx : Src.eraB x = true) (t : Int) (a1 : -9223372036854775808 ≤ t) (a2 : t ≤ 9223372036854775807) (v : Value) (w : World) (hr : ReadsS w v s) :
    Rets Tryz.prog 14 #[v, eraV x, .int .i64 t] w (phV (Ers.phaseD s.rules x t)) := by
  obtain ⟨hA, hL, h9⟩ := src_rules hS
  obtain ⟨o1, o2, hfm, hk, -⟩ := Ers.era_parts hx
  obtain ⟨s1, s2⟩ := Ers.save_bd hA hx t
  have hll := Ers.let_len hL x t
  have hfl := Ers.fmt_len hfm
  rw [size_of] at hfl
  have HS := fun w h => Lib.hid (eraset_any s x.rs v w h h9)
  have HF := fun n hn v w hr => Lib.hid (rforce_all (Ers.setOf s.rules x.rs) n hn (Ers.set_all hA _) x.off (by omega) (by omega) t a1 a2 v w hr)
  have HB := fun w => Lib.hid (dabbr_any x.fm (Ers.letD s.rules x t) (x.off + Ers.saveD s.rules x t) (Ers.saveD s.rules x t) (by omega) (by omega) (by omega) (by omega) w)
  have E : Ers.phaseD s.rules x t = ⟨x.off + Ers.saveD s.rules x t, Ers.saveD s.rules x t, Ers.abbrB x.fm (Ers.letD s.rules x t) (x.off + Ers.saveD s.rules x t) (Ers.saveD s.rules x t)⟩ := rfl
  have hforce : Ers.forceT s.rules x t = Rul.forceD (Ers.setOf s.rules x.rs) x.off t := rfl
  rw [E]
  generalize Ers.abbrB x.fm (Ers.letD s.rules x t) (x.off + Ers.saveD s.rules x t) (Ers.saveD s.rules x t) = AB at *
  have hr0 := Lib.hid hr
  obtain ⟨vr, vz, vl, rfl, hr1, hr2, hr3⟩ := hr
  obtain ⟨zp, hzp, hz2', -⟩ := hr2
  obtain ⟨ar, cr, rfl⟩ := shape_of hr1
  obtain ⟨az, cz, rfl⟩ := shape_of hz2'
  obtain ⟨al, cl, rfl⟩ := shape_of hr3
  generalize s.rules.length = nr at *
  generalize s.zones.length = nz at *
  generalize s.links.length = nl at *
  have hcs : (x.kd = 2 ∧ Ers.saveD s.rules x t = (Ers.forceT s.rules x t).s ∧ Ers.letD s.rules x t = (Ers.forceT s.rules x t).l) ∨ ((x.kd == 2) = false ∧ Ers.saveD s.rules x t = x.s ∧ Ers.letD s.rules x t = ⟨#[]⟩) := by
    unfold Ers.saveD Ers.letD
    by_cases h : x.kd = 2
    · exact .inl ⟨h, if_pos h, if_pos h⟩
    · exact .inr ⟨beq_eq_false_iff_ne.2 h, if_neg h, if_neg h⟩
  rw [hforce] at hcs
  generalize Rul.forceD (Ers.setOf s.rules x.rs) x.off t = T at *
  generalize Ers.saveD s.rules x t = SV at *
  generalize Ers.letD s.rules x t = LT at *
  clear E hk hfm hx hr1 hr3 hz2' hzp hforce hll hfl
  obtain ⟨off, kd, sa, rs, fm, til, y, m, k, wd, d, t', r⟩ := x
  obtain ⟨ta, tr, ts, tl⟩ := T
  simp only at hcs HS HF HB o1 o2 ⊢
  unfold Rets
  rcases hcs with ⟨rfl, rfl, rfl⟩ | ⟨g1, rfl, rfl⟩
  · go_enter Tryz.func14, Tryz.ntmps14
    go_wp2_with fail
    refine wp_region_held_drew (S := fun w' => w'.cell? ⟨w.heap.size, 0, none⟩ = some (.slice ar nr cr) ∧ w'.cell? ⟨w.heap.size, 1, none⟩ = some (.slice az nz cz) ∧ w'.cell? ⟨w.heap.size, 2, none⟩ = some (.slice al nl cl) ∧ w'.cell? ⟨w.heap.size + 1, 0, none⟩ = some (.int .i64 off) ∧ w'.cell? ⟨w.heap.size + 1, 3, none⟩ = some (.string rs)) (by kernel_rfl) (by (try dsimp only); go_keep) (fun hHeld => ?_)
    refine wpAnyH_take (i := 0) (oi := ⟨some 15, _, _, _, _, _⟩) (v := ?_) rfl (by kernel_rfl) (by kernel_rfl) (by kernel_rfl) (fun _ _ _ h => h) (Or.inl ⟨by rfl, ?_⟩) (by assumption) ?_
    rotate_left
    · intro w hSw; (try dsimp only at hSw); go_simp; first | done | (with_reducible rfl) | (rw [if_pos (by omega)]) | (rw [if_neg (by omega)])
    try simp only [Act.put, List.setIfInBounds_toArray, List.set_cons_zero, List.set_cons_succ]
    refine wpAnyH_take (i := 1) (oi := ⟨some 16, _, _, _, _, _⟩) (v := ?_) rfl (by kernel_rfl) (by kernel_rfl) (by kernel_rfl) (fun _ _ _ h => h) (Or.inl ⟨by rfl, ?_⟩) (by assumption) ?_
    rotate_left
    · intro w hSw; (try dsimp only at hSw); go_simp; first | done | (with_reducible rfl) | (rw [if_pos (by omega)]) | (rw [if_neg (by omega)])
    try simp only [Act.put, List.setIfInBounds_toArray, List.set_cons_zero, List.set_cons_succ]
    refine wpAnyH_take (i := 2) (oi := ⟨some 17, _, _, _, _, _⟩) (v := ?_) rfl (by kernel_rfl) (by kernel_rfl) (by kernel_rfl) (fun _ _ _ h => h) (Or.inl ⟨by rfl, ?_⟩) (by assumption) ?_
    rotate_left
    · intro w hSw; (try dsimp only at hSw); go_simp; first | done | (with_reducible rfl) | (rw [if_pos (by omega)]) | (rw [if_neg (by omega)])
    try simp only [Act.put, List.setIfInBounds_toArray, List.set_cons_zero, List.set_cons_succ]
    refine wpAnyH_take (i := 4) (oi := ⟨some 19, _, _, _, _, _⟩) (v := ?_) rfl (by kernel_rfl) (by kernel_rfl) (by kernel_rfl) (fun _ _ _ h => h) (Or.inl ⟨by rfl, ?_⟩) (by assumption) ?_
    rotate_left
    · intro w hSw; (try dsimp only at hSw); go_simp; first | done | (with_reducible rfl) | (rw [if_pos (by omega)]) | (rw [if_neg (by omega)])
    try simp only [Act.put, List.setIfInBounds_toArray, List.set_cons_zero, List.set_cons_succ]
    refine wpAnyH_take (i := 5) (oi := ⟨some 20, _, _, _, _, _⟩) (v := ?_) rfl (by kernel_rfl) (by kernel_rfl) (by kernel_rfl) (fun _ _ _ h => h) (Or.inl ⟨by rfl, ?_⟩) (by assumption) ?_
    rotate_left
    · intro w hSw; (try dsimp only at hSw); go_simp; first | done | (with_reducible rfl) | (rw [if_pos (by omega)]) | (rw [if_neg (by omega)])
    try simp only [Act.put, List.setIfInBounds_toArray, List.set_cons_zero, List.set_cons_succ]
    refine wpAnyH_take (i := 6) (oi := ⟨some 21, _, _, _, _, _⟩) (v := ?_) rfl (by kernel_rfl) (by kernel_rfl) (by kernel_rfl) (fun _ _ _ h => h) (Or.inl ⟨by rfl, ?_⟩) (by assumption) ?_
    rotate_left
    · intro w hSw; (try dsimp only at hSw); go_simp; first | done | (with_reducible rfl) | (rw [if_pos (by omega)]) | (rw [if_neg (by omega)])
    try simp only [Act.put, List.setIfInBounds_toArray, List.set_cons_zero, List.set_cons_succ]
    refine wpAnyH_ready (rs := [3]) (by kernel_rfl) (by simp) ?_
    refine AllReadyH.cons (o := ⟨some 18, _, _, _, _, _⟩) rfl (fun K hK => ?_) ?_
    · go_simp
      go_at_call 23; refine (HS _ (hr0.out.ext isext)).out.mono ?_; rintro e w' ⟨sv, n, y2, rfl, hn, hv, hap, rfl⟩; obtain ⟨a9, c9, rfl⟩ := shape_of hv; have HFx := HF n hn (.slice a9 n c9); have Hv := Lib.hid hv; clear hn hv hap HF
      refine hK.out _ _ ?_ (fun hHeld => ?_)
      · (try dsimp only); first | done | go_keep
      clear hK K
      try simp only [Act.put, List.setIfInBounds_toArray, List.set_cons_zero, List.set_cons_succ]
      refine wpAnyH_ready (rs := [7]) (by kernel_rfl) (by simp) ?_
      refine AllReadyH.cons (o := ⟨some 22, _, _, _, _, _⟩) rfl (fun K hK => ?_) ?_
      · go_simp
        go_at_call 27; refine Rets.use (HFx _ (Hv.out.ext isext)).out ?_; intro y3
        refine hK.out _ _ ?_ (fun hHeld => ?_)
        · (try dsimp only); first | done | go_keep
        clear hK K
        try simp only [Act.put, List.setIfInBounds_toArray, List.set_cons_zero, List.set_cons_succ]
        refine wpAnyH_take (i := 8) (oi := ⟨some 14, _, _, _, _, _⟩) (v := ?_) rfl (by kernel_rfl) (by kernel_rfl) (by kernel_rfl) (fun _ _ _ h => h) (Or.inl ⟨by rfl, ?_⟩) (by assumption) ?_
        rotate_left
        · intro w hSw; (try dsimp only at hSw); go_simp; first | done | (with_reducible rfl) | (rw [if_pos (by omega)]) | (rw [if_neg (by omega)])
        try simp only [Act.put, List.setIfInBounds_toArray, List.set_cons_zero, List.set_cons_succ]
        refine wpAnyH_take (i := 9) (oi := ⟨some 23, _, _, _, _, _⟩) (v := ?_) rfl (by kernel_rfl) (by kernel_rfl) (by kernel_rfl) (fun _ _ _ h => h) (Or.inl ⟨by rfl, ?_⟩) (by assumption) ?_
        rotate_left
        · intro w hSw; (try dsimp only at hSw); go_simp; first | done | (with_reducible rfl) | (rw [if_pos (by omega)]) | (rw [if_neg (by omega)])
        try simp only [Act.put, List.setIfInBounds_toArray, List.set_cons_zero, List.set_cons_succ]
        refine wpAnyH_take (i := 10) (oi := ⟨some 24, _, _, _, _, _⟩) (v := ?_) rfl (by kernel_rfl) (by kernel_rfl) (by kernel_rfl) (fun _ _ _ h => h) (Or.inl ⟨by rfl, ?_⟩) (by assumption) ?_
        rotate_left
        · intro w hSw; (try dsimp only at hSw); go_simp; first | done | (with_reducible rfl) | (rw [if_pos (by omega)]) | (rw [if_neg (by omega)])
        try simp only [Act.put, List.setIfInBounds_toArray, List.set_cons_zero, List.set_cons_succ]
        refine wpAnyH_take (i := 11) (oi := ⟨some 7, _, _, _, _, _⟩) (v := ?_) rfl (by kernel_rfl) (by kernel_rfl) (by kernel_rfl) (fun _ _ _ h => h) (Or.inl ⟨by rfl, ?_⟩) (by assumption) ?_
        rotate_left
        · intro w hSw; (try dsimp only at hSw); go_simp; first | done | (with_reducible rfl) | (rw [if_pos (by omega)]) | (rw [if_neg (by omega)])
        try simp only [Act.put, List.setIfInBounds_toArray, List.set_cons_zero, List.set_cons_succ]
        refine wpAnyH_take (i := 12) (oi := ⟨some 8, _, _, _, _, _⟩) (v := ?_) rfl (by kernel_rfl) (by kernel_rfl) (by kernel_rfl) (fun _ _ _ h => h) (Or.inl ⟨by rfl, ?_⟩) (by assumption) ?_
        rotate_left
        · intro w hSw; (try dsimp only at hSw); go_simp; first | done | (with_reducible rfl) | (rw [if_pos (by omega)]) | (rw [if_neg (by omega)])
        try simp only [Act.put, List.setIfInBounds_toArray, List.set_cons_zero, List.set_cons_succ]
        refine wpAnyH_done (by kernel_rfl) ?_ _
        go_wp2_with fail
        refine wp_region_past_tail1 15 (by kernel_rfl) (by kernel_rfl) ?_
        simp only [List.take_succ_cons, List.take_zero, List.drop_succ_cons, List.drop_zero]
        repeat (go_big_quiet_step ((go_at_call 28; exact Rets.quiet (HB _).out)))
        refine wpQuiet_nil ?_
        intro y4
        go_wp2
        refine bodyPost_ret (v := phV ⟨off + SV, SV, AB⟩) ?_ rfl ⟨rfl, done⟩
        simp [results, Tryz.f14, go_sem]
      exact AllReadyH.nil
    exact AllReadyH.nil
  · clear HS HF
    go_enter Tryz.func14, Tryz.ntmps14
    go_wp2_with fail
    refine wp_region_past_tail 15 (by kernel_rfl) (by kernel_rfl) ?_
    simp only [List.take_succ_cons, List.take_zero, List.drop_succ_cons, List.drop_zero]
    repeat (go_big_quiet_step ((go_at_call 28; exact Rets.quiet (HB _).out)))
    refine wpQuiet_nil ?_
    intro y4
    go_wp2
    refine bodyPost_ret (v := phV ⟨off + SV, SV, AB⟩) ?_ rfl ⟨rfl, done⟩
    simp [results, Tryz.f14, go_sem]
end Go.Proofs.YtcjnficcggjeiaaGreatDoor
