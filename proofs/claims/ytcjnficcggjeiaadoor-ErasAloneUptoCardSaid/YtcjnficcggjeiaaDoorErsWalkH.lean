/- Walks of eras: the rules of a name. -/
import Derived.Test.YtcjnficcggjeiaaDoorErsPlainB
import Derived.Test.YtcjnficcggjeiaaDoorSrcWalkF
import Derived.Test.YtcjnficcggjeiaaDoorOwns
import Derived.Test.YtcjnficcggjeiaaDoorErsWalkE
set_option linter.unusedVariables false
set_option linter.unusedSimpArgs false
namespace Go.Proofs.YtcjnficcggjeiaaDoor
open Go.RowKit Go.Shelf

theorem ruleRow_snoc (l : List Rule) (x : Rule) : ruleRow (l ++ [x]) = ruleRow l ++ ruleCells x := by
  rw [ruleRow_eq, ruleRow_eq, rowOf_snoc]
theorem Tryd.infoRule : (Tryd.prog.info? 43).map (fun i => (i.zero, i.size, i.bytes)) = some (some (.agg #[.string ByteArray.empty, .int .i64 0, .int .i64 0, .int .i64 0, .int .i64 0, .int .i64 0, .int .i64 0, .int .i64 0, .int .i64 0, .int .i64 0, .string ByteArray.empty]), 11, 104) := by kernel_rfl
theorem info_partsR {i : Option TypeInfo} {z : Option Value} {s b : Nat} (h : i.map (fun i => (i.zero, i.size, i.bytes)) = some (z, s, b)) : ∃ j, i = some j ∧ j.zero = z ∧ j.size = s ∧ j.bytes = b := by
  cases i with
  | none => cases h
  | some j => simp at h; exact ⟨j, rfl, h.1, h.2.1, h.2.2⟩
/-- The call gives a slice of these rules. -/
def Apart (v : Value) (N : Nat) : Prop := ∀ b o n c, v = .slice (some ⟨b, o, none⟩) n c → N ≤ b
def SetEnd (w : World) (l : List Rule) (e : Ending) (w' : World) : Prop := ∃ (v : Value) (n : Nat) (y : Past w), e = .returned v ∧ l.length = n ∧ Reads y.x v n (ruleRow l) ∧ Apart v w.heap.size ∧ w' = y.x
theorem apart_of {w : World} {base : Nat} {e : TypeId} {size : Nat} {v : Value} {n : Nat} {xs : List Value} (h : w.ownsRow base e size v n xs) : Apart v base := by
  intro b o n' c hv
  rcases h.2 with ⟨h1, _⟩ | ⟨g, cap, cur, h1, h2, _⟩
  · rw [h1] at hv; cases hv
  · rw [h1] at hv
    injection hv with hv
    injection hv with hv
    injection hv with hv
    omega
theorem cell_set_ne (w : World) {b i k j : Nat} (u : Value) (h : k ≠ b) : (w.setCell ⟨k, j, none⟩ u).cell? ⟨b, i, none⟩ = w.cell? ⟨b, i, none⟩ :=
  World.cell?_setCell_other (w := w) (a := ⟨k, j, none⟩) (b := ⟨b, i, none⟩) _ (by intro e; injection e with e1 _; exact h e1)
theorem reads_set {w : World} (y : Past w) {v : Value} {n N : Nat} {cs : List Value} (k i : Nat) (u : Value) [InW k w] (h : Reads y.x v n cs) (ha : Apart v N) (hk : k < N) : Reads (y.set k i u).x v n cs := by
  show Reads (y.x.setCell ⟨k, i, none⟩ u) v n cs
  rcases h with h | ⟨b, off, cap, hv, h1, h2, hb, hc⟩
  · exact .inl h
  · have := ha b off n cap hv
    exact .inr ⟨b, off, cap, hv, h1, h2, by simpa [World.setCell] using hb, fun j x hj => by rw [cell_set_ne _ _ (by omega)]; exact hc j x hj⟩
set_option maxRecDepth 100000 in
set_option maxHeartbeats 8000000 in
theorem eset_any (s : Source) (nm : ByteArray) (v : Value) (w : World) (hr : ReadsS w v s) (h9 : s.rules.length ≤ 1000) :
    Calls Tryd.prog 15 #[v, .string nm] w (SetEnd w (Ers.setOf s.rules nm)) := by
  obtain ⟨i0, hi, hz0, hz1, hz2⟩ := info_partsR Tryd.infoRule
  obtain ⟨vr, vz, vl, rfl, hr1, hr2, hr3⟩ := hr
  obtain ⟨zp, hzp, hz2', -⟩ := hr2
  obtain ⟨rl, zl, ll⟩ := s
  simp only at hr1 hr3 hz2' h9 ⊢
  obtain ⟨nr, hnr⟩ : ∃ n, rl.length = n := ⟨_, rfl⟩
  rw [hnr] at hr1 h9
  obtain ⟨ar, cr, rfl⟩ := shape_of hr1
  obtain ⟨az, cz, rfl⟩ := shape_of hz2'
  obtain ⟨al, cl, rfl⟩ := shape_of hr3
  have b1 := len_of hr1
  have Hr1 := Lib.hid hr1
  have Hnr := Lib.hid hnr
  have hend : ∀ (av : Value) (m : Nat) (w1 : World) (ls : List Rule), ls.length = m → Ers.setOf rl nm = ls → w1.ownsRow w.heap.size 43 11 av m (ruleRow ls) → Ext w w1 → Hid (SetEnd w (Ers.setOf rl nm) (.returned av) w1) := fun av m w1 ls h1 h2 h3 h4 => by
    show SetEnd _ _ _ _
    rw [h2]
    exact ⟨av, m, ⟨w1, h4⟩, rfl, h1, owns_reads h3 (by omega), apart_of h3, rfl⟩
  have hrow : ∀ (ls : List Rule) x, Hid (ruleRow (ls ++ [x]) = ruleRow ls ++ ruleCells x) := fun ls x => ruleRow_snoc ls x
  generalize zl.length = nz at *
  generalize ll.length = nl at *
  clear hr1 hr3 hz2' hnr hzp
  go_enter Tryd.func15, Tryd.ntmps15
  go_wp2_with fail
  go_loopw [5, 11] (fun ov iv wr => ∃ (j m : Nat) (ls : List Rule), j ≤ nr ∧ m ≤ j ∧ iv = .int .i64 j ∧ Hid (ls.length = m) ∧ Hid (Ers.setOf (rl.take j) nm = ls) ∧ OwnsC wr w.heap.size 43 11 ov m (ruleRow ls) ∧ Ext w wr) (fun _ i _ => nr - (intOf i).toNat)
  case atStart => exact ⟨0, 0, [], by omega, by omega, rfl, rfl, rfl, ⟨World.ownsRow_nil _ _ _ _⟩, isext⟩
  case round =>
    obtain ⟨j, m, ls, j2, m2, rfl, Hm, Hl, hown, hx⟩ := hrel
    obtain ⟨yr, rfl⟩ := fin hx
    clear hx
    obtain ⟨av, cap, rfl⟩ := owns_shape hown.own
    by_cases hlt : j < nr
    · have hj : j < rl.length := by rw [Hnr.out]; exact hlt
      rcases Hr1.out with ⟨_, _, e9, h9, _⟩ | ⟨b, o, c9, e9, k1, k2, m1, hc⟩
      · exact absurd h9 (by omega)
      injection e9 with e9 e8 e7
      subst e9
      clear e8 e7
      haveI : InW b w := ⟨m1⟩
      obtain ⟨c0, c1, c2, c3, c4, c5, c6, c7, c8, c9, c10⟩ := rule_at hc j hj
      clear hc
      have Eno := fun h => Lib.hid (Ers.set_no (nm := nm) hj h)
      have Eyes := fun h => Lib.hid (Ers.set_yes (nm := nm) hj h)
      generalize rl[j] = x at *
      obtain ⟨nm', a, b', mm, k, wd, d, t, r, s, lt⟩ := x
      simp only at c0 c1 c2 c3 c4 c5 c6 c7 c8 c9 c10
      rcases text_cases nm' nm with ⟨q1, q2, rfl⟩ | ⟨q1, q2, q3⟩
      · have E : Hid (Ers.setOf (rl.take (j + 1)) nm' = ls ++ [⟨nm', a, b', mm, k, wd, d, t, r, s, lt⟩]) := by show _ = _; rw [(Eyes (by simp)).out, Hl.out]
        have HR := hrow ls ⟨nm', a, b', mm, k, wd, d, t, r, s, lt⟩
        clear Eno Eyes hrow
        go_wp2_with (at_builtin; refine wpList_append_own _ rfl _ _ 25 rfl w.heap.size 43 i0 (.agg #[.string ByteArray.empty, .int .i64 0, .int .i64 0, .int .i64 0, .int .i64 0, .int .i64 0, .int .i64 0, .int .i64 0, .int .i64 0, .int .i64 0, .string ByteArray.empty]) 11 104 Tryd.underlying25 hi hz0 hz1 hz2 rfl (by decide) (.slice av m cap) m (ruleRow ls) rfl (OwnsC.own) _ 1 1 [.string nm', .int .i64 a, .int .i64 b', .int .i64 mm, .int .i64 k, .int .i64 wd, .int .i64 d, .int .i64 t, .int .i64 r, .int .i64 s, .string lt] rfl rfl (new_cells' _ _ _ _ (by simp)) (by simp [Value.oneCell']) (by unfold maxLen; omega) (by omega) (GeW.ge) ?_; intro v' w1 hown1 hgrow1 _; obtain ⟨av', cap', rfl⟩ := owns_shape hown1; obtain ⟨y1, rfl⟩ := fin (Ext.grown (a := w) isext (OwnsC.own (e := 43) (size := 11) (n := m) (xs := ruleRow ls)) hgrow1); clear hgrow1; have hO : OwnsC y1.x w.heap.size 43 11 (.slice av' (m + 1) cap') (m + 1) (ruleRow (ls ++ [⟨nm', a, b', mm, k, wd, d, t, r, s, lt⟩])) := ⟨by rw [HR.out]; exact hown1⟩)
        go_roundw
        case rel => exact ⟨j + 1, m + 1, ls ++ [⟨nm', a, b', mm, k, wd, d, t, r, s, lt⟩], by omega, by omega, by go_num, by show _ = _; rw [List.length_append, Hm.out]; rfl, E, inferInstance, isext⟩
        case measure => simp [intOf]; omega
      · have E : Hid (Ers.setOf (rl.take (j + 1)) nm = ls) := by show _ = _; rw [(Eno (beq_eq_false_iff_ne.2 q3)).out, Hl.out]
        clear Eno Eyes hrow q3
        go_wp2
        go_roundw
        case rel => exact ⟨j + 1, m, ls, by omega, by omega, by go_num, Hm, E, inferInstance, isext⟩
        case measure => simp [intOf]; omega
    · have E : Hid (Ers.setOf rl nm = ls) := by have := Hl.out; rwa [List.take_of_length_le (by rw [Hnr.out]; omega)] at this
      have HE := fun w1 h3 h4 => hend (.slice av m cap) m w1 ls Hm.out E.out h3 h4
      clear hend
      go_wp2
      go_ret
      exact (HE _ OwnsC.own isext).out
end Go.Proofs.YtcjnficcggjeiaaDoor
set_option linter.unusedVariables false
set_option linter.unusedSimpArgs false
namespace Go.Proofs.YtcjnficcggjeiaaDoor
open Go.RowKit Go.Shelf

abbrev eraxCells (x : Era) (sv : Value) : List Value := [.int .i64 x.off, .int .i64 x.kd, .int .i64 x.s, .string x.rs, .string x.fm, .bool x.til, .int .i64 x.y, .int .i64 x.m, .int .i64 x.k, .int .i64 x.wd, .int .i64 x.d, .int .i64 x.t, .int .i64 x.r, sv]
abbrev eraxV (x : Era) (sv : Value) : Value := .agg (eraxCells x sv).toArray
/-- The slice is the era's set, where it has one. -/
def HasSet (w : World) (l : List Rule) (x : Era) (sv : Value) : Prop := (∃ a n c, sv = .slice a n c) ∧ (x.kd = 2 → ∃ n, (Ers.setOf l x.rs).length = n ∧ Reads w sv n (ruleRow (Ers.setOf l x.rs)))
theorem HasSet.ext {w w' : World} {l : List Rule} {x : Era} {sv : Value} (h : HasSet w l x sv) (hx : Ext w w') : HasSet w' l x sv :=
  ⟨h.1, fun hk => by obtain ⟨n, h1, h2⟩ := h.2 hk; exact ⟨n, h1, h2.ext hx⟩⟩
def OfEnd (w : World) (l : List Rule) (x : Era) (e : Ending) (w' : World) : Prop := ∃ (sv : Value) (y : Past w), e = .returned (eraxV x sv) ∧ HasSet y.x l x sv ∧ Apart sv w.heap.size ∧ w' = y.x
theorem ofEnd_mk {w w' : World} {l : List Rule} {x : Era} {sv : Value} (hx : Ext w w') (h : HasSet w' l x sv) (ha : Apart sv w.heap.size) : OfEnd w l x (.returned (eraxV x sv)) w' := ⟨sv, ⟨w', hx⟩, rfl, h, ha, rfl⟩
instance {a : World} {n k : Nat} [h : GeW a n] : GeW a (n + k) := ⟨Nat.le_trans h.ge (Nat.le_add_right _ _)⟩
set_option maxRecDepth 100000 in
set_option maxHeartbeats 8000000 in
theorem eof_any (s : Source) (x : Era) (v : Value) (w : World) (hr : ReadsS w v s) (h9 : s.rules.length ≤ 1000) :
    Calls Tryd.prog 23 #[v, eraV x] w (OfEnd w s.rules x) := by
  have HS := fun w hr => Lib.hid (eset_any s x.rs v w hr h9)
  have hr0 := hr
  obtain ⟨vr, vz, vl, rfl, -⟩ := id hr
  have HO : ∀ w' sv, Ext w w' → HasSet w' s.rules x sv → Apart sv w.heap.size → Hid (OfEnd w s.rules x (.returned (eraxV x sv)) w') := fun w' sv h1 h2 h3 => ofEnd_mk h1 h2 h3
  have hk : (x.kd = 2) ∨ ((x.kd == 2) = false ∧ ∀ w', Hid (HasSet w' s.rules x (.slice none 0 0))) := by
    by_cases h : x.kd = 2
    · exact .inl h
    · exact .inr ⟨beq_eq_false_iff_ne.2 h, fun w' => ⟨⟨_, _, _, rfl⟩, fun hh => absurd hh h⟩⟩
  have hk2 : x.kd = 2 → ∀ w' sv n, (Ers.setOf s.rules x.rs).length = n → Reads w' sv n (ruleRow (Ers.setOf s.rules x.rs)) → Hid (HasSet w' s.rules x sv) := fun h w' sv n h1 h2 => ⟨by obtain ⟨a, c, e⟩ := shape_of h2; exact ⟨_, _, _, e⟩, fun _ => ⟨n, h1, h2⟩⟩
  generalize s.rules = rl at *
  rcases hk with h | ⟨h, h2⟩
  · have hk3 := hk2 h
    clear hk2
    obtain ⟨off, kd, sa, rs, fm, til, y, m, k, wd, d, t, r⟩ := x
    simp only at h
    subst h
    simp only at HS hk3
    go_enter Tryd.func23, Tryd.ntmps23
    go_wp2_with fail
    go_at_call 15
    refine (HS _ (hr0.ext isext)).out.mono ?_
    rintro e w' ⟨sv, n, y1, rfl, hn, hv, hap, rfl⟩
    obtain ⟨a1, c1, rfl⟩ := shape_of hv
    have Hn := Lib.hid hn
    have Hv := Lib.hid hv
    have Ha := Lib.hid hap
    clear hn hv hap
    go_wp2
    refine bodyPost_ret (v := eraxV ⟨off, 2, sa, rs, fm, til, y, m, k, wd, d, t, r⟩ (.slice a1 n c1)) ?_ rfl ((HO _ _ isext (hk3 _ _ n Hn.out ?_).out (fun b o n' c e => by have := Ha.out b o n' c e; simp only [World.size_alloc] at this; omega)).out)
    · simp [results, Tryd.f23, go_sem]
    · have Ha2 := Ha.out
      simp only [World.size_alloc] at Ha2
      repeat refine reads_set _ _ _ _ ?_ Ha2 (by omega)
      exact Hv.out
  · clear hk2 HS
    obtain ⟨off, kd, sa, rs, fm, til, y, m, k, wd, d, t, r⟩ := x
    simp only at h
    go_enter Tryd.func23, Tryd.ntmps23
    go_wp2
    refine bodyPost_ret (v := eraxV ⟨off, kd, sa, rs, fm, til, y, m, k, wd, d, t, r⟩ (.slice none 0 0)) ?_ rfl ((HO _ _ isext (h2 _).out (fun b o n' c e => by cases e)).out)
    simp [results, Tryd.f23, go_sem]
end Go.Proofs.YtcjnficcggjeiaaDoor
set_option linter.unusedVariables false
set_option linter.unusedSimpArgs false
namespace Go.Proofs.YtcjnficcggjeiaaDoor
open Go.RowKit Go.Shelf

theorem ahead_set {l : List Rule} (hA : Rul.allB l = true) (x : Era) (t : Int) (a1 : -9223372036854775808 ≤ t) (a2 : t ≤ 9223372036854775807) (n : Nat) (hn : (Ers.setOf l x.rs).length = n) (v : Value) (w : World) (hr : Reads w v n (ruleRow (Ers.setOf l x.rs))) :
    Rets Tryd.prog 62 #[v, .int .i64 t] w (.tuple #[turnV (Rul.orNo (Rul.aheadD (Ers.setOf l x.rs) t)), .bool (Rul.aheadD (Ers.setOf l x.rs) t).isSome]) := by
  have h := ahead_all (Ers.setOf l x.rs) n hn t a1 a2 v w hr
  have e : aheadAll (Ers.setOf l x.rs) t = Rul.aheadD (Ers.setOf l x.rs) t := by unfold aheadAll; rw [if_pos (Ers.set_all hA _)]
  rw [e] at h; exact h
set_option maxRecDepth 100000 in
set_option maxHeartbeats 8000000 in
theorem eahead_any (l : List Rule) (hA : Rul.allB l = true) (x : Era) (sv : Value) (t : Int) (ht : t = Ers.locD x) (a1 : -9223372036854775808 ≤ t) (a2 : t ≤ 9223372036854775807) (w : World) (hs : HasSet w l x sv) :
    Rets Tryd.prog 41 #[eraxV x sv, .int .i64 t] w (.int .i64 (Ers.aheadS l x)) := by
  obtain ⟨⟨a9, n9, c9, rfl⟩, hs2⟩ := hs
  by_cases hk : x.kd = 2
  · obtain ⟨n, hn, hr⟩ := hs2 hk
    have E : Hid (Ers.aheadS l x = (Rul.orNo (Rul.aheadD (Ers.setOf l x.rs) t)).s) := by show _ = _; unfold Ers.aheadS; rw [if_pos hk, ht]
    have HR := fun w hr => Lib.hid (ahead_set hA x t a1 a2 n hn (.slice a9 n9 c9) w hr)
    generalize Ers.aheadS l x = S at *
    generalize (Rul.aheadD (Ers.setOf l x.rs) t).isSome = fb at *
    generalize Rul.orNo (Rul.aheadD (Ers.setOf l x.rs) t) = bb at *
    obtain ⟨ba, br, bs, bl⟩ := bb
    have Hr := Lib.hid hr
    clear hs2 hr ht
    obtain ⟨off, kd, sa, rs, fm, til, y, m, k, wd, d, t', r⟩ := x
    simp only at hk
    subst hk
    unfold Rets
    go_enter Tryd.func41, Tryd.ntmps41
    go_wp2_with (go_at_call 62; refine Rets.use (HR _ (Hr.out.ext isext)).out ?_; intro _)
    go_ret
    exact ⟨by rw [E.out]; first | done | rfl, done⟩
  · have E : Hid (Ers.aheadS l x = x.s) := by show _ = _; unfold Ers.aheadS; rw [if_neg hk]
    have g0 : (x.kd == 2) = false := beq_eq_false_iff_ne.2 hk
    have g1 : (x.kd != 2) = true := by unfold bne; rw [g0]; rfl
    generalize Ers.aheadS l x = S at *
    clear hs2 hk ht
    obtain ⟨off, kd, sa, rs, fm, til, y, m, k, wd, d, t', r⟩ := x
    simp only at g0 g1
    unfold Rets
    go_enter Tryd.func41, Tryd.ntmps41
    go_wp2
    go_ret
    exact ⟨by rw [E.out]; first | done | rfl, done⟩
/-- What an era's end answers. -/
def endV (l : List Rule) (x : Era) : Value := if x.til = true then .tuple #[.int .i64 (Ers.endD l x), .bool true] else .tuple #[.int .i64 0, .bool false]
set_option maxRecDepth 100000 in
set_option maxHeartbeats 8000000 in
theorem eend_any (l : List Rule) (hA : Rul.allB l = true) (x : Era) (hx : Src.eraB x = true) (sv : Value) (w : World) (hs : HasSet w l x sv) :
    Rets Tryd.prog 24 #[eraxV x sv] w (endV l x) := by
  obtain ⟨⟨a9, n9, c9, rfl⟩, -⟩ := id hs
  obtain ⟨o1, o2, -, -, he⟩ := Ers.era_parts hx
  rcases he with ⟨ht, y1, y2, hr⟩ | ⟨ht, -⟩
  · have E : Hid (endV l x = .tuple #[.int .i64 (Ers.endD l x), .bool true]) := by show _ = _; unfold endV; rw [if_pos ht]
    obtain ⟨l1, l2⟩ := Ers.loc_bd x.m x.k x.wd x.d x.t x.r x.y y2
    obtain ⟨s1, s2⟩ := Ers.ahead_bd hA hx
    obtain ⟨-, -, -, -, r1, r2, -⟩ := Mom.right_all hr
    have HL : ∀ w, Hid (Rets Tryd.prog 40 #[spotA x.m x.k x.wd x.d x.t x.r, .int .i64 x.y] w (.tuple #[.int .i64 (Ers.locD x), .bool (Mom.onB x.m x.k x.wd x.d x.t x.r x.y)])) := fun w => local_any x.m x.k x.wd x.d x.t x.r x.y w
    have l3 : -9000000000000 ≤ Ers.locD x := l1
    have l4 : Ers.locD x ≤ 9000000000000 := l2
    have HA : ∀ w, HasSet w l x (.slice a9 n9 c9) → Hid (Rets Tryd.prog 41 #[eraxV x (.slice a9 n9 c9), .int .i64 (Ers.locD x)] w (.int .i64 (Ers.aheadS l x))) := fun w h => eahead_any l hA x _ (Ers.locD x) rfl (by omega) (by omega) w h
    have hc : (x.r = 2 ∧ Hid (Ers.endD l x = Ers.locD x)) ∨ (x.r = 1 ∧ Hid (Ers.endD l x = Ers.locD x - x.off)) ∨ (x.r = 0 ∧ Hid (Ers.endD l x = Ers.locD x - x.off - Ers.aheadS l x)) := by
      unfold Ers.endD
      by_cases h2 : x.r = 2
      · exact .inl ⟨h2, by show _ = _; rw [if_pos h2]⟩
      · by_cases h1 : x.r = 1
        · exact .inr (.inl ⟨h1, by show _ = _; rw [if_neg h2, if_pos h1]⟩)
        · exact .inr (.inr ⟨by omega, by show _ = _; rw [if_neg h2, if_neg h1]⟩)
    have Hs := Lib.hid hs
    rw [E.out]
    clear l1 l2 hr r1 r2 hx hs E
    generalize Mom.onB x.m x.k x.wd x.d x.t x.r x.y = ob at *
    generalize Ers.locD x = L at *
    generalize Ers.aheadS l x = A at *
    generalize Ers.endD l x = N at *
    obtain ⟨off, kd, sa, rs, fm, til, y, m, k, wd, d, t, r⟩ := x
    simp only at ht hc o1 o2 y1 y2
    subst ht
    unfold Rets
    rcases hc with ⟨rfl, E⟩ | ⟨rfl, E⟩ | ⟨rfl, E⟩
    all_goals
      go_enter Tryd.func24, Tryd.ntmps24
      go_wp2_with (first | (go_at_call 40; refine Rets.use (HL _).out ?_; intro _) | (go_at_call 41; refine Rets.use (HA _ (Hs.out.ext isext)).out ?_; intro _))
      go_ret2
      exact ⟨by rw [E.out]; first | done | rfl, done⟩
  · have E : Hid (endV l x = .tuple #[.int .i64 0, .bool false]) := by show _ = _; unfold endV; rw [if_neg (by rw [ht]; simp)]
    rw [E.out]
    clear E hs hx o1 o2
    obtain ⟨off, kd, sa, rs, fm, til, y, m, k, wd, d, t, r⟩ := x
    simp only at ht
    subst ht
    unfold Rets
    go_enter Tryd.func24, Tryd.ntmps24
    go_wp2
    go_ret2
    exact ⟨rfl, done⟩
end Go.Proofs.YtcjnficcggjeiaaDoor
