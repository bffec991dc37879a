/- Walks of rules: universal times, and the latest turn by them, by the document. -/
import Derived.Test.YtcjnficcggjeiaaGreatDoorRulWalkF
set_option linter.unusedVariables false
set_option linter.unusedSimpArgs false
namespace Go.Proofs.YtcjnficcggjeiaaGreatDoor
open Go.RowKit

namespace Rul
/-- A turn's universal time. -/
def uniD (l : List Rule) (off : Int) (t : Turn) : Int := if t.r = 2 then t.at' else if t.r = 1 then t.at' - off else t.at' - off - (orNo (aheadD l t.at')).s
def lastP (l : List Rule) (off at0 : Int) (x : Rule) (y : Int) : Bool := turnB x y && decide (uniD l off (turnOf x y) ≤ at0)
def lastOf (l : List Rule) (off at0 : Int) (hi : Int) (x : Rule) : Option Turn := (down (lastP l off at0 x) x.a (min x.b hi)).map (turnOf x)
def lastD (l : List Rule) (off at0 : Int) : Option Turn := latestG (lastOf l off at0 (yearD at0 + 2)) l
end Rul
theorem last_cases (l : List Rule) (off at0 : Int) (x : Rule) (y : Int) : (Rul.turnB x y = false ∧ Rul.lastP l off at0 x y = false) ∨ (Rul.turnB x y = true ∧ at0 < Rul.uniD l off (Rul.turnOf x y) ∧ Rul.lastP l off at0 x y = false ∧ Rul.rturnOf x y = Rul.turnOf x y) ∨
    (Rul.turnB x y = true ∧ Rul.uniD l off (Rul.turnOf x y) ≤ at0 ∧ Rul.lastP l off at0 x y = true ∧ Rul.rturnOf x y = Rul.turnOf x y) := by
  unfold Rul.lastP Rul.rturnOf
  cases h : Rul.turnB x y
  · exact .inl ⟨rfl, rfl⟩
  · right
    by_cases h2 : Rul.uniD l off (Rul.turnOf x y) ≤ at0
    · exact .inr ⟨rfl, h2, by simp [h2], by simp⟩
    · exact .inl ⟨rfl, by omega, by simp [h2], by simp⟩
/-- A turn lies where times lie. -/
theorem turn_bd {x : Rule} {y : Int} (hx : Rul.rightB x = true) (h : Rul.turnB x y = true) : -9000000000000 ≤ (Rul.turnOf x y).at' ∧ (Rul.turnOf x y).at' ≤ 9000000000000 ∧ -43200 ≤ x.s ∧ x.s ≤ 43200 := by
  unfold Rul.turnB at h
  rw [Bool.and_eq_true] at h
  have hb : Mom.onB x.m x.k x.wd x.d x.t x.r y = true := h.1
  obtain ⟨hr, y1, y2, hok, hi⟩ := Mom.onB_all hb
  have hs : -43200 ≤ x.s ∧ x.s ≤ 43200 := by
    unfold Rul.rightB at hx
    simp only [Bool.and_eq_true, decide_eq_true_eq] at hx
    exact hx.2
  have hat : (Rul.turnOf x y).at' = Mom.onI x.m x.k x.wd x.d y * 86400 + x.t := by
    show locV x.m x.k x.wd x.d x.t x.r y = _
    unfold locV; rw [if_pos hb]
  obtain ⟨m1, m2, t1, t2, -, -, hk⟩ := Mom.right_all hr
  obtain ⟨-, n1, n2⟩ := Civ.okD_yes _ _ _ hok
  obtain ⟨l1, l2⟩ := Civ.mlen_bd y x.m
  have hlo : -100000100 ≤ Mom.onI x.m x.k x.wd x.d y := by
    unfold Mom.onI
    have b1 := Mom.back_bd (Civ.num y x.m 1 + Civ.mlen y x.m - 1) x.wd
    have b2 := Mom.back_bd (Civ.num y x.m 1 + x.d + 5) x.wd
    have b3 := Mom.back_bd (Civ.num y x.m 1 + x.d - 1) x.wd
    rcases hk with ⟨h, _⟩ | ⟨h, _⟩ | ⟨h, _⟩ | ⟨h, _⟩
    · rw [Mom.fall_0 h]; omega
    · rw [Mom.fall_1 h]; omega
    · rw [Mom.fall_2 h]; omega
    · rw [Mom.fall_3 h]; omega
  rw [hat]
  omega
/-- What is found came from a rule. -/
theorem latest_of {f : Rule → Option Turn} {p : Turn → Prop} (hf : ∀ (x : Rule) (t : Turn), f x = some t → Rul.rightB x = true → p t) : ∀ (l : List Rule) (q : Option Turn), Rul.allB l = true → (∀ t, q = some t → p t) → ∀ t, l.foldl (fun b x => match f x with | none => b | some t => Rul.upd b t) q = some t → p t := by
  intro l
  induction l with
  | nil => intro q _ hq t ht; exact hq t ht
  | cons x l ih =>
    intro q ha hq
    unfold Rul.allB at ha
    simp only [List.all_cons, Bool.and_eq_true] at ha
    refine ih _ ha.2 ?_
    intro t ht
    dsimp only at ht
    cases hx : f x with
    | none => rw [hx] at ht; exact hq t ht
    | some u =>
      rw [hx] at ht
      simp only at ht
      cases q with
      | none => cases ht; exact hf x _ hx ha.1
      | some b =>
        unfold Rul.upd at ht
        simp only at ht
        split at ht
        · cases ht; exact hf x _ hx ha.1
        · cases ht; exact hq _ rfl
theorem ahead_s {l : List Rule} (hA : Rul.allB l = true) (at0 : Int) : -43200 ≤ (Rul.orNo (Rul.aheadD l at0)).s ∧ (Rul.orNo (Rul.aheadD l at0)).s ≤ 43200 := by
  cases h : Rul.aheadD l at0 with
  | none => exact ⟨by show -43200 ≤ (0 : Int); omega, by show (0 : Int) ≤ 43200; omega⟩
  | some t =>
    refine latest_of (f := Rul.aheadOf at0 (Rul.yearD at0 + 2)) (p := fun t => -43200 ≤ t.s ∧ t.s ≤ 43200) ?_ l none hA (by intro t h; cases h) t h
    intro x t hx hr
    unfold Rul.aheadOf at hx
    obtain ⟨y, -, rfl⟩ := Option.map_eq_some_iff.1 hx
    unfold Rul.rightB at hr
    simp only [Bool.and_eq_true, decide_eq_true_eq] at hr
    exact hr.2
set_option maxRecDepth 100000 in
set_option maxHeartbeats 4000000 in
theorem runi_any (l : List Rule) (n : Nat) (hn : l.length = n) (hA : Rul.allB l = true) (h0 : n ≠ 0) (off : Int) (o1 : -86400 ≤ off) (o2 : off ≤ 86400) (t : Turn) (t1 : -9000000000000 ≤ t.at') (t2 : t.at' ≤ 9000000000000) (v : Value) (w : World) (hr : Reads w v n (ruleRow l)) :
    Rets Tryz.prog 78 #[v, .int .i64 off, turnV t] w (.int .i64 (Rul.uniD l off t)) := by
  obtain ⟨s1, s2⟩ := ahead_s hA t.at'
  have HA := fun w hr => Lib.hid (rahead_any l n hn hA t.at' (by omega) (by omega) v w hr h0)
  have hc : (t.r = 2 ∧ Rul.uniD l off t = t.at') ∨ ((t.r == 2) = false ∧ t.r = 1 ∧ Rul.uniD l off t = t.at' - off) ∨ ((t.r == 2) = false ∧ (t.r == 1) = false ∧ Rul.uniD l off t = t.at' - off - (Rul.orNo (Rul.aheadD l t.at')).s) := by
    unfold Rul.uniD
    by_cases h2 : t.r = 2
    · exact .inl ⟨h2, if_pos h2⟩
    · by_cases h1 : t.r = 1
      · exact .inr (.inl ⟨by simpa using h2, h1, by rw [if_neg h2, if_pos h1]⟩)
      · exact .inr (.inr ⟨by simpa using h2, by simpa using h1, by rw [if_neg h2, if_neg h1]⟩)
  generalize Rul.uniD l off t = U at *
  generalize (Rul.aheadD l t.at').isSome = fb at *
  generalize Rul.orNo (Rul.aheadD l t.at') = bb at *
  obtain ⟨ta, tr, ts, tl⟩ := t
  obtain ⟨ba, br, bs, bl⟩ := bb
  simp only at hc s1 s2 t1 t2 HA
  unfold Rets
  rcases hc with ⟨rfl, rfl⟩ | ⟨c1, rfl, rfl⟩ | ⟨c1, c2, rfl⟩
  all_goals
    go_enter Tryz.func78, Tryz.ntmps78
    go_wp2_with (go_at_call 22; refine Rets.use (HA _ (hr.ext isext)).out ?_; intro _)
    go_ret
    exact ⟨rfl, done⟩
theorem runi_turn (l : List Rule) (n : Nat) (hn : l.length = n) (hA : Rul.allB l = true) (h0 : n ≠ 0) (off : Int) (o1 : -86400 ≤ off) (o2 : off ≤ 86400) (j : Nat) (hj : j < l.length) (y : Int) (h : Rul.turnB l[j] y = true) (v : Value) (w : World) (hr : Reads w v n (ruleRow l)) :
    Rets Tryz.prog 78 #[v, .int .i64 off, turnV (Rul.turnOf l[j] y)] w (.int .i64 (Rul.uniD l off (Rul.turnOf l[j] y))) := by
  obtain ⟨t1, t2, -, -⟩ := turn_bd (List.all_eq_true.1 hA _ (List.getElem_mem hj)) h
  exact runi_any l n hn hA h0 off o1 o2 _ t1 t2 v w hr
end Go.Proofs.YtcjnficcggjeiaaGreatDoor
set_option linter.unusedVariables false
set_option linter.unusedSimpArgs false
namespace Go.Proofs.YtcjnficcggjeiaaGreatDoor
open Go.RowKit

set_option maxRecDepth 100000 in
set_option maxHeartbeats 16000000 in
theorem rlast_any (l : List Rule) (n : Nat) (hn : l.length = n) (hA : Rul.allB l = true) (off : Int) (o1 : -86400 ≤ off) (o2 : off ≤ 86400) (at0 : Int) (a1 : -9223372036854775808 ≤ at0) (a2 : at0 ≤ 9223372036854775807) (v : Value) (w : World) (hr : Reads w v n (ruleRow l)) (h0 : n ≠ 0) :
    Rets Tryz.prog 48 #[v, .int .i64 off, .int .i64 at0] w (.tuple #[turnV (Rul.orNo (Rul.lastD l off at0)), .bool (Rul.lastD l off at0).isSome]) := by
  have HY := fun w => Lib.hid (yeard_any at0 a1 a2 w)
  obtain ⟨y1, y2⟩ := yearD_bd at0
  have HF : Hid (Rul.lastD l off at0 = Rul.latestG (Rul.lastOf l off at0 (Rul.yearD at0 + 2)) l) := rfl
  generalize Rul.lastD l off at0 = R at *
  generalize Rul.yearD at0 = Y at *
  have hr0 := hr
  have hn0 := hn
  have hA0 := hA
  rcases hr with ⟨_, _, rfl, h1, _⟩ | ⟨b, o, c, rfl, k1, k2, m1, hc⟩
  · exact absurd h1 h0
  haveI : InW b w := ⟨m1⟩
  have hl : n ≤ 9223372036854775807 := by unfold maxLen at k2; omega
  have HC := Lib.hid hc
  have Hn := Lib.hid hn
  have HA := Lib.hid hA
  clear hc hn hA
  unfold Rets
  go_enter Tryz.func48, Tryz.ntmps48
  go_wp2
  go_loopw [9, 10] (fun fv iv wr => ∃ (j : Nat) (q : Option Turn), j ≤ n ∧ iv = .int .i64 j ∧ fv = .bool q.isSome ∧ Hid (Rul.latestG (Rul.lastOf l off at0 (Y + 2)) (l.take j) = q) ∧ Holds4 wr w.heap.size Rul.noTurn ∧ Holds4 wr (w.heap.size + 1) (Rul.orNo q) ∧ Ext w wr) (fun _ i _ => n - (intOf i).toNat)
  case atStart =>
    refine ⟨0, none, by omega, rfl, rfl, rfl, ?_, ?_, isext⟩
    · constructor <;> first | (simp [go_sem, Rul.noTurn]; done) | rfl | (simp; omega)
    · constructor <;> first | (simp [go_sem, Rul.noTurn, Rul.orNo]; done) | rfl | (simp; omega)
  case round =>
    obtain ⟨j, q, j2, rfl, rfl, he, hB0, hB1, hx⟩ := hrel
    obtain ⟨W1, eW⟩ : ∃ W1, W1 = wr := ⟨_, rfl⟩
    subst eW
    haveI : ExtC w W1 := ⟨hx⟩
    haveI : InW b W1 := ⟨Nat.lt_of_lt_of_le m1 (Below.size hx)⟩
    haveI : InW w.heap.size W1 := ⟨hB0.lt⟩
    haveI : InW (w.heap.size + 1) W1 := ⟨hB1.lt⟩
    by_cases hlt : j < n
    · have hj : j < l.length := by rw [Hn.out]; exact hlt
      obtain ⟨c0, c1, c2, c3, c4, c5, c6, c7, c8, c9, c10⟩ := rule_at (w := W1) (fun i u hu => (Below.cell (p := ⟨b, o + i, none⟩) hx m1).trans (HC.out i u hu)) j hj
      obtain ⟨r1, r2, r3, r4⟩ := all_right HA.out hj
      have HT := fun y w => Lib.hid (rturn_any l[j] y w)
      have HU := fun (y : Int) (h : Rul.turnB l[j] y = true) (w2 : World) (hx : Ext w w2) => Lib.hid (runi_turn l n hn0 hA0 h0 off o1 o2 j hj y h _ w2 (hr0.ext hx))
      have HP := fun y => Lib.hid (last_cases l off at0 l[j] y)
      have HN := fun h => Lib.hid (Rul.latest_none (f := Rul.lastOf l off at0 (Y + 2)) hj h)
      have HS := fun t h => Lib.hid (Rul.latest_some (f := Rul.lastOf l off at0 (Y + 2)) (t := t) hj h)
      have HL := fun a b w => Lib.hid (lesser_any a b w)
      have HO : Hid (Rul.lastOf l off at0 (Y + 2) l[j] = (Rul.down (Rul.lastP l off at0 l[j]) l[j].a (min l[j].b (Y + 2))).map (Rul.turnOf l[j])) := rfl
      have hx1 : IntKind.i64.wrap (Y + 2) = Y + 2 := by rw [IntKind.wrap_i64]; omega
      generalize Rul.lastOf l off at0 (Y + 2) l[j] = O at *
      generalize hPdef : Rul.lastP l off at0 l[j] = P at *
      generalize hTdef : Rul.turnOf l[j] = TT at *
      generalize hRdef : Rul.rturnOf l[j] = RT at *
      generalize hBdef : Rul.turnB l[j] = TB at *
      clear hPdef hTdef hRdef hBdef
      generalize l[j] = x at *
      obtain ⟨nm, a, b', m, k, wd, d, t, r, s, lt⟩ := x
      simp only at c0 c1 c2 c3 c4 c5 c6 c7 c8 c9 c10 r1 r2 r3 r4 HO
      go_wp2_with fail
      refine wp_region_past (by kernel_rfl) (by kernel_rfl) ?_
      repeat (go_big_quiet_step (first | (go_at_call 42; exact Rets.quiet (HY _).out) | (go_at_call 41; exact Rets.quiet (HL _ _ _).out)))
      refine wpQuiet_nil ?_
      intro z
      go_wp2
      go_loopw [9, 11] (fun fv yv wr2 => ∃ y : Int, fv = .bool q.isSome ∧ yv = .int .i64 y ∧ -1000000 ≤ y ∧ y ≤ 1000001 ∧ Hid (O = (Rul.down P a y).map TT) ∧ Ext W1 wr2) (fun _ yv _ => (intOf yv - a + 1).toNat)
      case atStart => exact ⟨min b' (Y + 2), rfl, rfl, by omega, by omega, HO.out, isext⟩
      case round =>
        obtain ⟨y, rfl, rfl, w1, w2, hy, hx2⟩ := hrel
        have hB2 := hB0.ext hx2
        have hB3 := hB1.ext hx2
        haveI : ExtC w wr := ⟨hx.trans hx2⟩
        haveI : ExtC W1 wr := ⟨hx2⟩
        haveI : InW b wr := ⟨Nat.lt_of_lt_of_le m1 (Below.size (hx.trans hx2))⟩
        haveI : InW w.heap.size wr := ⟨hB2.lt⟩
        haveI : InW (w.heap.size + 1) wr := ⟨hB3.lt⟩
        have kb := fun i => Below.cell (p := ⟨b, i, none⟩) hx2 (Nat.lt_of_lt_of_le m1 (Below.size hx))
        have d0 := (kb _).trans c0
        have d1 := (kb _).trans c1
        have d2 := (kb _).trans c2
        have d3 := (kb _).trans c3
        have d4 := (kb _).trans c4
        have d5 := (kb _).trans c5
        have d6 := (kb _).trans c6
        have d7 := (kb _).trans c7
        have d8 := (kb _).trans c8
        have d9 := (kb _).trans c9
        have d10 := (kb _).trans c10
        clear kb
        by_cases hya : a ≤ y
        · have hT := HT y
          have hcs := (HP y).out
          have Eno := fun h => Lib.hid (hy.out.trans (by rw [Rul.down_no hya h]) : O = (Rul.down P a (y - 1)).map TT)
          have Eyes := fun h => Lib.hid (hy.out.trans (by rw [Rul.down_yes hya h]; rfl) : O = some (TT y))
          generalize P y = p at *
          have hU := HU y
          generalize Rul.uniD l off (TT y) = U at *
          generalize TB y = tb at *
          generalize RT y = rt at *
          generalize TT y = tt at *
          rcases hcs with ⟨rfl, rfl⟩ | ⟨rfl, hat, rfl, rfl⟩ | ⟨rfl, hat, rfl, rfl⟩
          · have E := Eno rfl
            obtain ⟨ta, tr, ts, tl⟩ := rt
            clear Eno Eyes
            go_wp2_with (go_at_call 43; refine Rets.use (hT _).out ?_; intro _)
            go_roundw
            case rel => exact ⟨y - 1, rfl, by first | rfl | simp, by omega, by omega, E, isext⟩
            case measure => simp [intOf]; omega
          · have E := Eno rfl
            obtain ⟨ta, tr, ts, tl⟩ := rt
            have hV := hU rfl
            clear hU
            clear Eno Eyes
            go_wp2_with (first | (go_at_call 43; refine Rets.use (hT _).out ?_; intro _) | (go_at_call 78; refine Rets.use (hV _ isext).out ?_; intro _))
            go_roundw
            case rel => exact ⟨y - 1, rfl, by first | rfl | simp, by omega, by omega, E, isext⟩
            case measure => simp [intOf]; omega
          · have E := Eyes rfl
            have E2 := HS _ E.out
            clear Eno Eyes
            have hat' : decide (at0 < U) = false := decide_eq_false (by omega)
            have E3 : Hid (Rul.latestG (Rul.lastOf l off at0 (Y + 2)) (l.take (j + 1)) = Rul.upd q rt) := by show _ = _; rw [E2.out, he.out]
            clear E E2 hy
            have hp := upd_cases q rt
            have b0 := hB2.c0
            have b1 := hB2.c1
            have b2 := hB2.c2
            have b3 := hB2.c3
            have e0 := hB3.c0
            have e1 := hB3.c1
            have e2 := hB3.c2
            have e3 := hB3.c3
            have g0 := hB3.f0
            have g1 := hB3.f1
            have g2 := hB3.f2
            have g3 := hB3.f3
            generalize Rul.upd q rt = q' at *
            obtain ⟨ta, tr, ts, tl⟩ := rt
            simp only at hp
            have hV := hU rfl
            clear hU
            rcases hp with ⟨rfl, rfl⟩ | ⟨rq, hle, rfl⟩ | ⟨rq, hle, rfl⟩
            · go_wp2_with (first | (go_at_call 43; refine Rets.use (hT _).out ?_; intro y2) | (go_at_call 78; refine Rets.use (hV _ isext).out ?_; intro y3))
              go_roundw
              case rel =>
                refine ⟨j + 1, some ⟨ta, tr, ts, tl⟩, by omega, by go_num, rfl, E3, ?_, ?_, isext⟩
                · exact ((((((hB2.ext y2.hb).alloc _).ext y3.hb).other _ 0 _ (by omega)).other _ 1 _ (by omega)).other _ 2 _ (by omega) |>.other _ 3 _ (by omega))
                · exact (((hB3.ext y2.hb).alloc _).ext y3.hb).write ⟨ta, tr, ts, tl⟩
              case measure => simp [intOf]; omega
            · rw [rq]
              generalize (Rul.orNo q).at' = bt at *
              go_wp2_with (first | (go_at_call 43; refine Rets.use (hT _).out ?_; intro y2) | (go_at_call 78; refine Rets.use (hV _ isext).out ?_; intro y3))
              go_roundw
              case rel =>
                refine ⟨j + 1, some ⟨ta, tr, ts, tl⟩, by omega, by go_num, rfl, E3, ?_, ?_, isext⟩
                · exact ((((((hB2.ext y2.hb).alloc _).ext y3.hb).other _ 0 _ (by omega)).other _ 1 _ (by omega)).other _ 2 _ (by omega) |>.other _ 3 _ (by omega))
                · exact (((hB3.ext y2.hb).alloc _).ext y3.hb).write ⟨ta, tr, ts, tl⟩
              case measure => simp [intOf]; omega
            · generalize hbt : (Rul.orNo q').at' = bt at *
              rw [rq]
              clear hbt
              go_wp2_with (first | (go_at_call 43; refine Rets.use (hT _).out ?_; intro y2) | (go_at_call 78; refine Rets.use (hV _ isext).out ?_; intro y3))
              go_roundw
              case rel => exact ⟨j + 1, q', by omega, by go_num, by rw [rq], E3, hB2.ext isext, hB3.ext isext, isext⟩
              case measure => simp [intOf]; omega
        · have E : Hid (Rul.latestG (Rul.lastOf l off at0 (Y + 2)) (l.take (j + 1)) = q) := (HN (by rw [hy.out, Rul.down_end (by omega)]; rfl)).out.trans he.out
          have hya' : decide (a ≤ y) = false := decide_eq_false hya
          go_wp2
          go_roundw
          case rel => exact ⟨j + 1, q, by omega, by go_num, rfl, E, hB0.ext isext, hB1.ext isext, isext⟩
          case measure => simp [intOf]; omega
    · have E : Hid (R = q) := by have := he.out; rw [List.take_of_length_le (by rw [Hn.out]; omega)] at this; exact HF.out.trans this
      obtain ⟨bb, hbb⟩ : ∃ bb, bb = Rul.orNo q := ⟨_, rfl⟩
      obtain ⟨fb, hfb⟩ : ∃ fb, fb = q.isSome := ⟨_, rfl⟩
      have EV : Hid (Value.tuple #[turnV (Rul.orNo R), .bool R.isSome] = .tuple #[turnV bb, .bool fb]) := by show _ = _; rw [E.out, hbb, hfb]
      rw [← hbb] at hB1
      rw [← hfb]
      clear hbb hfb
      obtain ⟨ba, br, bs, bl⟩ := bb
      have e0 := hB1.c0
      have e1 := hB1.c1
      have e2 := hB1.c2
      have e3 := hB1.c3
      have b0 := hB0.c0
      have b1 := hB0.c1
      have b2 := hB0.c2
      have b3 := hB0.c3
      have g0 := hB0.f0
      have g1 := hB0.f1
      have g2 := hB0.f2
      have g3 := hB0.f3
      go_wp2
      refine bodyPost_ret (v := .tuple #[turnV ⟨ba, br, bs, bl⟩, .bool fb]) ?_ rfl ⟨by rw [EV.out], done⟩
      simp [results, Tryz.f48, go_sem, b0, b1, b2, b3]
end Go.Proofs.YtcjnficcggjeiaaGreatDoor
