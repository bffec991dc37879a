/- Walks of rules: the turn ahead of a local time, by the document. -/
import Derived.Test.YtcjnficcggjeiaaGreatDoorRulWalkE
import Derived.Test.YtcjnficcggjeiaaGreatDoorRulPlainB
set_option linter.unusedVariables false
set_option linter.unusedSimpArgs false
namespace Go.Proofs.YtcjnficcggjeiaaGreatDoor
open Go.RowKit

namespace Rul
/-- A rule's latest turn whose time is less. -/
def aheadP (at0 : Int) (x : Rule) (y : Int) : Bool := turnB x y && decide ((turnOf x y).at' < at0)
def aheadOf (at0 : Int) (hi : Int) (x : Rule) : Option Turn := (down (aheadP at0 x) x.a (min x.b hi)).map (turnOf x)
def aheadD (l : List Rule) (at0 : Int) : Option Turn := latestG (aheadOf at0 (yearD at0 + 2)) l
def orNo : Option Turn → Turn
  | none => noTurn
  | some t => t
end Rul
/-- A turn lies in a block. -/
structure Holds4 (W : World) (B : Nat) (t : Turn) : Prop where
  c0 : W.cell? ⟨B, 0, none⟩ = some (.int .i64 t.at')
  c1 : W.cell? ⟨B, 1, none⟩ = some (.int .i64 t.r)
  c2 : W.cell? ⟨B, 2, none⟩ = some (.int .i64 t.s)
  c3 : W.cell? ⟨B, 3, none⟩ = some (.string t.l)
  f0 : W.frozen? ⟨B, 0, none⟩ = false
  f1 : W.frozen? ⟨B, 1, none⟩ = false
  f2 : W.frozen? ⟨B, 2, none⟩ = false
  f3 : W.frozen? ⟨B, 3, none⟩ = false
  lt : B < W.heap.size
theorem Holds4.ext {A W : World} {B : Nat} {t : Turn} (h : Holds4 A B t) (hx : Ext A W) : Holds4 W B t := by
  have k := fun i => Below.cell (p := ⟨B, i, none⟩) hx h.lt
  have f := fun i => Below.frozen (p := ⟨B, i, none⟩) hx h.lt
  exact ⟨(k 0).trans h.c0, (k 1).trans h.c1, (k 2).trans h.c2, (k 3).trans h.c3, (f 0).trans h.f0, (f 1).trans h.f1, (f 2).trans h.f2, (f 3).trans h.f3, Nat.lt_of_lt_of_le h.lt (Below.size hx)⟩
theorem Holds4.alloc {W : World} {B : Nat} {t : Turn} (h : Holds4 W B t) (o : Obj) : Holds4 (W.alloc o) B t := h.ext ((Ext.refl W).alloc o)
theorem Holds4.other {W : World} {B : Nat} {t : Turn} (h : Holds4 W B t) (B' i : Nat) (v : Value) (hne : B' ≠ B) : Holds4 (W.setCell ⟨B', i, none⟩ v) B t := by
  have k : ∀ j, (W.setCell ⟨B', i, none⟩ v).cell? ⟨B, j, none⟩ = W.cell? ⟨B, j, none⟩ := fun j => World.cell?_setCell_far W ⟨B', i, none⟩ ⟨B, j, none⟩ v hne
  have f : ∀ j, (W.setCell ⟨B', i, none⟩ v).frozen? ⟨B, j, none⟩ = W.frozen? ⟨B, j, none⟩ := fun j => World.frozen?_setCell W _ _ _
  exact ⟨(k 0).trans h.c0, (k 1).trans h.c1, (k 2).trans h.c2, (k 3).trans h.c3, (f 0).trans h.f0, (f 1).trans h.f1, (f 2).trans h.f2, (f 3).trans h.f3, by rw [World.size_setCell]; exact h.lt⟩
theorem Holds4.write {W : World} {B : Nat} {t0 : Turn} (h : Holds4 W B t0) (t : Turn) : Holds4 ((((W.setCell ⟨B, 0, none⟩ (.int .i64 t.at')).setCell ⟨B, 1, none⟩ (.int .i64 t.r)).setCell ⟨B, 2, none⟩ (.int .i64 t.s)).setCell ⟨B, 3, none⟩ (.string t.l)) B t := by
  obtain ⟨c0, c1, c2, c3, f0, f1, f2, f3, lt⟩ := h
  have ne : ∀ (V : World) (i j : Nat) (v : Value), i ≠ j → (V.setCell ⟨B, i, none⟩ v).cell? ⟨B, j, none⟩ = V.cell? ⟨B, j, none⟩ := fun V i j v hij => World.cell?_setCell_other V ⟨B, i, none⟩ ⟨B, j, none⟩ v (by simp [hij])
  have eq : ∀ (V : World) (i : Nat) (v u : Value), V.cell? ⟨B, i, none⟩ = some u → (V.setCell ⟨B, i, none⟩ v).cell? ⟨B, i, none⟩ = some v := fun V i v u hu => World.cell?_setCell_same V _ v hu
  refine ⟨?_, ?_, ?_, ?_, ?_, ?_, ?_, ?_, ?_⟩
  · rw [ne _ 3 0 _ (by omega), ne _ 2 0 _ (by omega), ne _ 1 0 _ (by omega)]; exact eq _ _ _ _ c0
  · rw [ne _ 3 1 _ (by omega), ne _ 2 1 _ (by omega)]; exact eq _ _ _ _ ((ne _ 0 1 _ (by omega)).trans c1)
  · rw [ne _ 3 2 _ (by omega)]; exact eq _ _ _ _ (((ne _ 1 2 _ (by omega)).trans (ne _ 0 2 _ (by omega))).trans c2)
  · exact eq _ _ _ _ ((((ne _ 2 3 _ (by omega)).trans (ne _ 1 3 _ (by omega))).trans (ne _ 0 3 _ (by omega))).trans c3)
  all_goals first | (simp only [World.frozen?_setCell]; assumption) | (simp only [World.size_setCell]; exact lt)
theorem all_right {l : List Rule} (h : Rul.allB l = true) {j : Nat} (hj : j < l.length) : 1 ≤ l[j].a ∧ l[j].a ≤ 9999 ∧ 1 ≤ l[j].b ∧ l[j].b ≤ 1000000 := by
  have := List.all_eq_true.1 h _ (List.getElem_mem hj)
  unfold Rul.rightB Rul.yearB at this
  simp only [Bool.and_eq_true, Bool.or_eq_true, decide_eq_true_eq, beq_iff_eq] at this
  omega
theorem dy_bd {n : Int} (h1 : -100000001 ≤ n) (h2 : n ≤ 100000000) : -271821 ≤ Civ.dy n ∧ Civ.dy n ≤ 275760 := by
  obtain ⟨f, e⟩ := Civ.of_ok n
  exact Civ.okD_year _ _ _ (Civ.okD_mk _ _ _ f (by rw [e]; exact h1) (by rw [e]; exact h2))
theorem yearD_bd (t : Int) : -271821 ≤ Rul.yearD t ∧ Rul.yearD t ≤ 275760 := by
  unfold Rul.yearD
  split
  · omega
  · split
    · omega
    · split
      · omega
      · exact dy_bd (by omega) (by omega)
theorem upd_cases (q : Option Turn) (t : Turn) : (q = none ∧ Rul.upd q t = some t) ∨ (q.isSome = true ∧ (Rul.orNo q).at' ≤ t.at' ∧ Rul.upd q t = some t) ∨ (q.isSome = true ∧ decide ((Rul.orNo q).at' ≤ t.at') = false ∧ Rul.upd q t = q) := by
  rcases q with _ | b
  · exact .inl ⟨rfl, rfl⟩
  · right
    by_cases h : b.at' ≤ t.at'
    · exact .inl ⟨rfl, h, by unfold Rul.upd; simp [h]⟩
    · exact .inr ⟨rfl, decide_eq_false h, by unfold Rul.upd; simp [h]⟩
theorem ahead_cases (at0 : Int) (x : Rule) (y : Int) : (Rul.turnB x y = false ∧ Rul.aheadP at0 x y = false) ∨ (Rul.turnB x y = true ∧ at0 ≤ (Rul.turnOf x y).at' ∧ Rul.aheadP at0 x y = false ∧ Rul.rturnOf x y = Rul.turnOf x y) ∨
    (Rul.turnB x y = true ∧ (Rul.turnOf x y).at' < at0 ∧ Rul.aheadP at0 x y = true ∧ Rul.rturnOf x y = Rul.turnOf x y) := by
  unfold Rul.aheadP Rul.rturnOf
  cases h : Rul.turnB x y
  · exact .inl ⟨rfl, rfl⟩
  · right
    by_cases h2 : (Rul.turnOf x y).at' < at0
    · exact .inr ⟨rfl, h2, by simp [h2], by simp⟩
    · exact .inl ⟨rfl, by omega, by simp [h2], by simp⟩
set_option maxRecDepth 100000 in
set_option maxHeartbeats 16000000 in
theorem rahead_any (l : List Rule) (n : Nat) (hn : l.length = n) (hA : Rul.allB l = true) (at0 : Int) (a1 : -9223372036854775808 ≤ at0) (a2 : at0 ≤ 9223372036854775807) (v : Value) (w : World) (hr : Reads w v n (ruleRow l)) (h0 : n ≠ 0) :
    Rets Tryz.prog 22 #[v, .int .i64 at0] w (.tuple #[turnV (Rul.orNo (Rul.aheadD l at0)), .bool (Rul.aheadD l at0).isSome]) := by
  have HY := fun w => Lib.hid (yeard_any at0 a1 a2 w)
  obtain ⟨y1, y2⟩ := yearD_bd at0
  have HF : Hid (Rul.aheadD l at0 = Rul.latestG (Rul.aheadOf at0 (Rul.yearD at0 + 2)) l) := rfl
  generalize Rul.aheadD l at0 = R at *
  generalize Rul.yearD at0 = Y at *
  rcases hr with ⟨_, _, rfl, h1, _⟩ | ⟨b, o, c, rfl, k1, k2, m1, hc⟩
  · exact absurd h1 h0
  haveI : InW b w := ⟨m1⟩
  have hl : n ≤ 9223372036854775807 := by unfold maxLen at k2; omega
  have HC := Lib.hid hc
  have Hn := Lib.hid hn
  have HA := Lib.hid hA
  clear hc hn hA
  unfold Rets
  go_enter Tryz.func22, Tryz.ntmps22
  go_wp2
  go_loopw [7, 8] (fun fv iv wr => ∃ (j : Nat) (q : Option Turn), j ≤ n ∧ iv = .int .i64 j ∧ fv = .bool q.isSome ∧ Hid (Rul.latestG (Rul.aheadOf at0 (Y + 2)) (l.take j) = q) ∧ Holds4 wr w.heap.size Rul.noTurn ∧ Holds4 wr (w.heap.size + 1) (Rul.orNo q) ∧ Ext w wr) (fun _ i _ => n - (intOf i).toNat)
  case atStart =>
    refine ⟨0, none, by omega, rfl, rfl, rfl, ?_, ?_, isext⟩
    · constructor <;> first | (simp [go_sem, Rul.noTurn]; done) | rfl | (simp; omega)
    · constructor <;> first | (simp [go_sem, Rul.noTurn, Rul.orNo]; done) | rfl | (simp; omega)
  case round =>
    obtain ⟨j, q, j2, rfl, rfl, he, hB0, hB1, hx⟩ := hrel
    obtain ⟨W1, eW⟩ : ∃ W1, W1 = wr := ⟨_, rfl⟩
    subst eW
    haveI : ExtC w W1 := ⟨hx⟩
    haveI : InW b W1 := ⟨Nat.lt_of_lt_of_le m1 (Below.size hx)⟩
    haveI : InW w.heap.size W1 := ⟨hB0.lt⟩
    haveI : InW (w.heap.size + 1) W1 := ⟨hB1.lt⟩
    by_cases hlt : j < n
    · have hj : j < l.length := by rw [Hn.out]; exact hlt
      obtain ⟨c0, c1, c2, c3, c4, c5, c6, c7, c8, c9, c10⟩ := rule_at (w := W1) (fun i u hu => (Below.cell (p := ⟨b, o + i, none⟩) hx m1).trans (HC.out i u hu)) j hj
      obtain ⟨r1, r2, r3, r4⟩ := all_right HA.out hj
      have HT := fun y w => Lib.hid (rturn_any l[j] y w)
      have HP := fun y => Lib.hid (ahead_cases at0 l[j] y)
      have HN := fun h => Lib.hid (Rul.latest_none (f := Rul.aheadOf at0 (Y + 2)) hj h)
      have HS := fun t h => Lib.hid (Rul.latest_some (f := Rul.aheadOf at0 (Y + 2)) (t := t) hj h)
      have HL := fun a b w => Lib.hid (lesser_any a b w)
      have HO : Hid (Rul.aheadOf at0 (Y + 2) l[j] = (Rul.down (Rul.aheadP at0 l[j]) l[j].a (min l[j].b (Y + 2))).map (Rul.turnOf l[j])) := rfl
      have hx1 : IntKind.i64.wrap (Y + 2) = Y + 2 := by rw [IntKind.wrap_i64]; omega
      generalize Rul.aheadOf at0 (Y + 2) l[j] = O at *
      generalize hPdef : Rul.aheadP at0 l[j] = P at *
      generalize hTdef : Rul.turnOf l[j] = TT at *
      generalize hRdef : Rul.rturnOf l[j] = RT at *
      generalize hBdef : Rul.turnB l[j] = TB at *
      clear hPdef hTdef hRdef hBdef
      generalize l[j] = x at *
      obtain ⟨nm, a, b', m, k, wd, d, t, r, s, lt⟩ := x
      simp only at c0 c1 c2 c3 c4 c5 c6 c7 c8 c9 c10 r1 r2 r3 r4 HO
      go_wp2_with fail
      refine wp_region_past (by kernel_rfl) (by kernel_rfl) ?_
      repeat (go_big_quiet_step (first | (go_at_call 42; exact Rets.quiet (HY _).out) | (go_at_call 41; exact Rets.quiet (HL _ _ _).out)))
      refine wpQuiet_nil ?_
      intro z
      go_wp2
      go_loopw [7, 9] (fun fv yv wr2 => ∃ y : Int, fv = .bool q.isSome ∧ yv = .int .i64 y ∧ -1000000 ≤ y ∧ y ≤ 1000001 ∧ Hid (O = (Rul.down P a y).map TT) ∧ Ext W1 wr2) (fun _ yv _ => (intOf yv - a + 1).toNat)
      case atStart => exact ⟨min b' (Y + 2), rfl, rfl, by omega, by omega, HO.out, isext⟩
      case round =>
        obtain ⟨y, rfl, rfl, w1, w2, hy, hx2⟩ := hrel
        have hB2 := hB0.ext hx2
        have hB3 := hB1.ext hx2
        haveI : ExtC w wr := ⟨hx.trans hx2⟩
        haveI : ExtC W1 wr := ⟨hx2⟩
        haveI : InW b wr := ⟨Nat.lt_of_lt_of_le m1 (Below.size (hx.trans hx2))⟩
        haveI : InW w.heap.size wr := ⟨hB2.lt⟩
        haveI : InW (w.heap.size + 1) wr := ⟨hB3.lt⟩
        have kb := fun i => Below.cell (p := ⟨b, i, none⟩) hx2 (Nat.lt_of_lt_of_le m1 (Below.size hx))
        have d0 := (kb _).trans c0
        have d1 := (kb _).trans c1
        have d2 := (kb _).trans c2
        have d3 := (kb _).trans c3
        have d4 := (kb _).trans c4
        have d5 := (kb _).trans c5
        have d6 := (kb _).trans c6
        have d7 := (kb _).trans c7
        have d8 := (kb _).trans c8
        have d9 := (kb _).trans c9
        have d10 := (kb _).trans c10
        clear kb
        by_cases hya : a ≤ y
        · have hT := HT y
          have hcs := (HP y).out
          have Eno := fun h => Lib.hid (hy.out.trans (by rw [Rul.down_no hya h]) : O = (Rul.down P a (y - 1)).map TT)
          have Eyes := fun h => Lib.hid (hy.out.trans (by rw [Rul.down_yes hya h]; rfl) : O = some (TT y))
          generalize P y = p at *
          generalize TB y = tb at *
          generalize RT y = rt at *
          generalize TT y = tt at *
          rcases hcs with ⟨rfl, rfl⟩ | ⟨rfl, hat, rfl, rfl⟩ | ⟨rfl, hat, rfl, rfl⟩
          · have E := Eno rfl
            obtain ⟨ta, tr, ts, tl⟩ := rt
            clear Eno Eyes
            go_wp2_with (go_at_call 43; refine Rets.use (hT _).out ?_; intro _)
            go_roundw
            case rel => exact ⟨y - 1, rfl, by first | rfl | simp, by omega, by omega, E, isext⟩
            case measure => simp [intOf]; omega
          · have E := Eno rfl
            obtain ⟨ta, tr, ts, tl⟩ := rt
            simp only at hat
            clear Eno Eyes
            go_wp2_with (go_at_call 43; refine Rets.use (hT _).out ?_; intro _)
            go_roundw
            case rel => exact ⟨y - 1, rfl, by first | rfl | simp, by omega, by omega, E, isext⟩
            case measure => simp [intOf]; omega
          · have E := Eyes rfl
            have E2 := HS _ E.out
            clear Eno Eyes
            have hat' : decide (at0 ≤ rt.at') = false := decide_eq_false (by omega)
            have E3 : Hid (Rul.latestG (Rul.aheadOf at0 (Y + 2)) (l.take (j + 1)) = Rul.upd q rt) := by show _ = _; rw [E2.out, he.out]
            clear E E2 hy
            have hp := upd_cases q rt
            have b0 := hB2.c0
            have b1 := hB2.c1
            have b2 := hB2.c2
            have b3 := hB2.c3
            have e0 := hB3.c0
            have e1 := hB3.c1
            have e2 := hB3.c2
            have e3 := hB3.c3
            have g0 := hB3.f0
            have g1 := hB3.f1
            have g2 := hB3.f2
            have g3 := hB3.f3
            generalize Rul.upd q rt = q' at *
            obtain ⟨ta, tr, ts, tl⟩ := rt
            simp only at hat hat' hp
            rcases hp with ⟨rfl, rfl⟩ | ⟨rq, hle, rfl⟩ | ⟨rq, hle, rfl⟩
            · go_wp2_with (go_at_call 43; refine Rets.use (hT _).out ?_; intro y2)
              go_roundw
              case rel =>
                refine ⟨j + 1, some ⟨ta, tr, ts, tl⟩, by omega, by go_num, rfl, E3, ?_, ?_, isext⟩
                · exact ((((hB2.ext y2.hb).other _ 0 _ (by omega)).other _ 1 _ (by omega)).other _ 2 _ (by omega) |>.other _ 3 _ (by omega)).alloc _
                · exact ((hB3.ext y2.hb).write ⟨ta, tr, ts, tl⟩).alloc _
              case measure => simp [intOf]; omega
            · rw [rq]
              generalize (Rul.orNo q).at' = bt at *
              go_wp2_with (go_at_call 43; refine Rets.use (hT _).out ?_; intro y2)
              go_roundw
              case rel =>
                refine ⟨j + 1, some ⟨ta, tr, ts, tl⟩, by omega, by go_num, rfl, E3, ?_, ?_, isext⟩
                · exact ((((hB2.ext y2.hb).other _ 0 _ (by omega)).other _ 1 _ (by omega)).other _ 2 _ (by omega) |>.other _ 3 _ (by omega)).alloc _
                · exact ((hB3.ext y2.hb).write ⟨ta, tr, ts, tl⟩).alloc _
              case measure => simp [intOf]; omega
            · generalize hbt : (Rul.orNo q').at' = bt at *
              rw [rq]
              clear hbt
              go_wp2_with (go_at_call 43; refine Rets.use (hT _).out ?_; intro y2)
              go_roundw
              case rel => exact ⟨j + 1, q', by omega, by go_num, by rw [rq], E3, hB2.ext isext, hB3.ext isext, isext⟩
              case measure => simp [intOf]; omega
        · have E : Hid (Rul.latestG (Rul.aheadOf at0 (Y + 2)) (l.take (j + 1)) = q) := (HN (by rw [hy.out, Rul.down_end (by omega)]; rfl)).out.trans he.out
          have hya' : decide (a ≤ y) = false := decide_eq_false hya
          go_wp2
          go_roundw
          case rel => exact ⟨j + 1, q, by omega, by go_num, rfl, E, hB0.ext isext, hB1.ext isext, isext⟩
          case measure => simp [intOf]; omega
    · have E : Hid (R = q) := by have := he.out; rw [List.take_of_length_le (by rw [Hn.out]; omega)] at this; exact HF.out.trans this
      obtain ⟨bb, hbb⟩ : ∃ bb, bb = Rul.orNo q := ⟨_, rfl⟩
      obtain ⟨fb, hfb⟩ : ∃ fb, fb = q.isSome := ⟨_, rfl⟩
      have EV : Hid (Value.tuple #[turnV (Rul.orNo R), .bool R.isSome] = .tuple #[turnV bb, .bool fb]) := by show _ = _; rw [E.out, hbb, hfb]
      rw [← hbb] at hB1
      rw [← hfb]
      clear hbb hfb
      obtain ⟨ba, br, bs, bl⟩ := bb
      have e0 := hB1.c0
      have e1 := hB1.c1
      have e2 := hB1.c2
      have e3 := hB1.c3
      have b0 := hB0.c0
      have b1 := hB0.c1
      have b2 := hB0.c2
      have b3 := hB0.c3
      have g0 := hB0.f0
      have g1 := hB0.f1
      have g2 := hB0.f2
      have g3 := hB0.f3
      go_wp2
      refine bodyPost_ret (v := .tuple #[turnV ⟨ba, br, bs, bl⟩, .bool fb]) ?_ rfl ⟨by rw [EV.out], done⟩
      simp [results, Tryz.f22, go_sem, b0, b1, b2, b3]
end Go.Proofs.YtcjnficcggjeiaaGreatDoor
