/- Walks of rules: the iterator over a rule's turns. -/
import Derived.Test.YtcjnficcggjeiaaDoorRulWalkD
import Derived.RangeFuncNested
import Derived.RangeFuncBound
import Derived.RangeFuncCalls
import Derived.RangeFuncLeaves
import Derived.RangeFuncBox
import Derived.Shelf.Abstract
import Derived.Shelf.RegionOpen
import Derived.OwnWalkIn
import Derived.TacticsInMore
import Derived.LoopNIn
import Derived.LoopIn
set_option linter.unusedVariables false
set_option linter.unusedSimpArgs false
namespace Go.Proofs.YtcjnficcggjeiaaDoor
open Go.RowKit Go.Shelf

attribute [local go_sem] Oper.semAt_some
namespace Rul
/-- A rule's turns from a year on back, so many years at most. -/
def backN (x : Rule) : Nat → Int → List Turn
  | 0, _ => []
  | f + 1, y => if y < x.a then [] else (if turnB x y = true then [turnOf x y] else []) ++ backN x f (y - 1)
def backs (x : Rule) (Y : Int) : List Turn := backN x 4 (min x.b (Y + 1))
theorem back_end {x : Rule} {f : Nat} {y : Int} (h : f = 0 ∨ y < x.a) : backN x f y = [] := by
  rcases f with _ | f
  · rfl
  · rw [backN, if_pos (by omega)]
theorem back_yes {x : Rule} {f : Nat} {y : Int} (h : x.a ≤ y) (h2 : turnB x y = true) : backN x (f + 1) y = turnOf x y :: backN x f (y - 1) := by
  rw [backN, if_neg (by omega), if_pos h2]; rfl
theorem back_no {x : Rule} {f : Nat} {y : Int} (h : x.a ≤ y) (h2 : turnB x y = false) : backN x (f + 1) y = backN x f (y - 1) := by
  rw [backN, if_neg (by omega), if_neg (by rw [h2]; simp)]; rfl
theorem back_mem {x : Rule} : ∀ (f : Nat) (y : Int) (u : Turn), u ∈ backN x f y → ∃ y', turnB x y' = true ∧ u = turnOf x y'
  | 0, _, _, h => by cases h
  | f + 1, y, u, h => by
    rw [backN] at h
    split at h
    · cases h
    · rcases List.mem_append.1 h with h | h
      · split at h
        · exact ⟨y, ‹_›, by simpa using h⟩
        · cases h
      · exact back_mem f (y - 1) u h
end Rul
/-- A block holds these cells. -/
def Laid (W : World) (B : Nat) (cs : List Value) (t : TypeId) : Prop := W.heap[B]? = some (.cells cs.toArray t)
theorem Laid.lt {W : World} {B : Nat} {cs : List Value} {t : TypeId} (h : Laid W B cs t) : B < W.heap.size := (Array.getElem?_eq_some_iff.1 h).1
theorem Laid.cell {W : World} {B : Nat} {cs : List Value} {t : TypeId} (h : Laid W B cs t) (i : Nat) (v : Value) (hv : cs[i]? = some v) : W.cell? ⟨B, i, none⟩ = some v := by
  simp [World.cell?, show W.heap[B]? = _ from h, hv]
theorem Laid.ext {W W' : World} {B : Nat} {cs : List Value} {t : TypeId} (h : Laid W B cs t) (hx : Ext W W') : Laid W' B cs t := (hx.block B h.lt).trans h
/-- What a round keeps: two blocks. -/
def keep2 (Bx By : Nat) (A B : World) : Prop := B.heap[Bx]? = A.heap[Bx]? ∧ B.heap[By]? = A.heap[By]?
set_option maxRecDepth 100000 in
set_option maxHeartbeats 2000000 in
theorem back_in (n : Nat) (x : Rule) (Y : Int) (w : World) :
    CallsIn Fence.wide n Tryd.prog 99 #[ruleV x, .int .i64 Y] w fun e w' => e = .returned (.func (.func 106) #[] #[.pointer (some ⟨w.heap.size, 0, none⟩), .pointer (some ⟨w.heap.size + 1, 0, none⟩)]) ∧
      w' = (w.alloc (.cells (ruleCells x).toArray 43)).alloc (.cells #[.int .i64 Y] 3) := by
  refine callsIn_of_wp Tryd.func99 rfl trivial ?_ rfl
  simp only [Tryd.ntmps99, List.size_toArray, List.length_cons, List.length_nil, Nat.reduceAdd, Nat.reduceSub, Array.replicate_succ, Array.replicate_zero, List.push_toArray, List.append_toArray, List.nil_append, List.cons_append]
  obtain ⟨nm, a, b, m, k, wd, d, t, r, s, l⟩ := x
  gi_wp2
  go_ret
  exact ⟨rfl, rfl⟩
set_option maxRecDepth 100000 in
set_option maxHeartbeats 4000000 in
theorem back1_in (n : Nat) (hn : 1 ≤ n) (l Bx By : Nat) (x : Rule) (Y : Int) (x1 : 1 ≤ x.a) (x2 : -1000000 ≤ x.b) (x3 : x.b ≤ 1000000) (y1 : -1000000 ≤ Y) (y2 : Y ≤ 1000000) (Bd : Turn → Prop) (hBnd : ∀ y, Rul.turnB x y = true → Bd (Rul.turnOf x y)) (J Jx : List Turn → World → Prop)
    (hJ : ∀ pre A B, J pre A → Ext A B → J pre B)
    (hY : ∀ pre t W, Bd t → J pre W → pre.length < 4 → YieldAt Fence.wide (n - 1) Tryd.prog l #[turnV t] W fun e W' =>
      (e = .returned (.bool true) ∧ J (pre ++ [t]) W' ∧ keep2 Bx By W W') ∨ (e = .returned (.bool false) ∧ Jx (pre ++ [t]) W'))
    (W : World) (hX : Laid W Bx (ruleCells x) 43) (hYb : Laid W By [.int .i64 Y] 3) (h0 : J [] W) :
    CallsIn Fence.wide n Tryd.prog 106 #[.func (.yield l) #[] #[], .pointer (some ⟨Bx, 0, none⟩), .pointer (some ⟨By, 0, none⟩)] W fun e W' => (∃ v, e = .returned v) ∧
      ((∃ ys, ys = Rul.backs x Y ∧ J ys W') ∨ (∃ pre, (∃ rest, Rul.backs x Y = pre ++ rest) ∧ Jx pre W')) := by
  have HB : Hid (Rul.backs x Y = Rul.backN x 4 (min x.b (Y + 1))) := rfl
  generalize Rul.backs x Y = bs at *
  refine callsIn_of_wp Tryd.func106 rfl trivial ?_ rfl
  simp only [Tryd.ntmps106, List.size_toArray, List.length_cons, List.length_nil, Nat.reduceAdd, Nat.reduceSub, Array.replicate_succ, Array.replicate_zero, List.push_toArray, List.append_toArray, List.nil_append, List.cons_append]
  have c2 := hX.cell 2 _ rfl
  have d0 := hYb.cell 0 _ rfl
  have hx1 : IntKind.i64.wrap (Y + 1) = Y + 1 := by rw [IntKind.wrap_i64]; omega
  obtain ⟨L, hL⟩ : ∃ L, L = min x.b (Y + 1) := ⟨_, rfl⟩
  have HT := fun y w => Lib.hid (turn_any x y w)
  rw [← hL] at HB
  gi_wp2
  · have eL : Y + 1 = L := by omega
    rw [eL]
    have l1 : -1000000 ≤ L := by omega
    have l2 : L ≤ 1000001 := by omega
    clear eL hL c2 d0
    gi_loopw [5] (fun yv wr => ∃ (f : Nat) (y : Int) (pre : List Turn), f ≤ 4 ∧ Hid (y = L - 4 + f) ∧ yv = .int .i64 y ∧ Hid (bs = pre ++ Rul.backN x f y) ∧ pre.length + f ≤ 4 ∧ J pre wr ∧ Laid wr Bx (ruleCells x) 43 ∧ Laid wr By [.int .i64 Y] 3) (fun yv _ => (intOf yv - (L - 4)).toNat)
    case atStart => exact ⟨4, L, [], by omega, by show _ = _; omega, rfl, HB.out, by simp, h0, hX, hYb⟩
    case round =>
      obtain ⟨f, y, pre, f1, hyh, rfl, hb, hlen, hj, hXr, hYr⟩ := hrel
      have k0 := hXr.cell 0 _ rfl
      have k1 := hXr.cell 1 _ rfl
      have k2 := hXr.cell 2 _ rfl
      have k3 := hXr.cell 3 _ rfl
      have k4 := hXr.cell 4 _ rfl
      have k5 := hXr.cell 5 _ rfl
      have k6 := hXr.cell 6 _ rfl
      have k7 := hXr.cell 7 _ rfl
      have k8 := hXr.cell 8 _ rfl
      have k9 := hXr.cell 9 _ rfl
      have k10 := hXr.cell 10 _ rfl
      haveI : InW Bx wr := ⟨hXr.lt⟩
      by_cases h1 : x.a ≤ y
      · by_cases h2 : L - 4 < y
        · obtain ⟨g, rfl⟩ : ∃ g, f = g + 1 := ⟨f - 1, by have := hyh.out; omega⟩
          have hym : y ≤ 1000001 ∧ -1000004 ≤ y := by have := hyh.out; omega
          obtain ⟨ym1, ym2⟩ := hym
          have hyn : Hid (y - 1 = L - 4 + g) := by show _ = _; have := hyh.out; omega
          have hT := HT y
          have hBt := hBnd y
          have Eno := fun h => Lib.hid (hb.out.trans (by rw [Rul.back_no h1 h]) : bs = pre ++ Rul.backN x g (y - 1))
          have Eyes := fun h => Lib.hid (hb.out.trans (by rw [Rul.back_yes h1 h]; simp) : bs = (pre ++ [Rul.turnOf x y]) ++ Rul.backN x g (y - 1))
          generalize hTd : Rul.turnOf x y = tt at *
          generalize hBd : Rul.turnB x y = tb at *
          clear hTd hBd
          obtain ⟨ta, tr, ts, tl⟩ := tt
          cases tb
          · have E := Eno rfl
            clear Eno Eyes
            gi_wp2_with (refine And.intro trivial ?_; gi_at_call 107; refine callsIn_wide.2 (Rets.use (hT _).out ?_); intro z)
            refine ⟨fun _ h => (by cases h), ?_⟩
            gi_wp2
            go_roundw
            case rel => exact ⟨g, y - 1, pre, by omega, hyn, by first | rfl | simp, E, by omega, hJ _ _ _ hj isext, hXr.ext isext, hYr.ext isext⟩
            case measure => simp [intOf]; omega
          · have E := Eyes rfl
            clear Eno Eyes
            gi_wp2_with (refine And.intro trivial ?_; gi_at_call 107; refine callsIn_wide.2 (Rets.use (hT _).out ?_); intro z; obtain ⟨fn, tmps, assign, body, hy2, hR⟩ := hY pre ⟨ta, tr, ts, tl⟩ (z.x.alloc (.cells #[.int .i64 ta, .int .i64 tr, .int .i64 ts, .string tl] 96)) (hBt rfl) (hJ _ _ _ hj isext) (by omega))
            refine hR.mono ?_
            have hX4 : Laid (z.x.alloc (.cells #[.int .i64 ta, .int .i64 tr, .int .i64 ts, .string tl] 96)) Bx (ruleCells x) 43 := hXr.ext isext
            have hY4 : Laid (z.x.alloc (.cells #[.int .i64 ta, .int .i64 tr, .int .i64 ts, .string tl] 96)) By [.int .i64 Y] 3 := hYr.ext isext
            rintro e W3 (⟨rfl, hJ3, hk3⟩ | ⟨rfl, hJx3⟩)
            · gi_wp2
              go_roundw
              case rel => exact ⟨g, y - 1, pre ++ [⟨ta, tr, ts, tl⟩], by omega, hyn, by first | rfl | simp, E, by simp; omega, hJ3, hk3.1.trans hX4, hk3.2.trans hY4⟩
              case measure => simp [intOf]; omega
            · gi_wp2
              refine bodyPost_ret (results_none rfl _ _ _) rfl ?_
              exact ⟨⟨_, rfl⟩, .inr ⟨_, ⟨_, E.out⟩, hJx3⟩⟩
        · have E : Hid (pre = bs) := by show _ = _; rw [hb.out, Rul.back_end (.inl (by have := hyh.out; omega)), List.append_nil]
          have h3 : decide (L - 4 < y) = false := decide_eq_false h2
          clear h2
          gi_wp2
          go_end0
          exact ⟨⟨_, rfl⟩, .inl ⟨pre, E.out, hj⟩⟩
      · have E : Hid (pre = bs) := by show _ = _; rw [hb.out, Rul.back_end (.inr (by omega)), List.append_nil]
        have h3 : decide (x.a ≤ y) = false := decide_eq_false h1
        clear h1
        gi_wp2
        go_end0
        exact ⟨⟨_, rfl⟩, .inl ⟨pre, E.out, hj⟩⟩
  · have eL : x.b = L := by omega
    rw [eL]
    have l1 : -1000000 ≤ L := by omega
    have l2 : L ≤ 1000001 := by omega
    clear eL hL c2 d0
    gi_loopw [5] (fun yv wr => ∃ (f : Nat) (y : Int) (pre : List Turn), f ≤ 4 ∧ Hid (y = L - 4 + f) ∧ yv = .int .i64 y ∧ Hid (bs = pre ++ Rul.backN x f y) ∧ pre.length + f ≤ 4 ∧ J pre wr ∧ Laid wr Bx (ruleCells x) 43 ∧ Laid wr By [.int .i64 Y] 3) (fun yv _ => (intOf yv - (L - 4)).toNat)
    case atStart => exact ⟨4, L, [], by omega, by show _ = _; omega, rfl, HB.out, by simp, h0, hX, hYb⟩
    case round =>
      obtain ⟨f, y, pre, f1, hyh, rfl, hb, hlen, hj, hXr, hYr⟩ := hrel
      have k0 := hXr.cell 0 _ rfl
      have k1 := hXr.cell 1 _ rfl
      have k2 := hXr.cell 2 _ rfl
      have k3 := hXr.cell 3 _ rfl
      have k4 := hXr.cell 4 _ rfl
      have k5 := hXr.cell 5 _ rfl
      have k6 := hXr.cell 6 _ rfl
      have k7 := hXr.cell 7 _ rfl
      have k8 := hXr.cell 8 _ rfl
      have k9 := hXr.cell 9 _ rfl
      have k10 := hXr.cell 10 _ rfl
      haveI : InW Bx wr := ⟨hXr.lt⟩
      by_cases h1 : x.a ≤ y
      · by_cases h2 : L - 4 < y
        · obtain ⟨g, rfl⟩ : ∃ g, f = g + 1 := ⟨f - 1, by have := hyh.out; omega⟩
          have hym : y ≤ 1000001 ∧ -1000004 ≤ y := by have := hyh.out; omega
          obtain ⟨ym1, ym2⟩ := hym
          have hyn : Hid (y - 1 = L - 4 + g) := by show _ = _; have := hyh.out; omega
          have hT := HT y
          have hBt := hBnd y
          have Eno := fun h => Lib.hid (hb.out.trans (by rw [Rul.back_no h1 h]) : bs = pre ++ Rul.backN x g (y - 1))
          have Eyes := fun h => Lib.hid (hb.out.trans (by rw [Rul.back_yes h1 h]; simp) : bs = (pre ++ [Rul.turnOf x y]) ++ Rul.backN x g (y - 1))
          generalize hTd : Rul.turnOf x y = tt at *
          generalize hBd : Rul.turnB x y = tb at *
          clear hTd hBd
          obtain ⟨ta, tr, ts, tl⟩ := tt
          cases tb
          · have E := Eno rfl
            clear Eno Eyes
            gi_wp2_with (refine And.intro trivial ?_; gi_at_call 107; refine callsIn_wide.2 (Rets.use (hT _).out ?_); intro z)
            refine ⟨fun _ h => (by cases h), ?_⟩
            gi_wp2
            go_roundw
            case rel => exact ⟨g, y - 1, pre, by omega, hyn, by first | rfl | simp, E, by omega, hJ _ _ _ hj isext, hXr.ext isext, hYr.ext isext⟩
            case measure => simp [intOf]; omega
          · have E := Eyes rfl
            clear Eno Eyes
            gi_wp2_with (refine And.intro trivial ?_; gi_at_call 107; refine callsIn_wide.2 (Rets.use (hT _).out ?_); intro z; obtain ⟨fn, tmps, assign, body, hy2, hR⟩ := hY pre ⟨ta, tr, ts, tl⟩ (z.x.alloc (.cells #[.int .i64 ta, .int .i64 tr, .int .i64 ts, .string tl] 96)) (hBt rfl) (hJ _ _ _ hj isext) (by omega))
            refine hR.mono ?_
            have hX4 : Laid (z.x.alloc (.cells #[.int .i64 ta, .int .i64 tr, .int .i64 ts, .string tl] 96)) Bx (ruleCells x) 43 := hXr.ext isext
            have hY4 : Laid (z.x.alloc (.cells #[.int .i64 ta, .int .i64 tr, .int .i64 ts, .string tl] 96)) By [.int .i64 Y] 3 := hYr.ext isext
            rintro e W3 (⟨rfl, hJ3, hk3⟩ | ⟨rfl, hJx3⟩)
            · gi_wp2
              go_roundw
              case rel => exact ⟨g, y - 1, pre ++ [⟨ta, tr, ts, tl⟩], by omega, hyn, by first | rfl | simp, E, by simp; omega, hJ3, hk3.1.trans hX4, hk3.2.trans hY4⟩
              case measure => simp [intOf]; omega
            · gi_wp2
              refine bodyPost_ret (results_none rfl _ _ _) rfl ?_
              exact ⟨⟨_, rfl⟩, .inr ⟨_, ⟨_, E.out⟩, hJx3⟩⟩
        · have E : Hid (pre = bs) := by show _ = _; rw [hb.out, Rul.back_end (.inl (by have := hyh.out; omega)), List.append_nil]
          have h3 : decide (L - 4 < y) = false := decide_eq_false h2
          clear h2
          gi_wp2
          go_end0
          exact ⟨⟨_, rfl⟩, .inl ⟨pre, E.out, hj⟩⟩
      · have E : Hid (pre = bs) := by show _ = _; rw [hb.out, Rul.back_end (.inr (by omega)), List.append_nil]
        have h3 : decide (x.a ≤ y) = false := decide_eq_false h1
        clear h1
        gi_wp2
        go_end0
        exact ⟨⟨_, rfl⟩, .inl ⟨pre, E.out, hj⟩⟩
end Go.Proofs.YtcjnficcggjeiaaDoor
