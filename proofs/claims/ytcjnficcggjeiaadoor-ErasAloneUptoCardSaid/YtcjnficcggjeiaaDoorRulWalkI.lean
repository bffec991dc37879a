/- Walks of rules: the earliest standard time's letter, by the program. -/
import Derived.Test.YtcjnficcggjeiaaDoorRulWalkF
set_option linter.unusedVariables false
set_option linter.unusedSimpArgs false
namespace Go.Proofs.YtcjnficcggjeiaaDoor
open Go.RowKit

namespace Rul
/-- The earliest so far, and one more. -/
def updE : Option Turn → Turn → Option Turn
  | none, t => some t
  | some b, t => if t.at' < b.at' then some t else some b
def stepE (b : Option Turn) (x : Rule) : Option Turn := if (turnB x x.a && x.s == 0) = true then updE b (turnOf x x.a) else b
def firstG (l : List Rule) : Option Turn := l.foldl stepE none
theorem first_step {l : List Rule} {j : Nat} (h : j < l.length) : firstG (l.take (j + 1)) = stepE (firstG (l.take j)) l[j] := by
  unfold firstG
  rw [List.take_succ_eq_append_getElem h, List.foldl_append]; rfl
end Rul
theorem first_cases (q : Option Turn) (x : Rule) : (Rul.turnB x x.a = false ∧ Rul.stepE q x = q) ∨ (Rul.turnB x x.a = true ∧ (x.s == 0) = false ∧ Rul.stepE q x = q) ∨
    (Rul.turnB x x.a = true ∧ x.s = 0 ∧ q = none ∧ Rul.stepE q x = some (Rul.turnOf x x.a)) ∨ (Rul.turnB x x.a = true ∧ x.s = 0 ∧ q.isSome = true ∧ (Rul.turnOf x x.a).at' < (Rul.orNo q).at' ∧ Rul.stepE q x = some (Rul.turnOf x x.a)) ∨
    (Rul.turnB x x.a = true ∧ x.s = 0 ∧ q.isSome = true ∧ decide ((Rul.turnOf x x.a).at' < (Rul.orNo q).at') = false ∧ Rul.stepE q x = q) := by
  unfold Rul.stepE
  cases h : Rul.turnB x x.a
  · exact .inl ⟨rfl, by simp⟩
  · right
    by_cases hs : x.s = 0
    · right
      have e : (true && x.s == 0) = true := by simp [hs]
      rw [e, if_pos rfl]
      rcases q with _ | b
      · exact .inl ⟨rfl, hs, rfl, rfl⟩
      · right
        by_cases h2 : (Rul.turnOf x x.a).at' < b.at'
        · exact .inl ⟨rfl, hs, rfl, h2, if_pos h2⟩
        · exact .inr ⟨rfl, hs, rfl, decide_eq_false h2, if_neg h2⟩
    · exact .inl ⟨rfl, by simpa using hs, by simp [hs]⟩
set_option maxRecDepth 100000 in
set_option maxHeartbeats 16000000 in
theorem first_any (l : List Rule) (n : Nat) (hn : l.length = n) (v : Value) (w : World) (hr : Reads w v n (ruleRow l)) (h0 : n ≠ 0) :
    Rets Tryd.prog 102 #[v] w (.string (Rul.orNo (Rul.firstG l)).l) := by
  have HF : Hid (Rul.firstG l = Rul.firstG l) := rfl
  rcases hr with ⟨_, _, rfl, h1, _⟩ | ⟨b, o, c, rfl, k1, k2, m1, hc⟩
  · exact absurd h1 h0
  haveI : InW b w := ⟨m1⟩
  have hl : n ≤ 9223372036854775807 := by unfold maxLen at k2; omega
  have HC := Lib.hid hc
  have Hn := Lib.hid hn
  clear hc hn
  unfold Rets
  go_enter Tryd.func102, Tryd.ntmps102
  go_wp2
  go_loopw [4, 11] (fun fv iv wr => ∃ (j : Nat) (q : Option Turn), j ≤ n ∧ iv = .int .i64 j ∧ fv = .bool q.isSome ∧ Hid (Rul.firstG (l.take j) = q) ∧ Holds4 wr w.heap.size (Rul.orNo q) ∧ Ext w wr) (fun _ i _ => n - (intOf i).toNat)
  case atStart =>
    refine ⟨0, none, by omega, rfl, rfl, rfl, ?_, isext⟩
    constructor <;> first | (simp [go_sem, Rul.noTurn, Rul.orNo]; done) | rfl | (simp; omega)
  case round =>
    obtain ⟨j, q, j2, rfl, rfl, he, hB1, hx⟩ := hrel
    haveI : ExtC w wr := ⟨hx⟩
    haveI : InW b wr := ⟨Nat.lt_of_lt_of_le m1 (Below.size hx)⟩
    haveI : InW w.heap.size wr := ⟨hB1.lt⟩
    have e0 := hB1.c0
    have e1 := hB1.c1
    have e2 := hB1.c2
    have e3 := hB1.c3
    have g0 := hB1.f0
    have g1 := hB1.f1
    have g2 := hB1.f2
    have g3 := hB1.f3
    by_cases hlt : j < n
    · have hj : j < l.length := by rw [Hn.out]; exact hlt
      obtain ⟨c0, c1, c2, c3, c4, c5, c6, c7, c8, c9, c10⟩ := rule_at (w := wr) (fun i u hu => (Below.cell (p := ⟨b, o + i, none⟩) hx m1).trans (HC.out i u hu)) j hj
      have HT := fun w => Lib.hid (turn_any l[j] l[j].a w)
      have hcs := first_cases q l[j]
      have E : Hid (Rul.firstG (l.take (j + 1)) = Rul.stepE q l[j]) := by show _ = _; rw [Rul.first_step hj, he.out]
      generalize Rul.stepE q l[j] = q' at *
      generalize Rul.turnOf l[j] l[j].a = tt at *
      generalize Rul.turnB l[j] l[j].a = tb at *
      generalize l[j] = x at *
      obtain ⟨nm, a, b', m, k, wd, d, t, r, s, lt⟩ := x
      obtain ⟨ta, tr, ts, tl⟩ := tt
      simp only at c0 c1 c2 c3 c4 c5 c6 c7 c8 c9 c10 hcs HT
      rcases hcs with ⟨rfl, rfl⟩ | ⟨rfl, hs, rfl⟩ | ⟨rfl, rfl, rfl, rfl⟩ | ⟨rfl, rfl, rq, hle, rfl⟩ | ⟨rfl, rfl, rq, hle, rfl⟩
      · go_wp2_with (go_at_call 107; refine Rets.use (HT _).out ?_; intro y2)
        go_roundw
        case rel => exact ⟨j + 1, _, by omega, by go_num, rfl, E, hB1.ext isext, isext⟩
        case measure => simp [intOf]; omega
      · go_wp2_with (go_at_call 107; refine Rets.use (HT _).out ?_; intro y2)
        go_roundw
        case rel => exact ⟨j + 1, _, by omega, by go_num, rfl, E, hB1.ext isext, isext⟩
        case measure => simp [intOf]; omega
      · go_wp2_with (go_at_call 107; refine Rets.use (HT _).out ?_; intro y2)
        go_roundw
        case rel =>
          refine ⟨j + 1, some ⟨ta, tr, ts, tl⟩, by omega, by go_num, rfl, E, ?_, isext⟩
          exact ((hB1.ext (W := y2.x) isext).write ⟨ta, tr, ts, tl⟩).alloc _
        case measure => simp [intOf]; omega
      · rw [rq]
        generalize (Rul.orNo q).at' = bt at *
        go_wp2_with (go_at_call 107; refine Rets.use (HT _).out ?_; intro y2)
        go_roundw
        case rel =>
          refine ⟨j + 1, some ⟨ta, tr, ts, tl⟩, by omega, by go_num, rfl, E, ?_, isext⟩
          exact ((hB1.ext (W := y2.x) isext).write ⟨ta, tr, ts, tl⟩).alloc _
        case measure => simp [intOf]; omega
      · generalize hbt : (Rul.orNo q').at' = bt at *
        rw [rq]
        clear hbt
        go_wp2_with (go_at_call 107; refine Rets.use (HT _).out ?_; intro y2)
        go_roundw
        case rel => exact ⟨j + 1, q', by omega, by go_num, by rw [rq], E, hB1.ext isext, isext⟩
        case measure => simp [intOf]; omega
    · have E : Hid (Rul.firstG l = q) := by have := he.out; rwa [List.take_of_length_le (by rw [Hn.out]; omega)] at this
      have EV : Hid (Value.string (Rul.orNo (Rul.firstG l)).l = .string (Rul.orNo q).l) := by show _ = _; rw [E.out]
      generalize Rul.orNo q = bb at *
      obtain ⟨ba, br, bs, bl⟩ := bb
      simp only at e0 e1 e2 e3
      go_wp2
      go_ret
      exact ⟨by rw [EV.out]; first | done | rfl, done⟩
set_option maxRecDepth 100000 in
set_option maxHeartbeats 2000000 in
theorem first_nil (a : Option Addr) (c : Nat) (w : World) : Rets Tryd.prog 102 #[.slice a 0 c] w (.string ⟨#[]⟩) := by
  unfold Rets
  go_enter Tryd.func102, Tryd.ntmps102
  go_wp2
  refine wp_loop_rounds 1 ?_
  simp only [rounds_succ]
  go_wp2
  go_ret
  exact ⟨rfl, done⟩
theorem nil_shape {w : World} {v : Value} {n : Nat} {cs : List Value} (hr : Reads w v n cs) (h : n = 0) : ∃ a c, v = .slice a 0 c := by
  subst h
  rcases hr with ⟨a, c, rfl, _⟩ | ⟨b, o, c, rfl, _⟩ <;> exact ⟨_, _, rfl⟩
theorem first_all (l : List Rule) (n : Nat) (hn : l.length = n) (v : Value) (w : World) (hr : Reads w v n (ruleRow l)) :
    Rets Tryd.prog 102 #[v] w (.string (Rul.orNo (Rul.firstG l)).l) := by
  by_cases h0 : n = 0
  · obtain ⟨a, c, rfl⟩ := nil_shape hr h0
    obtain rfl := List.eq_nil_of_length_eq_zero (hn.trans h0)
    exact first_nil a c w
  · exact first_any l n hn v w hr h0
end Go.Proofs.YtcjnficcggjeiaaDoor
