/- Walks of rules: a year's turns, by the program. -/
import Derived.Test.YtodcgalcpnckaaaRulWalkT
import Derived.Test.YtodcgalcpnckaaaOwns
set_option linter.unusedVariables false
set_option linter.unusedSimpArgs false
namespace Go.Proofs.Ytodcgalcpnckaaa
open Go.RowKit Go.Sort Go.Shelf

namespace Rul
/-- A year's turns as the rules stand, and in order. -/
def turnL (l : List Rule) (y : Int) : List Turn := l.filterMap fun x => if turnB x y = true then some (turnOf x y) else none
def turnsG (l : List Rule) (y : Int) : List Turn := sortT (turnL l y)
theorem turnL_no {l : List Rule} {y : Int} {j : Nat} (h : j < l.length) (hb : turnB l[j] y = false) : turnL (l.take (j + 1)) y = turnL (l.take j) y := by
  unfold turnL
  rw [List.take_succ_eq_append_getElem h, List.filterMap_append]; simp [hb]
theorem turnL_yes {l : List Rule} {y : Int} {j : Nat} (h : j < l.length) (hb : turnB l[j] y = true) : turnL (l.take (j + 1)) y = turnL (l.take j) y ++ [turnOf l[j] y] := by
  unfold turnL
  rw [List.take_succ_eq_append_getElem h, List.filterMap_append]; simp [hb]
theorem turnL_le (l : List Rule) (y : Int) : (turnL l y).length ≤ l.length := List.length_filterMap_le _ _
theorem turnsG_length (l : List Rule) (y : Int) : (turnsG l y).length = (turnL l y).length := sortT_length _
end Rul
/-- A call that returns some turns. -/
def TurnsEnd (w : World) (l : List Turn) (e : Ending) (w' : World) : Prop := ∃ v, ∃ y : Past w, e = .returned v ∧ Reads y.x v l.length (turnRow l) ∧ w' = y.x
theorem Try.infoTurn : (Try.prog.info? 30).map (fun i => (i.zero, i.size, i.bytes)) = some (some (.agg #[.int .i64 0, .int .i64 0, .int .i64 0, .string ByteArray.empty]), 4, 40) := by kernel_rfl
theorem info_partsT {i : Option TypeInfo} {z : Option Value} {s b : Nat} (h : i.map (fun i => (i.zero, i.size, i.bytes)) = some (z, s, b)) : ∃ j, i = some j ∧ j.zero = z ∧ j.size = s ∧ j.bytes = b := by
  obtain ⟨j, h1, h2⟩ := Option.map_eq_some_iff.1 h
  simp only [Prod.mk.injEq] at h2
  exact ⟨j, h1, h2.1, h2.2.1, h2.2.2⟩
set_option maxRecDepth 100000 in
set_option maxHeartbeats 4000000 in
theorem turns_no (l : List Rule) (n : Nat) (hn : l.length = n) (hA : Rul.allB l = false) (y : Int) (v : Value) (w : World) (hr : Reads w v n (ruleRow l)) :
    Calls Try.prog 10 #[v, .int .i64 y] w (TurnsEnd w []) := by
  have H : ∀ w, Reads w v n (ruleRow l) → Hid (Rets Try.prog 12 #[v] w (.bool false)) := fun w hr => by
    have := sets_any l n hn v w hr
    rw [hA] at this; exact this
  go_enter Try.func10, Try.ntmps10
  go_wp2_with (go_at_call 12; refine Rets.use (H _ (hr.ext isext)).out ?_; intro _)
  go_ret
  exact ⟨_, ⟨_, isext⟩, rfl, Reads.nil _, rfl⟩
set_option maxRecDepth 100000 in
set_option maxHeartbeats 8000000 in
theorem turns_any (l : List Rule) (n : Nat) (hn : l.length = n) (h9 : n ≤ 1000) (hA : Rul.allB l = true) (y : Int) (hl : (Rul.turnL l y).length < 20) (v : Value) (w : World) (hr : Reads w v n (ruleRow l)) :
    Calls Try.prog 10 #[v, .int .i64 y] w (TurnsEnd w (Rul.turnsG l y)) := by
  have H : ∀ w, Reads w v n (ruleRow l) → Hid (Rets Try.prog 12 #[v] w (.bool true)) := fun w hr => by
    have := sets_any l n hn v w hr
    rw [hA] at this; exact this
  obtain ⟨i0, hi, hz0, hz1, hz2⟩ := info_partsT Try.infoTurn
  have hend : ∀ (av : Value) (m : Nat) (w1 : World) (ls : List Turn), ls.length = m → Rul.turnL l y = ls → Ext w w1 → w1.ownsRow w.heap.size 30 4 av m (turnRow ls) →
      Hid (Calls Try.prog 26 #[av, .func (.func 27) #[] #[]] w1 (Sorted w av m (Rul.turnsG l y))) := fun av m w1 ls h1 h2 h3 h4 => by
    unfold Rul.turnsG
    rw [h2]
    exact sorts_few ls m h1 av w w1 h3 h4 (by rw [← h1, ← h2]; exact hl)
  have hlen := Lib.hid (Rul.turnsG_length l y)
  have HB : Hid ((Rul.turnL l y).length < 20) := hl
  generalize Rul.turnsG l y = G at *
  by_cases h0 : n = 0
  · subst h0
    obtain rfl := List.eq_nil_of_length_eq_zero hn
    obtain ⟨a9, c9, rfl⟩ : ∃ a c, v = .slice a 0 c := by rcases hr with ⟨a, c, rfl, _⟩ | ⟨b, o, c, rfl, _⟩ <;> exact ⟨_, _, rfl⟩
    have HE := fun w1 h3 => hend (.slice none 0 0) 0 w1 [] rfl rfl h3 (World.ownsRow_nil _ _ _ _)
    have hG : Hid (G.length = 0) := hlen.out
    clear hend hlen HB hl hn
    go_enter Try.func10, Try.ntmps10
    go_wp2_with (go_at_call 12; refine Rets.use (H _ (hr.ext isext)).out ?_; intro _)
    refine wp_loop_rounds 1 ?_
    simp only [rounds_succ]
    go_wp2_with (go_at_call 26; refine (HE _ isext).out.mono ?_; rintro e w' ⟨rfl, z, rfl, hz⟩)
    go_ret
    exact ⟨_, z, rfl, by rw [hG.out]; exact hz, rfl⟩
  · have hr0 := hr
    rcases hr with ⟨_, _, rfl, h1, _⟩ | ⟨b, o, c, rfl, k1, k2, m1, hc⟩
    · exact absurd h1 h0
    have hl : n ≤ 9223372036854775807 := by unfold maxLen at k2; omega
    haveI : InW b w := ⟨m1⟩
    have HC := Lib.hid hc
    have Hn := Lib.hid hn
    clear hc hn
    go_enter Try.func10, Try.ntmps10
    go_wp2_with (go_at_call 12; refine Rets.use (H _ (hr0.ext isext)).out ?_; intro _)
    go_loopw [5, 15] (fun ov iv wr => ∃ (j m : Nat) (ls : List Turn), j ≤ n ∧ m ≤ j ∧ iv = .int .i64 j ∧ Hid (ls.length = m) ∧ Hid (Rul.turnL (l.take j) y = ls) ∧ OwnsC wr w.heap.size 30 4 ov m (turnRow ls) ∧ Ext w wr) (fun _ i _ => n - (intOf i).toNat)
    case atStart => exact ⟨0, 0, [], by omega, by omega, rfl, rfl, rfl, ⟨World.ownsRow_nil _ _ _ _⟩, isext⟩
    case round =>
      obtain ⟨j, m, ls, j2, m2, rfl, Hm, Hl, hown, hx⟩ := hrel
      obtain ⟨yr, rfl⟩ := fin hx
      clear hx
      obtain ⟨av, cap, rfl⟩ := owns_shape hown.own
      by_cases hlt : j < n
      · have hj : j < l.length := by rw [Hn.out]; exact hlt
        obtain ⟨c0, c1, c2, c3, c4, c5, c6, c7, c8, c9, c10⟩ := rule_at HC.out j hj
        have HT := fun w => Lib.hid (turn_any l[j] y w)
        have Eno := fun h => Lib.hid (Rul.turnL_no (y := y) hj h)
        have Eyes := fun h => Lib.hid (Rul.turnL_yes (y := y) hj h)
        generalize Rul.turnOf l[j] y = tt at *
        generalize Rul.turnB l[j] y = tb at *
        generalize l[j] = x at *
        obtain ⟨nm, a, b', mm, k, wd, d, t, r, s, lt⟩ := x
        obtain ⟨ta, tr, ts, tl⟩ := tt
        simp only at c0 c1 c2 c3 c4 c5 c6 c7 c8 c9 c10
        cases tb
        · have E : Hid (Rul.turnL (l.take (j + 1)) y = ls) := (Eno rfl).out.trans Hl.out
          clear Eno Eyes
          go_wp2_with (go_at_call 25; refine Rets.use (HT _).out ?_; intro y2)
          go_roundw
          case rel => exact ⟨j + 1, m, ls, by omega, by omega, by go_num, Hm, E, inferInstance, isext⟩
          case measure => simp [intOf]; omega
        · have E : Hid (Rul.turnL (l.take (j + 1)) y = ls ++ [⟨ta, tr, ts, tl⟩]) := by show _ = _; rw [(Eyes rfl).out, Hl.out]
          clear Eno Eyes
          go_wp2_with (first
            | (go_at_call 25; refine Rets.use (HT _).out ?_; intro y2)
            | (at_builtin; refine wpList_append_own _ rfl _ _ 24 rfl w.heap.size 30 i0 (.agg #[.int .i64 0, .int .i64 0, .int .i64 0, .string ByteArray.empty]) 4 40 Try.underlying24 hi hz0 hz1 hz2 rfl (by decide) (.slice av m cap) m (turnRow ls) rfl (OwnsC.own) _ 1 1 [.int .i64 ta, .int .i64 tr, .int .i64 ts, .string tl] rfl rfl (new_cells' _ _ _ _ (by simp)) (by simp [Value.oneCell']) (by unfold maxLen; omega) (by omega) (GeW.ge) ?_; intro v' w1 hown1 hgrow1 _; obtain ⟨av', cap', rfl⟩ := owns_shape hown1; obtain ⟨y1, rfl⟩ := fin (Ext.grown (a := w) isext (OwnsC.own (e := 30) (size := 4) (n := m) (xs := turnRow ls)) hgrow1); clear hgrow1; have hO : OwnsC y1.x w.heap.size 30 4 (.slice av' (m + 1) cap') (m + 1) (turnRow (ls ++ [⟨ta, tr, ts, tl⟩])) := ⟨by rw [turnRow_snoc]; exact hown1⟩))
          go_roundw
          case rel => exact ⟨j + 1, m + 1, ls ++ [⟨ta, tr, ts, tl⟩], by omega, by omega, by go_num, by show _ = _; rw [List.length_append, Hm.out]; rfl, E, inferInstance, isext⟩
          case measure => simp [intOf]; omega
      · have E : Hid (Rul.turnL l y = ls) := by have := Hl.out; rwa [List.take_of_length_le (by rw [Hn.out]; omega)] at this
        have HE := fun w1 h3 h4 => hend (.slice av m cap) m w1 ls Hm.out E.out h3 h4
        have hG : Hid (G.length = m) := by have := hlen.out; rw [E.out, Hm.out] at this; exact this
        clear hend hlen HB
        go_wp2_with (go_at_call 26; refine (HE _ isext OwnsC.own).out.mono ?_; rintro e w' ⟨rfl, z, rfl, hz⟩)
        go_ret
        exact ⟨_, z, rfl, by rw [hG.out]; exact hz, rfl⟩
end Go.Proofs.Ytodcgalcpnckaaa
