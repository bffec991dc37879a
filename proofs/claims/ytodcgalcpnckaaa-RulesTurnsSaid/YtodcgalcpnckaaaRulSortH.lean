/- Walks of rules: the library's stable sort of up to 60 turns; a year's turns; the law of turns. -/
import Derived.Test.YtodcgalcpnckaaaRulSortG
import Derived.Test.YtodcgalcpnckaaaRulWalkW
import Derived.Test.YtodcgalcpnckaaaRulWalkY
set_option linter.unusedVariables false
set_option linter.unusedSimpArgs false
namespace Go.Proofs.Ytodcgalcpnckaaa
open Go.RowKit Go.Sort Go.Shelf

set_option maxRecDepth 100000 in
set_option maxHeartbeats 2000000 in
theorem sorts_any (l : List Turn) (n : Nat) (hn : l.length = n) (v : Value) (w0 w : World) (hx : Ext w0 w) (ho : w.ownsRow w0.heap.size 30 4 v n (turnRow l)) (hl : n ≤ 60) :
    Calls Try.prog 26 #[v, .func (.func 27) #[] #[]] w (Sorted w0 v n (Rul.sortT l)) := by
  by_cases h20 : n < 20
  · exact sorts_few l n hn v w0 w hx ho h20
  rcases holdsK_of_owns hn ho with ⟨rfl, rfl⟩ | ⟨g, cap, rfl, hb, hg, h1, h2, hH⟩
  · omega
  · have H0 : Hid (Calls Try.prog 45 #[.slice (some ⟨g, 0, none⟩) n cap, .int .i64 n, .func (.func 27) #[] #[]] w (Sorted w0 (.slice (some ⟨g, 0, none⟩) n cap) n (Rul.sortT l))) := by
      refine (stable_many l n g cap w0 w hn (by omega) hl ⟨hH, hx, hg, hb⟩).mono ?_
      rintro e w' ⟨rfl, h⟩
      exact ⟨rfl, ⟨w', h.ext⟩, rfl, reads_of_holdsK (by rw [Rul.sortT_length]; exact hn) h1 h2 h.lt h.hold⟩
    have H := H0
    clear ho hn hH H0
    generalize Rul.sortT l = sl at *
    go_enter Try.func26, Try.ntmps26
    go_wp2_with (go_at_call 45; refine H.out.mono ?_; rintro e w' ⟨rfl, y, rfl, hy⟩)
    go_end0
    exact ⟨rfl, y, rfl, hy⟩
set_option maxRecDepth 100000 in
set_option maxHeartbeats 8000000 in
theorem turns_sixty (l : List Rule) (n : Nat) (hn : l.length = n) (h9 : n ≤ 1000) (hA : Rul.allB l = true) (y : Int) (hl : (Rul.turnL l y).length ≤ 60) (v : Value) (w : World) (hr : Reads w v n (ruleRow l)) :
    Calls Try.prog 10 #[v, .int .i64 y] w (TurnsEnd w (Rul.turnsG l y)) := by
  have H : ∀ w, Reads w v n (ruleRow l) → Hid (Rets Try.prog 12 #[v] w (.bool true)) := fun w hr => by
    have := sets_any l n hn v w hr
    rw [hA] at this; exact this
  obtain ⟨i0, hi, hz0, hz1, hz2⟩ := info_partsT Try.infoTurn
  have hend : ∀ (av : Value) (m : Nat) (w1 : World) (ls : List Turn), ls.length = m → Rul.turnL l y = ls → Ext w w1 → w1.ownsRow w.heap.size 30 4 av m (turnRow ls) →
      Hid (Calls Try.prog 26 #[av, .func (.func 27) #[] #[]] w1 (Sorted w av m (Rul.turnsG l y))) := fun av m w1 ls h1 h2 h3 h4 => by
    unfold Rul.turnsG
    rw [h2]
    exact sorts_any ls m h1 av w w1 h3 h4 (by rw [← h1, ← h2]; exact hl)
  have hlen := Lib.hid (Rul.turnsG_length l y)
  have HB : Hid ((Rul.turnL l y).length ≤ 60) := hl
  generalize Rul.turnsG l y = G at *
  by_cases h0 : n = 0
  · subst h0
    obtain rfl := List.eq_nil_of_length_eq_zero hn
    obtain ⟨a9, c9, rfl⟩ : ∃ a c, v = .slice a 0 c := by rcases hr with ⟨a, c, rfl, _⟩ | ⟨b, o, c, rfl, _⟩ <;> exact ⟨_, _, rfl⟩
    have HE := fun w1 h3 => hend (.slice none 0 0) 0 w1 [] rfl rfl h3 (World.ownsRow_nil _ _ _ _)
    have hG : Hid (G.length = 0) := hlen.out
    clear hend hlen HB hl hn
    go_enter Try.func10, Try.ntmps10
    go_wp2_with (go_at_call 12; refine Rets.use (H _ (hr.ext isext)).out ?_; intro _)
    refine wp_loop_rounds 1 ?_
    simp only [rounds_succ]
    go_wp2_with (go_at_call 26; refine (HE _ isext).out.mono ?_; rintro e w' ⟨rfl, z, rfl, hz⟩)
    go_ret
    exact ⟨_, z, rfl, by rw [hG.out]; exact hz, rfl⟩
  · have hr0 := hr
    rcases hr with ⟨_, _, rfl, h1, _⟩ | ⟨b, o, c, rfl, k1, k2, m1, hc⟩
    · exact absurd h1 h0
    have hl : n ≤ 9223372036854775807 := by unfold maxLen at k2; omega
    haveI : InW b w := ⟨m1⟩
    have HC := Lib.hid hc
    have Hn := Lib.hid hn
    clear hc hn
    go_enter Try.func10, Try.ntmps10
    go_wp2_with (go_at_call 12; refine Rets.use (H _ (hr0.ext isext)).out ?_; intro _)
    go_loopw [5, 15] (fun ov iv wr => ∃ (j m : Nat) (ls : List Turn), j ≤ n ∧ m ≤ j ∧ iv = .int .i64 j ∧ Hid (ls.length = m) ∧ Hid (Rul.turnL (l.take j) y = ls) ∧ OwnsC wr w.heap.size 30 4 ov m (turnRow ls) ∧ Ext w wr) (fun _ i _ => n - (intOf i).toNat)
    case atStart => exact ⟨0, 0, [], by omega, by omega, rfl, rfl, rfl, ⟨World.ownsRow_nil _ _ _ _⟩, isext⟩
    case round =>
      obtain ⟨j, m, ls, j2, m2, rfl, Hm, Hl, hown, hx⟩ := hrel
      obtain ⟨yr, rfl⟩ := fin hx
      clear hx
      obtain ⟨av, cap, rfl⟩ := owns_shape hown.own
      by_cases hlt : j < n
      · have hj : j < l.length := by rw [Hn.out]; exact hlt
        obtain ⟨c0, c1, c2, c3, c4, c5, c6, c7, c8, c9, c10⟩ := rule_at HC.out j hj
        have HT := fun w => Lib.hid (turn_any l[j] y w)
        have Eno := fun h => Lib.hid (Rul.turnL_no (y := y) hj h)
        have Eyes := fun h => Lib.hid (Rul.turnL_yes (y := y) hj h)
        generalize Rul.turnOf l[j] y = tt at *
        generalize Rul.turnB l[j] y = tb at *
        generalize l[j] = x at *
        obtain ⟨nm, a, b', mm, k, wd, d, t, r, s, lt⟩ := x
        obtain ⟨ta, tr, ts, tl⟩ := tt
        simp only at c0 c1 c2 c3 c4 c5 c6 c7 c8 c9 c10
        cases tb
        · have E : Hid (Rul.turnL (l.take (j + 1)) y = ls) := (Eno rfl).out.trans Hl.out
          clear Eno Eyes
          go_wp2_with (go_at_call 25; refine Rets.use (HT _).out ?_; intro y2)
          go_roundw
          case rel => exact ⟨j + 1, m, ls, by omega, by omega, by go_num, Hm, E, inferInstance, isext⟩
          case measure => simp [intOf]; omega
        · have E : Hid (Rul.turnL (l.take (j + 1)) y = ls ++ [⟨ta, tr, ts, tl⟩]) := by show _ = _; rw [(Eyes rfl).out, Hl.out]
          clear Eno Eyes
          go_wp2_with (first
            | (go_at_call 25; refine Rets.use (HT _).out ?_; intro y2)
            | (at_builtin; refine wpList_append_own _ rfl _ _ 24 rfl w.heap.size 30 i0 (.agg #[.int .i64 0, .int .i64 0, .int .i64 0, .string ByteArray.empty]) 4 40 Try.underlying24 hi hz0 hz1 hz2 rfl (by decide) (.slice av m cap) m (turnRow ls) rfl (OwnsC.own) _ 1 1 [.int .i64 ta, .int .i64 tr, .int .i64 ts, .string tl] rfl rfl (new_cells' _ _ _ _ (by simp)) (by simp [Value.oneCell']) (by unfold maxLen; omega) (by omega) (GeW.ge) ?_; intro v' w1 hown1 hgrow1 _; obtain ⟨av', cap', rfl⟩ := owns_shape hown1; obtain ⟨y1, rfl⟩ := fin (Ext.grown (a := w) isext (OwnsC.own (e := 30) (size := 4) (n := m) (xs := turnRow ls)) hgrow1); clear hgrow1; have hO : OwnsC y1.x w.heap.size 30 4 (.slice av' (m + 1) cap') (m + 1) (turnRow (ls ++ [⟨ta, tr, ts, tl⟩])) := ⟨by rw [turnRow_snoc]; exact hown1⟩))
          go_roundw
          case rel => exact ⟨j + 1, m + 1, ls ++ [⟨ta, tr, ts, tl⟩], by omega, by omega, by go_num, by show _ = _; rw [List.length_append, Hm.out]; rfl, E, inferInstance, isext⟩
          case measure => simp [intOf]; omega
      · have E : Hid (Rul.turnL l y = ls) := by have := Hl.out; rwa [List.take_of_length_le (by rw [Hn.out]; omega)] at this
        have HE := fun w1 h3 h4 => hend (.slice av m cap) m w1 ls Hm.out E.out h3 h4
        have hG : Hid (G.length = m) := by have := hlen.out; rw [E.out, Hm.out] at this; exact this
        clear hend hlen HB
        go_wp2_with (go_at_call 26; refine (HE _ isext OwnsC.own).out.mono ?_; rintro e w' ⟨rfl, z, rfl, hz⟩)
        go_ret
        exact ⟨_, z, rfl, by rw [hG.out]; exact hz, rfl⟩

set_option maxRecDepth 100000 in
set_option maxHeartbeats 8000000 in
theorem turnslaw_any (l : List Rule) (n : Nat) (hn : l.length = n) (v : Value) (y : Int) (w : World) (hr : Reads w v n (ruleRow l)) :
    Rets Try.prog 3 #[v, .int .i64 y] w (.bool true) := by
  have HL := fun w => Lib.hid (ralive_any w)
  have HR := fun w hr => Lib.hid (rsets_any l n hn v w hr)
  have HP := fun w hr => Lib.hid (sets_any l n hn v w hr)
  have HN := fun hA w hr => Lib.hid (turns_no l n hn hA y v w hr)
  have HG := fun (h60 : n ≤ 60) hA w hr => Lib.hid (turns_sixty l n hn (by omega) hA y (by have := Rul.turnL_le l y; omega) v w hr)
  have HD := fun (h60 : n ≤ 60) w hr => Lib.hid (rturns_any l n hn (by omega) y v w hr)
  have hr0 := hr
  obtain ⟨a8, c8, hv⟩ := reads_shape hr
  subst hv
  unfold Rets
  by_cases h60 : 60 < n
  · have h60' : (60 : Int) < n := by omega
    clear HR HP HN HG HD
    go_enter Try.func3, Try.ntmps3
    go_wp2_with (go_at_call 9; refine Rets.use (HL _).out ?_; intro _)
    go_ret
    exact ⟨rfl, done⟩
  have h60n : n ≤ 60 := by omega
  have h60' : decide ((60 : Int) < n) = false := decide_eq_false (by omega)
  cases hA : Rul.allB l
  · have HN1 := HN hA
    rw [hA] at HR HP
    clear HN HG HD hA
    go_enter Try.func3, Try.ntmps3
    go_wp2_with fail
    go_at_call 10
    refine (HN1 _ (hr0.ext isext)).out.mono ?_
    rintro _ _ ⟨v1, y1, rfl, hv1, rfl⟩
    obtain ⟨a9, c9, hv9⟩ := reads_shape hv1
    subst hv9
    clear hv1
    go_wp2_with (first | (go_at_call 9; refine Rets.use (HL _).out ?_; intro _) | (go_at_call 12; refine Rets.use (HP _ (hr0.ext isext)).out ?_; intro _) | (go_at_call 11; refine Rets.use (HR _ (hr0.ext isext)).out ?_; intro _))
    go_ret
    exact ⟨rfl, done⟩
  · have HG1 := HG h60n hA
    have HD1 := HD h60n
    rw [hA] at HR HP
    clear HN HG HD hA
    have HT := fun (l : List Turn) va vb w ha hb => Lib.hid (turns_same l l.length rfl va vb w ha hb)
    generalize Rul.turnsG l y = T at *
    go_enter Try.func3, Try.ntmps3
    go_wp2_with fail
    go_at_call 10
    refine (HG1 _ (hr0.ext isext)).out.mono ?_
    rintro _ _ ⟨v1, y1, rfl, hv1, rfl⟩
    have HV1 := Lib.hid hv1
    clear hv1
    go_wp2_with (first | (go_at_call 9; refine Rets.use (HL _).out ?_; intro _) | (go_at_call 12; refine Rets.use (HP _ (hr0.ext isext)).out ?_; intro _) | (go_at_call 11; refine Rets.use (HR _ (hr0.ext isext)).out ?_; intro _))
    go_at_call 14
    refine (HD1 _ (hr0.ext isext)).out.mono ?_
    rintro _ _ ⟨v2, y2, rfl, hv2, rfl⟩
    have HV2 := Lib.hid hv2
    clear hv2
    go_wp2_with (go_at_call 13; refine Rets.use (HT _ _ _ _ (HV1.out.ext isext) (HV2.out.ext isext)).out ?_; intro _)
    go_ret
    exact ⟨rfl, done⟩
end Go.Proofs.Ytodcgalcpnckaaa
