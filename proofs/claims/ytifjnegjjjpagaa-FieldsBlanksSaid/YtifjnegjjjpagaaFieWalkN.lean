/- Walk: the law of what was joined and is split again. -/
import Derived.Test.YtifjnegjjjpagaaFiePlainF
set_option linter.unusedVariables false
set_option linter.unusedSimpArgs false
namespace Go.Proofs.Ytifjnegjjjpagaa
open Go.RowKit

theorem map_fst_at {vs : List (ByteArray × Int)} {l : List ByteArray} (h : vs.map (·.1) = l) (j : Nat) (hj : j < l.length) (hv : j < vs.length) : vs[j].1 = l[j] := by
  subst h; simp

set_option maxRecDepth 100000 in
set_option maxHeartbeats 2000000 in
theorem backlaw_any (l : List ByteArray) (n : Nat) (hn : l.length = n) (v : Value) (hs : ∀ s ∈ l, s.size ≤ maxLen) (w : World) (hr : Reads w v n (l.map Value.string)) : Rets Try.prog 6 #[v] w (.bool true) := by
  unfold Rets
  cases hb : longB l
  rotate_left
  · have L0 := Lib.hid (hb ▸ long_any l n hn v w hr hs)
    clear hs hr hb hn
    go_enter Try.func6, Try.ntmps6
    go_wp2_with fail
    refine Rets.use L0.out ?_
    intro y
    go_wp2_with (go_at_call 8; refine Rets.use (alive_any _) ?_; intro _)
    go_ret
    exact ⟨rfl, done⟩
  obtain ⟨b1, b2⟩ := longB_no hb
  rw [hn] at b1
  have L0 := Lib.hid (hb ▸ long_any l n hn v w hr hs)
  have J1 := fun (y : Past w) => Lib.hid (join_reads l n hn v y.x b1 b2 (hr.past y))
  unfold JoinSays at J1
  by_cases ok : (joinR l).2 = 0
  rotate_left
  · obtain ⟨e, he⟩ : ∃ e, joinR l = (ByteArray.empty, e) ∧ ((e : Int) != 0) = true := by
      unfold joinR at ok ⊢
      split
      · split
        · exact ⟨12, rfl, rfl⟩
        · rename_i h1 h2; rw [if_pos h1, if_neg h2] at ok; exact absurd rfl ok
      · exact ⟨6, rfl, rfl⟩
    rw [he.1] at J1
    have h0 := he.2
    clear b2 hs hr hb hn b1 ok he
    go_enter Try.func6, Try.ntmps6
    go_wp2_with fail
    refine Rets.use L0.out ?_
    intro y
    go_wp2_with fail
    refine Rets.use1 (J1 y).out ?_
    intro y1
    go_wp2_with (go_at_call 8; refine Rets.use (alive_any _) ?_; intro _)
    go_ret
    exact ⟨rfl, done⟩
  have hj : allOk l = true ∧ l.length ≤ 16 ∧ (joined l).size ≤ 500 ∧ joinR l = (joined l, 0) := by
    cases ha : allOk l
    · unfold joinR at ok; rw [if_neg (by rw [ha]; simp)] at ok; cases ok
    · by_cases c : 16 < l.length ∨ 500 < (joined l).size
      · unfold joinR at ok; rw [if_pos ha, if_pos c] at ok; cases ok
      · exact ⟨rfl, by omega, by omega, by unfold joinR; rw [if_pos ha, if_neg c]⟩
  obtain ⟨h1, h2, h3, h4⟩ := hj
  obtain ⟨vs, hv, hm⟩ := Fie.split_joined l h1 h2
  have S1 := fun w => Lib.hid (hv ▸ split_any (joined l) w h3)
  rw [h4] at J1
  have hvn : vs.length = n := by have := congrArg List.length hm; simp at this; omega
  have HN := Lib.hid hvn
  have HL := Lib.hid hn
  have HM := Lib.hid hm
  have n16 : n ≤ 16 := by omega
  clear b2 hs hb b1 ok h1 h2 h3 h4 hv hm hvn
  generalize joined l = t at *
  clear hn
  by_cases z : n = 0
  · subst z
    have hvz : ∃ a c, v = .slice a 0 c := by
      rcases hr with ⟨a9, c9, rfl, _⟩ | ⟨b, o, c, rfl, _⟩ <;> exact ⟨_, _, rfl⟩
    obtain ⟨a9, c9, rfl⟩ := hvz
    have vz : vs = [] := List.eq_nil_of_length_eq_zero HN.out
    subst vz
    clear hr HN HL HM n16
    go_enter Try.func6, Try.ntmps6
    go_wp2_with fail
    refine Rets.use L0.out ?_
    intro y
    go_wp2_with fail
    refine Rets.use1 (J1 y).out ?_
    intro y1
    go_wp2_with fail
    refine (S1 _).out.mono ?_
    rintro _ _ ⟨v2, y2, rfl, hr2, rfl⟩
    have hvz2 : ∃ a c, v2 = .slice a 0 c := by
      rcases hr2 with ⟨a9, c9, rfl, _⟩ | ⟨b, o, c, rfl, _⟩ <;> exact ⟨_, _, rfl⟩
    obtain ⟨a8, c8, rfl⟩ := hvz2
    clear hr2
    go_wp2
    refine wp_loop_rounds 1 ?_
    simp only [rounds_succ]
    go_wp2_with (go_at_call 8; refine Rets.use (alive_any _) ?_; intro _)
    go_ret
    exact ⟨rfl, done⟩
  rcases hr with ⟨a9, c9, rfl, h0, _⟩ | ⟨b, o, c, rfl, k1, k2, hb, hc⟩
  · exact absurd h0 z
  haveI : InW b w := ⟨hb⟩
  have HC := Lib.hid hc
  have hl : n ≤ 9223372036854775807 := by omega
  clear hc
  go_enter Try.func6, Try.ntmps6
  go_wp2_with fail
  refine Rets.use L0.out ?_
  intro y
  go_wp2_with fail
  refine Rets.use1 (J1 y).out ?_
  intro y1
  go_wp2_with fail
  refine (S1 _).out.mono ?_
  rintro _ _ ⟨v2, y2, rfl, hr2, rfl⟩
  simp only [HN.out] at hr2
  rcases hr2 with ⟨a9, c9, rfl, h0, _⟩ | ⟨b2, o2, c2, rfl, k3, k4, hb2, hc2⟩
  · exact absurd h0 z
  haveI : InW b2 y2.x := ⟨hb2⟩
  have HC2 := Lib.hid hc2
  clear hc2
  go_wp2
  go_loopw [8] (fun i wr => ∃ j : Nat, j ≤ n ∧ i = .int .i64 j ∧ Ext y2.x wr) (fun i _ => n - (intOf i).toNat)
  case atStart => exact ⟨0, by omega, rfl, isext⟩
  case round =>
    obtain ⟨j, j2, rfl, hx⟩ := hrel
    obtain ⟨yr, rfl⟩ := fin hx
    clear hx
    by_cases hlt : j < n
    · have f1 := text_at HC.out j (by rw [HL.out]; exact hlt)
      have f2 := (word_at HC2.out j (by rw [HN.out]; exact hlt)).1
      rw [map_fst_at HM.out j (by rw [HL.out]; exact hlt) (by rw [HN.out]; exact hlt)] at f2
      generalize l[j]'(by rw [HL.out]; exact hlt) = u at *
      go_wp2
      refine wp_region_past1 (by kernel_rfl) (by kernel_rfl) ?_
      repeat (go_big_quiet_step (fail))
      refine wpQuiet_nil ?_
      intro _
      go_wp2
      go_roundw
      case rel => exact ⟨j + 1, by omega, by go_num, isext⟩
      case measure => simp [intOf]; omega
    · go_wp2_with (go_at_call 8; refine Rets.use (alive_any _) ?_; intro _)
      go_ret
      exact ⟨rfl, done⟩
end Go.Proofs.Ytifjnegjjjpagaa
