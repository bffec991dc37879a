/- Walk: the law of blanks and a remark, the other ways. -/
import Derived.Test.YtifjnegjjjpagaaFieWalkO
set_option linter.unusedVariables false
set_option linter.unusedSimpArgs false
namespace Go.Proofs.Ytifjnegjjjpagaa
open Go.RowKit
set_option maxRecDepth 100000 in
set_option maxHeartbeats 4000000 in
/-- Where the join is refused, or there are too many. -/
theorem blanks_no (l : List ByteArray) (n : Nat) (hn : l.length = n) (b o c : Nat) (w : World) (hbw : b < w.heap.size) (k1 : n ≤ c) (k2 : c ≤ maxLen) (z : n ≠ 0)
    (hc : ∀ i u, (l.map Value.string)[i]? = some u → w.cell? ⟨b, o + i, none⟩ = some u) (ga : Option Addr) (ng gc : Nat)
    (R : ByteArray) (hR : R.size ≤ 50) (hb : longB l = false) (hok : ((joinR l).2 != 0) = true ∨ ((joinR l).2 != 0) = false ∧ 10 < n) (hs : ∀ s ∈ l, s.size ≤ maxLen) :
    Rets Try.prog 7 #[.slice (some ⟨b, o, none⟩) n c, .slice ga ng gc, .string R] w (.bool true) := by
  have hr : Reads w (.slice (some ⟨b, o, none⟩) n c) n (l.map Value.string) := .inr ⟨b, o, c, rfl, k1, k2, hbw, hc⟩
  obtain ⟨b1, b2⟩ := longB_no hb
  have L0 := Lib.hid (hb ▸ long_any l n hn _ w hr hs)
  have J1 := fun (y : Past w) => Lib.hid (join_reads l n hn _ y.x (by omega) b2 (hr.past y))
  unfold JoinSays at J1
  haveI : InW b w := ⟨hbw⟩
  have HC := Lib.hid hc
  have HL := Lib.hid hn
  have hl : n ≤ 9223372036854775807 := by unfold maxLen at k2; omega
  obtain ⟨tj, htj⟩ : ∃ t, (joinR l).1 = t := ⟨_, rfl⟩
  obtain ⟨ej, hej⟩ : ∃ e, (joinR l).2 = e := ⟨_, rfl⟩
  rw [htj, hej] at J1
  rw [hej] at hok
  clear hc hn hr hb b1 b2 hs htj hej
  unfold Rets
  go_enter Try.func7, Try.ntmps7
  go_wp2_with fail
  refine Rets.use L0.out ?_
  intro y
  go_wp2_with fail
  go_loopw [7] (fun i wr => ∃ j : Nat, j ≤ n ∧ i = .int .i64 j ∧ Ext w wr) (fun i _ => n - (intOf i).toNat)
  case atStart => exact ⟨0, by omega, rfl, isext⟩
  case round =>
    obtain ⟨j, j1, rfl, hx⟩ := hrel
    obtain ⟨yr, rfl⟩ := fin hx
    clear hx
    by_cases hlt : j < n
    · have hk : j < l.length := by rw [HL.out]; exact hlt
      have f1 := text_at HC.out j hk
      generalize l[j] = u at *
      clear hk
      by_cases c2 : 20 < u.size
      · go_wp2_with (go_at_call 8; refine Rets.use (alive_any _) ?_; intro _)
        go_ret
        exact ⟨rfl, done⟩
      · go_wp2
        go_roundw
        case rel => exact ⟨j + 1, by omega, by go_num, isext⟩
        case measure => simp [intOf]; omega
    · rcases hok with hok | ⟨hok, hten⟩
      all_goals
        go_wp2_with fail
        refine Rets.use1 (J1 yr).out ?_
        intro y1
        go_wp2_with (go_at_call 8; refine Rets.use (alive_any _) ?_; intro _)
        go_ret
        exact ⟨rfl, done⟩

set_option maxRecDepth 100000 in
set_option maxHeartbeats 4000000 in
/-- No fields at all. -/
theorem blanks_none (a : Option Addr) (c : Nat) (w : World) (ga : Option Addr) (ng gc : Nat) (R : ByteArray) (hR : R.size ≤ 50) :
    Rets Try.prog 7 #[.slice a 0 c, .slice ga ng gc, .string R] w (.bool true) := by
  have hr : Reads w (.slice a 0 c) 0 (([] : List ByteArray).map Value.string) := .inl ⟨a, c, rfl, rfl, rfl⟩
  have L0 := Lib.hid (long_any [] 0 rfl _ w hr (by simp))
  have J1 := fun (y : Past w) => Lib.hid (join_reads [] 0 rfl _ y.x (by omega) (by simp) (hr.past y))
  unfold JoinSays at J1
  have e1 : longB [] = false := rfl
  have e2 : joinR [] = (⟨#[]⟩, 0) := rfl
  rw [e1] at L0
  rw [e2] at J1
  have S1 := fun w => Lib.hid (split_any ⟨#[]⟩ w (by decide))
  have e3 : run ⟨#[]⟩ (Fie.stop Fie.blank ⟨#[]⟩ 0) [] = ([], 0, 0) := rfl
  rw [e3] at S1
  obtain ⟨sz, us, e4, e5⟩ := Built.split (R := R) (Built.nil []) rfl (by simp) hR
  have S2 := fun w => Lib.hid (e4 ▸ split_any _ w sz)
  have eu : us = [] := List.map_eq_nil_iff.1 e5
  subst eu
  have ea : (⟨#[]⟩ : ByteArray) ++ ⟨#[32, 35]⟩ ++ R = ⟨#[32, 35]⟩ ++ R := by
    apply Fie.ba_eq; simp [ByteArray.data_append]
  rw [ea] at S2
  clear hr e1 e2 e3 e4 e5 sz ea
  unfold Rets
  go_enter Try.func7, Try.ntmps7
  go_wp2_with fail
  refine Rets.use L0.out ?_
  intro y
  go_wp2_with fail
  refine wp_loop_rounds 1 ?_
  simp only [rounds_succ]
  go_wp2_with fail
  refine Rets.use1 (J1 y).out ?_
  intro y1
  go_wp2
  refine wp_loop_rounds 1 ?_
  simp only [rounds_succ]
  go_wp2_with fail
  refine (S1 _).out.mono ?_
  rintro _ _ ⟨v2, y3, rfl, hr2, rfl⟩
  have hvz2 : ∃ a c, v2 = .slice a 0 c := by
    rcases hr2 with ⟨a9, c9, rfl, _⟩ | ⟨b, o, c, rfl, _⟩ <;> exact ⟨_, _, rfl⟩
  obtain ⟨a8, c8, rfl⟩ := hvz2
  clear hr2
  go_wp2_with fail
  refine (S2 _).out.mono ?_
  rintro _ _ ⟨v3, y4, rfl, hr3, rfl⟩
  have hvz3 : ∃ a c, v3 = .slice a 0 c := by
    rcases hr3 with ⟨a9, c9, rfl, _⟩ | ⟨b, o, c, rfl, _⟩ <;> exact ⟨_, _, rfl⟩
  obtain ⟨a7, c7, rfl⟩ := hvz3
  clear hr3
  go_wp2
  refine wp_loop_rounds 1 ?_
  simp only [rounds_succ]
  go_wp2_with (go_at_call 8; refine Rets.use (alive_any _) ?_; intro _)
  go_ret
  exact ⟨rfl, done⟩

set_option maxRecDepth 100000 in
set_option maxHeartbeats 4000000 in
theorem blanks_let (l : List ByteArray) (n : Nat) (hn : l.length = n) (v vg : Value) (hs : ∀ s ∈ l, s.size ≤ maxLen) (R : ByteArray) (hR : R.size ≤ maxLen) (w : World) (hr : Reads w v n (l.map Value.string))
    (h : longB l = true ∨ 50 < R.size) : Rets Try.prog 7 #[v, vg, .string R] w (.bool true) := by
  have L0 := Lib.hid (long_any l n hn v w hr hs)
  unfold maxLen at hR
  clear hs hr hn
  unfold Rets
  cases hb : longB l
  · have h2 : 50 < R.size := by
      rcases h with h | h
      · rw [hb] at h; cases h
      · exact h
    rw [hb] at L0
    clear h hb
    go_enter Try.func7, Try.ntmps7
    go_wp2_with fail
    refine Rets.use L0.out ?_
    intro y
    go_wp2_with (go_at_call 8; refine Rets.use (alive_any _) ?_; intro _)
    go_ret
    exact ⟨rfl, done⟩
  · rw [hb] at L0
    clear h hb
    go_enter Try.func7, Try.ntmps7
    go_wp2_with fail
    refine Rets.use L0.out ?_
    intro y
    go_wp2_with (go_at_call 8; refine Rets.use (alive_any _) ?_; intro _)
    go_ret
    exact ⟨rfl, done⟩

theorem blankslaw_any (l : List ByteArray) (n : Nat) (hn : l.length = n) (v : Value) (gs : List Int) (ng : Nat) (hng : gs.length = ng) (vg : Value) (R : ByteArray)
    (hs : ∀ s ∈ l, s.size ≤ maxLen) (hgs : ∀ x ∈ gs, (Lit.int .u8 x).wf = true) (hR : R.size ≤ maxLen) (w : World) (hr : Reads w v n (l.map Value.string)) (hg : Reads w vg ng (gs.map (Value.int .u8))) :
    Rets Try.prog 7 #[v, vg, .string R] w (.bool true) := by
  by_cases h : longB l = true ∨ 50 < R.size
  · exact blanks_let l n hn v vg hs R hR w hr h
  have hb : longB l = false := by
    cases hb : longB l
    · rfl
    · exact absurd (.inl hb) h
  have hR5 : R.size ≤ 50 := by
    rcases Nat.lt_or_ge 50 R.size with h5 | h5
    · exact absurd (.inr h5) h
    · exact h5
  obtain ⟨ga, gc, hvg⟩ : ∃ ga gc, vg = .slice ga ng gc := by
    rcases hg with ⟨a9, c9, rfl, rfl, _⟩ | ⟨b, o, c, rfl, _⟩ <;> exact ⟨_, _, rfl⟩
  by_cases z : n = 0
  · subst z
    obtain ⟨a, c, rfl⟩ : ∃ a c, v = .slice a 0 c := by
      rcases hr with ⟨a9, c9, rfl, _⟩ | ⟨b, o, c, rfl, _⟩ <;> exact ⟨_, _, rfl⟩
    subst hvg
    exact blanks_none a c w ga ng gc R hR5
  rcases hr with ⟨a9, c9, rfl, h0, _⟩ | ⟨b, o, c, rfl, k1, k2, hbw, hc⟩
  · exact absurd h0 z
  by_cases ok : (joinR l).2 = 0
  · have hj : allOk l = true ∧ l.length ≤ 16 ∧ (joined l).size ≤ 500 ∧ joinR l = (joined l, 0) := by
      cases ha : allOk l
      · unfold joinR at ok; rw [if_neg (by rw [ha]; simp)] at ok; cases ok
      · by_cases c : 16 < l.length ∨ 500 < (joined l).size
        · unfold joinR at ok; rw [if_pos ha, if_pos c] at ok; cases ok
        · exact ⟨rfl, by omega, by omega, by unfold joinR; rw [if_pos ha, if_neg c]⟩
    obtain ⟨h1, h2, h3, h4⟩ := hj
    by_cases h10 : n ≤ 10
    · exact blanks_main l n hn b o c w hbw k1 k2 z hc gs ng hng vg hgs hg R hR5 hb h4 h1 h10 h3 hs
    · subst hvg
      exact blanks_no l n hn b o c w hbw k1 k2 z hc ga ng gc R hR5 hb (.inr ⟨by rw [ok]; rfl, by omega⟩) hs
  · subst hvg
    exact blanks_no l n hn b o c w hbw k1 k2 z hc ga ng gc R hR5 hb (.inl (by rw [bne_iff_ne]; exact ok)) hs
end Go.Proofs.Ytifjnegjjjpagaa
