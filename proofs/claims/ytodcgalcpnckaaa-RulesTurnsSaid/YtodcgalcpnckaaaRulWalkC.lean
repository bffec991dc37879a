/- Walks of rules: which sets may be, by the document. -/
import Derived.Test.YtodcgalcpnckaaaRulWalkB
set_option linter.unusedVariables false
set_option linter.unusedSimpArgs false
namespace Go.Proofs.Ytodcgalcpnckaaa
open Go.RowKit

theorem rrule_cases (x : Rule) : (Rul.rightB x = false ∧ (x.a < 1 ∨ (decide (x.a < 1) = false ∧ 9999 < x.a) ∨ (decide (x.a < 1) = false ∧ decide (9999 < x.a) = false ∧ x.b < 1) ∨
      (decide (x.a < 1) = false ∧ decide (9999 < x.a) = false ∧ decide (x.b < 1) = false ∧ 9999 < x.b ∧ (x.b != 1000000) = true))) ∨
    (decide (x.a < 1) = false ∧ decide (9999 < x.a) = false ∧ ((decide (x.b < 1) = false ∧ decide (9999 < x.b) = false) ∨ x.b = 1000000) ∧
      ((Rul.spotB x = false ∧ Rul.rightB x = false) ∨ (Rul.spotB x = true ∧ 43200 < x.s ∧ Rul.rightB x = false) ∨ (Rul.spotB x = true ∧ decide (43200 < x.s) = false ∧ x.s < -43200 ∧ Rul.rightB x = false) ∨
        (Rul.spotB x = true ∧ decide (43200 < x.s) = false ∧ decide (x.s < -43200) = false ∧ Rul.rightB x = true))) := by
  unfold Rul.rightB Rul.yearB
  by_cases h1 : x.a < 1
  · exact .inl ⟨by simp; omega, .inl h1⟩
  by_cases h2 : 9999 < x.a
  · exact .inl ⟨by simp; omega, .inr (.inl ⟨decide_eq_false h1, h2⟩)⟩
  by_cases h3 : x.b < 1
  · exact .inl ⟨by simp; omega, .inr (.inr (.inl ⟨decide_eq_false h1, decide_eq_false h2, h3⟩))⟩
  by_cases h4 : 9999 < x.b ∧ x.b ≠ 1000000
  · exact .inl ⟨by simp; omega, .inr (.inr (.inr ⟨decide_eq_false h1, decide_eq_false h2, decide_eq_false h3, h4.1, by simpa using h4.2⟩))⟩
  right
  refine ⟨decide_eq_false h1, decide_eq_false h2, ?_, ?_⟩
  · by_cases h5 : x.b = 1000000
    · exact .inr h5
    · exact .inl ⟨decide_eq_false h3, decide_eq_false (by omega)⟩
  · have e : (decide (1 ≤ x.a ∧ x.a ≤ 9999) && (decide (1 ≤ x.b ∧ x.b ≤ 9999) || x.b == 1000000)) = true := by simp; omega
    rw [e]
    cases h6 : Rul.spotB x
    · exact .inl ⟨rfl, rfl⟩
    · right
      by_cases h7 : 43200 < x.s
      · exact .inl ⟨rfl, h7, by simp; omega⟩
      · right
        by_cases h8 : x.s < -43200
        · exact .inl ⟨rfl, decide_eq_false h7, h8, by simp; omega⟩
        · exact .inr ⟨rfl, decide_eq_false h7, decide_eq_false h8, by simp; omega⟩
theorem allB_split (l : List Rule) (j : Nat) (h : j < l.length) (hp : Rul.allB (l.take j) = true) : (Rul.rightB l[j] = false → Rul.allB l = false) ∧ (Rul.rightB l[j] = true → Rul.allB (l.take (j + 1)) = true) := by
  unfold Rul.allB at *
  constructor
  · intro hb
    rw [Bool.eq_false_iff]; intro ha
    have := List.all_eq_true.1 ha _ (List.getElem_mem h)
    rw [hb] at this; cases this
  · intro hb
    rw [List.take_succ_eq_append_getElem h, List.all_append, hp]; simp [hb]
set_option maxRecDepth 100000 in
set_option maxHeartbeats 16000000 in
theorem rsets_any (l : List Rule) (n : Nat) (hn : l.length = n) (v : Value) (w : World) (hr : Reads w v n (ruleRow l)) : Rets Try.prog 11 #[v] w (.bool (Rul.allB l)) := by
  by_cases h0 : n = 0
  · subst h0
    obtain rfl := List.eq_nil_of_length_eq_zero hn
    obtain ⟨a9, c9, rfl⟩ : ∃ a c, v = .slice a 0 c := by rcases hr with ⟨a, c, rfl, _⟩ | ⟨b, o, c, rfl, _⟩ <;> exact ⟨_, _, rfl⟩
    clear hr hn
    unfold Rets
    go_enter Try.func11, Try.ntmps11
    go_wp2
    refine wp_loop_rounds 1 ?_
    simp only [rounds_succ]
    go_wp2
    go_ret
    exact ⟨rfl, done⟩
  · rcases hr with ⟨_, _, rfl, h1, _⟩ | ⟨b, o, c, rfl, k1, k2, m1, hc⟩
    · exact absurd h1 h0
    haveI : InW b w := ⟨m1⟩
    have hl : n ≤ 9223372036854775807 := by unfold maxLen at k2; omega
    have HC := Lib.hid hc
    have Hn := Lib.hid hn
    clear hc hn
    unfold Rets
    go_enter Try.func11, Try.ntmps11
    go_wp2
    go_loopw [3] (fun i wr => ∃ j : Nat, j ≤ n ∧ i = .int .i64 j ∧ Hid (Rul.allB (l.take j) = true) ∧ Ext w wr) (fun i _ => n - (intOf i).toNat)
    case atStart => exact ⟨0, by omega, rfl, rfl, isext⟩
    case round =>
      obtain ⟨j, j2, rfl, he, hx⟩ := hrel
      obtain ⟨yr, rfl⟩ := fin hx
      clear hx
      by_cases hlt : j < n
      · have hj : j < l.length := by rw [Hn.out]; exact hlt
        obtain ⟨c0, c1, c2, c3, c4, c5, c6, c7, c8, c9, c10⟩ := rule_at HC.out j hj
        have hs := allB_split l j hj he.out
        have hcs := rrule_cases l[j]
        have HR : ∀ w, Hid (Rets Try.prog 29 #[spotA l[j].m l[j].k l[j].wd l[j].d l[j].t l[j].r] w (.bool (Rul.spotB l[j]))) := fun w => rright_whole _ _ _ _ _ _ w
        generalize l[j] = x at *
        obtain ⟨nm, a, b', m, k, wd, d, t, r, s, lt⟩ := x
        simp only at c0 c1 c2 c3 c4 c5 c6 c7 c8 c9 c10 HR hcs
        generalize Rul.spotB ⟨nm, a, b', m, k, wd, d, t, r, s, lt⟩ = S at *
        rcases hcs with ⟨hb, g1 | ⟨g1, g2⟩ | ⟨g1, g2, g3⟩ | ⟨g1, g2, g3, g4, g5⟩⟩ | ⟨g1, g2, ⟨g3, g4⟩ | rfl, ⟨rfl, hb⟩ | ⟨rfl, g6, hb⟩ | ⟨rfl, g6, g7, hb⟩ | ⟨rfl, g6, g7, hb⟩⟩
        all_goals first | (have E := Lib.hid (hs.1 hb)) | (have E := Lib.hid (hs.2 hb))
        all_goals clear hs hb he
        all_goals go_wp2_with (go_at_call 29; refine Rets.use (HR _).out ?_; intro _)
        all_goals first
          | (go_roundw
             case rel => exact ⟨j + 1, by omega, by go_num, E, isext⟩
             case measure => simp [intOf]; omega)
          | (go_ret; exact ⟨by rw [E.out]; first | done | rfl, done⟩)
      · have E : Hid (Rul.allB l = true) := by have := he.out; rwa [List.take_of_length_le (by rw [Hn.out]; omega)] at this
        go_wp2
        go_ret
        exact ⟨by rw [E.out]; first | done | rfl, done⟩
end Go.Proofs.Ytodcgalcpnckaaa
