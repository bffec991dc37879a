/- Walks of rules: two rows of turns held against each other. -/
import Derived.Test.YtodcgalcpnckaaaRulWalkD
set_option linter.unusedVariables false
set_option linter.unusedSimpArgs false
namespace Go.Proofs.Ytodcgalcpnckaaa
open Go.RowKit

/-- The cells of some turns. -/
def turnRow : List Turn → List Value
  | [] => []
  | x :: l => turnCells x ++ turnRow l
theorem turnRow_at (l : List Turn) : ∀ (i : Nat) (h : i < l.length) (c : Nat) (u : Value), (turnCells l[i])[c]? = some u → (turnRow l)[i * 4 + c]? = some u := by
  induction l with
  | nil => intro i h; simp at h
  | cons x l ih =>
    intro i h c u hu
    cases i with
    | zero =>
      have hc : c < (turnCells x).length := (List.getElem?_eq_some_iff.1 hu).1
      simp only [Nat.zero_mul, Nat.zero_add, turnRow]
      rw [List.getElem?_append_left hc]; exact hu
    | succ i =>
      have := ih i (by simpa using h) c u hu
      simp only [turnRow]
      rw [List.getElem?_append_right (by simp; omega)]
      rw [show (i + 1) * 4 + c - (turnCells x).length = i * 4 + c by simp; omega]
      exact this
/-- What a slice of turns holds at a place. -/
theorem turn_at {w : World} {b o : Nat} {l : List Turn} (hc : ∀ i u, (turnRow l)[i]? = some u → w.cell? ⟨b, o + i, none⟩ = some u) (j : Nat) (h : j < l.length) :
    w.cell? ⟨b, o + j * 4, none⟩ = some (.int .i64 l[j].at') ∧ w.cell? ⟨b, o + j * 4 + 1, none⟩ = some (.int .i64 l[j].r) ∧ w.cell? ⟨b, o + j * 4 + 2, none⟩ = some (.int .i64 l[j].s) ∧ w.cell? ⟨b, o + j * 4 + 3, none⟩ = some (.string l[j].l) := by
  have k := fun c u hu => hc _ _ (turnRow_at l j h c u hu)
  simp only [← Nat.add_assoc] at k
  exact ⟨k 0 _ rfl, k 1 _ rfl, k 2 _ rfl, k 3 _ rfl⟩
set_option maxRecDepth 100000 in
set_option maxHeartbeats 2000000 in
theorem turns_same (l : List Turn) (n : Nat) (hn : l.length = n) (va vb : Value) (w : World) (ha : Reads w va n (turnRow l)) (hb : Reads w vb n (turnRow l)) :
    Rets Try.prog 13 #[va, vb] w (.bool true) := by
  by_cases h0 : n = 0
  · subst h0
    rcases ha with ⟨x1, y1, rfl, _, _⟩ | ⟨b1, o1, c1, rfl, _⟩ <;> rcases hb with ⟨x2, y2, rfl, _, _⟩ | ⟨b2, o2, c2, rfl, _⟩
    all_goals
      clear hn
      unfold Rets
      go_enter Try.func13, Try.ntmps13
      go_wp2
      refine wp_loop_rounds 1 ?_
      simp only [rounds_succ]
      go_wp2
      go_ret
      exact ⟨rfl, done⟩
  · rcases ha with ⟨_, _, rfl, h1, _⟩ | ⟨b1, o1, c1, rfl, k1, k2, m1, hc1⟩
    · exact absurd h1 h0
    rcases hb with ⟨_, _, rfl, h1, _⟩ | ⟨b2, o2, c2, rfl, k3, k4, m2, hc2⟩
    · exact absurd h1 h0
    haveI : InW b1 w := ⟨m1⟩
    haveI : InW b2 w := ⟨m2⟩
    have hl : n ≤ 9223372036854775807 := by unfold maxLen at k2; omega
    have H1 := Lib.hid hc1
    have H2 := Lib.hid hc2
    have Hn := Lib.hid hn
    clear hc1 hc2 hn
    unfold Rets
    go_enter Try.func13, Try.ntmps13
    go_wp2
    go_loopw [5] (fun i wr => ∃ j : Nat, j ≤ n ∧ i = .int .i64 j ∧ Ext w wr) (fun i _ => n - (intOf i).toNat)
    case atStart => exact ⟨0, by omega, rfl, isext⟩
    case round =>
      obtain ⟨j, j2, rfl, hx⟩ := hrel
      obtain ⟨yr, rfl⟩ := fin hx
      clear hx
      by_cases hlt : j < n
      · obtain ⟨p0, p1, p2, p3⟩ := turn_at H1.out j (by rw [Hn.out]; exact hlt)
        obtain ⟨q0, q1, q2, q3⟩ := turn_at H2.out j (by rw [Hn.out]; exact hlt)
        generalize l[j]'(by rw [Hn.out]; exact hlt) = t at *
        obtain ⟨ta, tr, ts, tl⟩ := t
        simp only at p0 p1 p2 p3 q0 q1 q2 q3
        go_wp2
        refine wp_region_past1 (by kernel_rfl) (by kernel_rfl) ?_
        repeat (go_big_quiet_step (fail))
        refine wpQuiet_nil ?_
        intro _
        go_wp2
        go_roundw
        case rel => exact ⟨j + 1, by omega, by go_num, isext⟩
        case measure => simp [intOf]; omega
      · go_wp2
        go_ret
        exact ⟨rfl, done⟩
end Go.Proofs.Ytodcgalcpnckaaa
