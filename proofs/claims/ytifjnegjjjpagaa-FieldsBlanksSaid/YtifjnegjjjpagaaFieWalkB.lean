/- Walks: lists held against each other. -/
import Derived.Test.YtifjnegjjjpagaaFieWalk
import Derived.Test.YtifjnegjjjpagaaReads
set_option linter.unusedVariables false
set_option linter.unusedSimpArgs false
namespace Go.Proofs.Ytifjnegjjjpagaa
open Go.RowKit

/-- The cells of some words: text, place. -/
def wordCells : List (ByteArray × Int) → List Value
  | [] => []
  | x :: l => .string x.1 :: .int .i64 x.2 :: wordCells l
theorem wordCells_len (l : List (ByteArray × Int)) : (wordCells l).length = 2 * l.length := by
  induction l with
  | nil => rfl
  | cons x l ih => simp [wordCells, ih]; omega
theorem wordCells_at (l : List (ByteArray × Int)) : ∀ (i : Nat) (h : i < l.length), (wordCells l)[i * 2]? = some (.string l[i].1) ∧ (wordCells l)[i * 2 + 1]? = some (.int .i64 l[i].2) := by
  induction l with
  | nil => intro i h; simp at h
  | cons x l ih =>
    intro i h
    cases i with
    | zero => simp [wordCells]
    | succ i =>
      have := ih i (by simpa using h)
      simpa [wordCells, Nat.add_mul] using this

/-- What a slice of words holds at a place. -/
theorem word_at {w : World} {b o : Nat} {l : List (ByteArray × Int)} (hc : ∀ i u, (wordCells l)[i]? = some u → w.cell? ⟨b, o + i, none⟩ = some u) (j : Nat) (h : j < l.length) :
    w.cell? ⟨b, o + j * 2, none⟩ = some (.string l[j].1) ∧ w.cell? ⟨b, o + j * 2 + 1, none⟩ = some (.int .i64 l[j].2) := by
  have := wordCells_at l j h
  exact ⟨hc _ _ this.1, by have := hc _ _ this.2; rwa [← Nat.add_assoc] at this⟩
theorem len_cast (n : Nat) : ((n : Int) != (n : Int)) = false := by simp

set_option maxHeartbeats 1000000 in
theorem same_any (l : List (ByteArray × Int)) (n : Nat) (hn : l.length = n) (va vb : Value) (w : World) (ha : Reads w va n (wordCells l)) (hb : Reads w vb n (wordCells l)) :
    Rets Try.prog 14 #[va, vb] w (.bool true) := by
  by_cases h0 : n = 0
  · subst h0
    rcases ha with ⟨x1, y1, rfl, _, _⟩ | ⟨b1, o1, c1, rfl, _⟩ <;> rcases hb with ⟨x2, y2, rfl, _, _⟩ | ⟨b2, o2, c2, rfl, _⟩
    all_goals
      clear hn
      go_enter Try.func14, Try.ntmps14
      go_wp2
      refine wp_loop_rounds 1 ?_
      simp only [rounds_succ]
      go_wp2
      go_ret
      exact ⟨rfl, done⟩
  · rcases ha with ⟨_, _, rfl, h1, _⟩ | ⟨b1, o1, c1, rfl, k1, k2, m1, hc1⟩
    · exact absurd h1 h0
    rcases hb with ⟨_, _, rfl, h1, _⟩ | ⟨b2, o2, c2, rfl, k3, k4, m2, hc2⟩
    · exact absurd h1 h0
    haveI : InW b1 w := ⟨m1⟩
    haveI : InW b2 w := ⟨m2⟩
    have hl : n ≤ 9223372036854775807 := by unfold maxLen at k2; omega
    have H1 := Lib.hid hc1
    have H2 := Lib.hid hc2
    have Hn := Lib.hid hn
    clear hc1 hc2 hn
    go_enter Try.func14, Try.ntmps14
    go_wp2
    go_loopw [5] (fun i wr => ∃ j : Nat, j ≤ n ∧ i = .int .i64 j ∧ Ext w wr) (fun i _ => n - (intOf i).toNat)
    case atStart => exact ⟨0, by omega, rfl, isext⟩
    case round =>
      obtain ⟨j, j2, rfl, hx⟩ := hrel
      obtain ⟨yr, rfl⟩ := fin hx
      clear hx
      by_cases hlt : j < n
      · have f1 := word_at H1.out j (by rw [Hn.out]; exact hlt)
        have f2 := word_at H2.out j (by rw [Hn.out]; exact hlt)
        obtain ⟨f1a, f1b⟩ := f1
        obtain ⟨f2a, f2b⟩ := f2
        generalize (l[j]'(by rw [Hn.out]; exact hlt)).1 = t at *
        generalize (l[j]'(by rw [Hn.out]; exact hlt)).2 = a at *
        go_wp2
        refine wp_region_past1 (by kernel_rfl) (by kernel_rfl) ?_
        repeat (go_big_quiet_step (fail))
        refine wpQuiet_nil ?_
        intro _
        go_wp2
        go_roundw
        case rel => exact ⟨j + 1, by omega, by go_num, isext⟩
        case measure => simp [intOf]; omega
      · go_wp2
        go_ret
        exact ⟨rfl, done⟩
theorem text_at {w : World} {b o : Nat} {l : List ByteArray} (hc : ∀ i u, (l.map Value.string)[i]? = some u → w.cell? ⟨b, o + i, none⟩ = some u) (j : Nat) (h : j < l.length) :
    w.cell? ⟨b, o + j, none⟩ = some (.string l[j]) := hc j _ (by simp [h])

set_option maxHeartbeats 1000000 in
theorem texts_any (l : List ByteArray) (n : Nat) (hn : l.length = n) (va vb : Value) (w : World) (ha : Reads w va n (l.map Value.string)) (hb : Reads w vb n (l.map Value.string)) :
    Rets Try.prog 9 #[va, vb] w (.bool true) := by
  by_cases h0 : n = 0
  · subst h0
    rcases ha with ⟨x1, y1, rfl, _, _⟩ | ⟨b1, o1, c1, rfl, _⟩ <;> rcases hb with ⟨x2, y2, rfl, _, _⟩ | ⟨b2, o2, c2, rfl, _⟩
    all_goals
      clear hn
      go_enter Try.func9, Try.ntmps9
      go_wp2
      refine wp_loop_rounds 1 ?_
      simp only [rounds_succ]
      go_wp2
      go_ret
      exact ⟨rfl, done⟩
  · rcases ha with ⟨_, _, rfl, h1, _⟩ | ⟨b1, o1, c1, rfl, k1, k2, m1, hc1⟩
    · exact absurd h1 h0
    rcases hb with ⟨_, _, rfl, h1, _⟩ | ⟨b2, o2, c2, rfl, k3, k4, m2, hc2⟩
    · exact absurd h1 h0
    haveI : InW b1 w := ⟨m1⟩
    haveI : InW b2 w := ⟨m2⟩
    have hl : n ≤ 9223372036854775807 := by unfold maxLen at k2; omega
    have H1 := Lib.hid hc1
    have H2 := Lib.hid hc2
    have Hn := Lib.hid hn
    clear hc1 hc2 hn
    go_enter Try.func9, Try.ntmps9
    go_wp2
    go_loopw [5] (fun i wr => ∃ j : Nat, j ≤ n ∧ i = .int .i64 j ∧ Ext w wr) (fun i _ => n - (intOf i).toNat)
    case atStart => exact ⟨0, by omega, rfl, isext⟩
    case round =>
      obtain ⟨j, j2, rfl, hx⟩ := hrel
      obtain ⟨yr, rfl⟩ := fin hx
      clear hx
      by_cases hlt : j < n
      · have f1 := text_at H1.out j (by rw [Hn.out]; exact hlt)
        have f2 := text_at H2.out j (by rw [Hn.out]; exact hlt)
        generalize l[j]'(by rw [Hn.out]; exact hlt) = t at *
        go_wp2
        refine wp_region_past1 (by kernel_rfl) (by kernel_rfl) ?_
        repeat (go_big_quiet_step (fail))
        refine wpQuiet_nil ?_
        intro _
        go_wp2
        go_roundw
        case rel => exact ⟨j + 1, by omega, by go_num, isext⟩
        case measure => simp [intOf]; omega
      · go_wp2
        go_ret
        exact ⟨rfl, done⟩
set_option maxHeartbeats 1000000 in
/-- Where the next quotation mark stands, if any. -/
theorem second_any (s : ByteArray) (k : Int) (w : World) (h0 : 0 ≤ k) (hk : k < s.size) (hs : s.size ≤ maxLen) :
    Rets Try.prog 26 #[.string s, .int .i64 k] w (.int .i64 (Fie.secondI s (k.toNat + 1))) := by
  obtain ⟨n, rfl⟩ := Int.eq_ofNat_of_zero_le h0
  rw [Int.toNat_natCast]
  have hn : n < s.size := by omega
  clear hk h0
  unfold maxLen at hs
  go_enter Try.func26, Try.ntmps26
  go_wp2
  go_loopw [5] (fun i wr => ∃ j : Nat, n + 1 ≤ j ∧ j ≤ s.size ∧ i = .int .i64 j ∧ Hid (Fie.stop Fie.noq s (n + 1) = Fie.stop Fie.noq s j) ∧ Ext w wr) (fun i _ => s.size - (intOf i).toNat)
  case atStart => exact ⟨n + 1, by omega, by omega, by go_num, rfl, isext⟩
  case round =>
    obtain ⟨j, j1, j2, rfl, he, hx⟩ := hrel
    obtain ⟨yr, rfl⟩ := fin hx
    clear hx
    by_cases hlt : j < s.size
    · cases hp : Fie.noq s[j]
      · have e := Lib.hid (Fie.stop_no Fie.noq s j hlt hp)
        have g : ((s[j].toNat : Int) == 34) = true := Fie.noq_no hp
        go_wp2
        go_ret
        exact ⟨ret_int (by rw [Fie.secondI, he.out, e.out, if_pos hlt]), done⟩
      · have e := Lib.hid (Fie.stop_yes Fie.noq s j hlt hp)
        have g : ((s[j].toNat : Int) == 34) = false := Fie.noq_yes hp
        go_wp2
        go_roundw
        case rel => exact ⟨j + 1, by omega, by omega, by go_num, by show _ = _; rw [he.out, e.out], isext⟩
        case measure => simp [intOf]; omega
    · have e := Lib.hid (Fie.stop_end Fie.noq s j (by omega))
      go_wp2
      go_ret
      exact ⟨ret_int (by rw [Fie.secondI, he.out, e.out, if_neg hlt]), done⟩
end Go.Proofs.Ytifjnegjjjpagaa
