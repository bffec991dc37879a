/- Walks of moments: the law of clocks. -/
import Derived.Test.YtgnjmejmngljjaaMomWalkX
import Derived.Test.YtgnjmejmngljjaaMomPlainG
set_option linter.unusedVariables false
set_option linter.unusedSimpArgs false
namespace Go.Proofs.Ytgnjmejmngljjaa
open Go.RowKit

set_option maxRecDepth 100000 in
set_option maxHeartbeats 4000000 in
theorem clocks_long (s : ByteArray) (hs : s.size ≤ maxLen) (h : 1000 < s.size) (w : World) (mx : Int) (hm : w.cell? ⟨0, 0, none⟩ = some (.int .i64 mx)) (hw0 : 0 < w.heap.size) : Rets Try.prog 6 #[.string s] w (.bool true) := by
  haveI : InW 0 w := ⟨hw0⟩
  have hz : s.data.toList.length = s.size := by simp
  have H1 : ∀ w, Hid (Rets Try.prog 21 #[.string s] w (.tuple #[.int .i64 0, .int .i64 0, .int .i64 6])) := fun w => by
    have := clock_any s.data.toList w (by omega)
    rw [Mom.clock_long (by omega)] at this; exact this
  have h' : (1000 : Int) < s.size := by omega
  clear hz hs
  unfold Rets
  go_enter Try.func6, Try.ntmps6
  go_wp2_with (first | (go_at_call 21; refine Rets.use (H1 _).out ?_; intro _) | (go_at_call 14; refine Rets.use (malive_any _ mx (max_at isext hw0 hm) (Nat.lt_of_lt_of_le hw0 (Below.size isext))) ?_; intro _))
  go_ret
  exact ⟨rfl, done⟩
theorem clock_two (o : Option (Int × Int)) : ∃ (n r e : Int) (k : Bool), clockV o = .tuple #[.int .i64 n, .int .i64 r, .int .i64 e] ∧ ((o = none ∧ n = 0 ∧ r = 0 ∧ e = 6 ∧ k = false) ∨ (k = true ∧ e = 0)) ∧ rclockV o = .tuple #[.int .i64 n, .int .i64 r, .bool k] := by
  rcases o with _ | ⟨n, r⟩
  · exact ⟨0, 0, 6, false, rfl, .inl ⟨rfl, rfl, rfl, rfl, rfl⟩, rfl⟩
  · exact ⟨n, r, 0, true, rfl, .inr ⟨rfl, rfl⟩, rfl⟩
theorem off_cases (p : Option Int) : (∃ c, optV p = .tuple #[.int .i64 c, .bool false] ∧ c = 0 ∧ (offR p).1 = 0 ∧ (offR p).2 = 6) ∨ (∃ c, optV p = .tuple #[.int .i64 c, .bool true] ∧
    ((c ≤ -86400 ∧ (offR p).1 = 0 ∧ (offR p).2 = 11) ∨ (decide (c ≤ -86400) = false ∧ 86400 ≤ c ∧ (offR p).1 = 0 ∧ (offR p).2 = 11) ∨ (decide (c ≤ -86400) = false ∧ decide (86400 ≤ c) = false ∧ (offR p).1 = c ∧ (offR p).2 = 0))) := by
  rcases p with _ | c
  · exact .inl ⟨0, rfl, rfl, rfl, rfl⟩
  · refine .inr ⟨c, rfl, ?_⟩
    by_cases h1 : c ≤ -86400
    · exact .inl ⟨h1, by simp [offR, h1], by simp [offR, h1]⟩
    · by_cases h2 : 86400 ≤ c
      · exact .inr (.inl ⟨decide_eq_false h1, h2, by simp [offR, h2], by simp [offR, h2]⟩)
      · exact .inr (.inr ⟨decide_eq_false h1, decide_eq_false h2, by simp [offR, h1, h2], by simp [offR, h1, h2]⟩)
set_option maxRecDepth 100000 in
set_option maxHeartbeats 8000000 in
theorem clocks_short (s : ByteArray) (hs : s.size ≤ 1000) (w : World) (mx : Int) (hm : w.cell? ⟨0, 0, none⟩ = some (.int .i64 mx)) (hw0 : 0 < w.heap.size) : Rets Try.prog 6 #[.string s] w (.bool true) := by
  haveI : InW 0 w := ⟨hw0⟩
  have hz : s.data.toList.length = s.size := by simp
  have hb : s.data.toList.length ≤ maxLen := by unfold maxLen; omega
  have H1 : ∀ w, Hid (Rets Try.prog 21 #[.string s] w (clockV (Mom.clockR s.data.toList))) := fun w => by
    have := clock_any s.data.toList w hb
    rw [Mom.clock_eq] at this; exact this
  have H2 : ∀ w, Hid (Rets Try.prog 22 #[.string s] w (rclockV (Mom.clockR s.data.toList))) := fun w => Lib.hid (rclock_any s.data.toList w (by omega))
  have H3 : ∀ w, Hid (Rets Try.prog 23 #[.string s] w (.tuple #[.int .i64 (offR (Mom.spanR s.data.toList)).1, .int .i64 (offR (Mom.spanR s.data.toList)).2])) := fun w => Lib.hid (offset_any s.data.toList w hb)
  have H4 : ∀ w, Hid (Rets Try.prog 24 #[.string s] w (optV (Mom.spanR s.data.toList))) := fun w => Lib.hid (rspan_any s.data.toList w (by omega))
  obtain ⟨n, r, e, k, e1, hk, e2⟩ := clock_two (Mom.clockR s.data.toList)
  rw [e1] at H1
  rw [e2] at H2
  have c1 : decide (1000 < s.size) = false := decide_eq_false (by omega)
  have c2 : decide ((1000 : Int) < s.size) = false := decide_eq_false (by omega)
  have ho := off_cases (Mom.spanR s.data.toList)
  generalize (offR (Mom.spanR s.data.toList)).1 = A at *
  generalize (offR (Mom.spanR s.data.toList)).2 = B at *
  clear e1 e2 hz hb hs
  unfold Rets
  rcases hk with ⟨-, rfl, rfl, rfl, rfl⟩ | ⟨rfl, rfl⟩ <;> rcases ho with ⟨c, e3, rfl, rfl, rfl⟩ | ⟨c, e3, ⟨o1, rfl, rfl⟩ | ⟨o1, o2, rfl, rfl⟩ | ⟨o1, o2, rfl, rfl⟩⟩
  all_goals
    rw [e3] at H4
    clear e3
    go_enter Try.func6, Try.ntmps6
    go_wp2_with (first | (go_at_call 21; refine Rets.use (H1 _).out ?_; intro _) | (go_at_call 22; refine Rets.use (H2 _).out ?_; intro _) | (go_at_call 23; refine Rets.use (H3 _).out ?_; intro _) | (go_at_call 24; refine Rets.use (H4 _).out ?_; intro _) | (go_at_call 14; refine Rets.use (malive_any _ mx (max_at isext hw0 hm) (Nat.lt_of_lt_of_le hw0 (Below.size isext))) ?_; intro _))
    go_ret
    exact ⟨rfl, done⟩
theorem clockslaw_any (s : ByteArray) (hs : s.size ≤ maxLen) (w : World) (mx : Int) (hm : w.cell? ⟨0, 0, none⟩ = some (.int .i64 mx)) (hw0 : 0 < w.heap.size) : Rets Try.prog 6 #[.string s] w (.bool true) := by
  by_cases h : 1000 < s.size
  · exact clocks_long s hs h w mx hm hw0
  · exact clocks_short s (by omega) w mx hm hw0
end Go.Proofs.Ytgnjmejmngljjaa
