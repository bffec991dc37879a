/- Walks of moments: the law of what texts tell. -/
import Derived.Test.YtgnjmejmngljjaaMomWalkY
set_option linter.unusedVariables false
set_option linter.unusedSimpArgs false
namespace Go.Proofs.Ytgnjmejmngljjaa
open Go.RowKit

theorem take_short {ws : List (List UInt8)} {j : Nat} (h : ∀ s ∈ ws.take j, s.length ≤ 1000) (hj : j < ws.length) (hu : ws[j].length ≤ 1000) : ∀ s ∈ ws.take (j + 1), s.length ≤ 1000 := by
  intro s hs
  rw [List.take_succ_eq_append_getElem hj] at hs
  rcases List.mem_append.1 hs with h1 | h1
  · exact h s h1
  · simp at h1; subst h1; exact hu
def parts6 : Pr → List Int
  | .inl (i, e) => [0, 0, 0, 0, 0, 0, i, e]
  | .inr x => [x.m, x.k, x.wd, x.d, x.t, x.r, 0, 0]
theorem parse_six (p : Pr) : ∃ x0 x1 x2 x3 x4 x5 i e : Int, parseV p = .tuple #[.agg #[.int .i64 x0, .int .i64 x1, .int .i64 x2, .int .i64 x3, .int .i64 x4, .int .i64 x5], .int .i64 i, .int .i64 e] := by
  rcases p with ⟨i, e⟩ | x
  · exact ⟨0, 0, 0, 0, 0, 0, i, e, rfl⟩
  · exact ⟨x.m, x.k, x.wd, x.d, x.t, x.r, 0, 0, rfl⟩
set_option maxRecDepth 100000 in
set_option maxHeartbeats 4000000 in
theorem parses_core (ws : List (List UInt8)) (n : Nat) (hn : ws.length = n) (a : Option Addr) (c : Nat) (w : World) (x0 x1 x2 x3 x4 x5 i0 e0 : Int) (mx : Int) (hm : w.cell? ⟨0, 0, none⟩ = some (.int .i64 mx)) (hw0 : 0 < w.heap.size)
    (hr : Reads w (.slice a n c) n (strs ws))
    (K1 : (n ≤ 3 → ∀ s ∈ ws, s.length ≤ 1000) → ∀ w', Ext w w' → Rets Try.prog 15 #[.slice a n c] w' (.tuple #[.agg #[.int .i64 x0, .int .i64 x1, .int .i64 x2, .int .i64 x3, .int .i64 x4, .int .i64 x5], .int .i64 i0, .int .i64 e0]))
    (K2 : (n ≤ 3 → ∀ s ∈ ws, s.length ≤ 1000) → ∀ w', Ext w w' → Rets Try.prog 16 #[.slice a n c] w' (.tuple #[.agg #[.int .i64 x0, .int .i64 x1, .int .i64 x2, .int .i64 x3, .int .i64 x4, .int .i64 x5], .int .i64 i0, .int .i64 e0])) :
    Rets Try.prog 4 #[.slice a n c] w (.bool true) := by
  haveI : InW 0 w := ⟨hw0⟩
  have HN := Lib.hid hn
  have HR := Lib.hid hr
  have L1 := Lib.hid K1
  have L2 := Lib.hid K2
  have hl : n ≤ 9223372036854775807 := by
    rcases hr with ⟨_, _, _, h0, _⟩ | ⟨_, _, _, h1, h2, h3, _⟩
    · omega
    · cases h1; unfold maxLen at h3; omega
  clear hn hr K1 K2
  unfold Rets
  go_enter Try.func4, Try.ntmps4
  go_wp2
  go_loopw [3] (fun i wr => ∃ j : Nat, j ≤ n ∧ j ≤ 3 ∧ i = .int .i64 j ∧ Hid (∀ s ∈ ws.take j, s.length ≤ 1000) ∧ Ext w wr) (fun i _ => 3 - (intOf i).toNat)
  case atStart => exact ⟨0, by omega, by omega, rfl, by intro s hs; simp at hs, isext⟩
  case round =>
    obtain ⟨j, j1, j2, rfl, hall, hx⟩ := hrel
    obtain ⟨yr, rfl⟩ := fin hx
    clear hx
    by_cases hlt : j < n ∧ j < 3
    · obtain ⟨g1, g2⟩ := hlt
      have hj : j < ws.length := by rw [HN.out]; exact g1
      have TK := Lib.hid (fun hu => take_short hall.out hj hu)
      rcases HR.out with ⟨_, _, _, h0, _⟩ | ⟨b, o, c', hv, h1, h2, hb, hc⟩
      · omega
      cases hv
      haveI : InW b w := ⟨hb⟩
      have f1 := strs_at hc j hj
      clear hc
      generalize ws[j] = u at *
      by_cases hu : 1000 < u.length
      · have hu' : (1000 : Int) < u.length := by omega
        clear hj
        go_wp2_with (go_at_call 14; refine Rets.use (malive_any _ mx (max_at isext hw0 hm) (Nat.lt_of_lt_of_le hw0 (Below.size isext))) ?_; intro _)
        go_ret
        exact ⟨rfl, done⟩
      · have c1 : decide (1000 < u.length) = false := decide_eq_false hu
        have c2 : decide ((1000 : Int) < u.length) = false := decide_eq_false (by omega)
        have E := Lib.hid (TK.out (by omega))
        clear hj hu
        go_wp2
        go_roundw
        case rel => exact ⟨j + 1, by omega, by omega, by go_num, E, isext⟩
        case measure => simp [intOf]; omega
    · have hall' : n ≤ 3 → ∀ s ∈ ws, s.length ≤ 1000 := by
        intro h3
        have := hall.out
        rw [List.take_of_length_le (by rw [HN.out]; omega)] at this
        exact this
      have M1 := fun w' hx => Lib.hid (L1.out hall' w' hx)
      have M2 := fun w' hx => Lib.hid (L2.out hall' w' hx)
      clear hall' hall
      by_cases g1 : j < n
      · have g2 : ¬ j < 3 := fun h => hlt ⟨g1, h⟩
        obtain rfl : j = 3 := by omega
        clear hlt g2 j2
        go_wp2_with (first | (go_at_call 15; refine Rets.use (M1 _ isext).out ?_; intro _) | (go_at_call 16; refine Rets.use (M2 _ isext).out ?_; intro _) | (go_at_call 14; refine Rets.use (malive_any _ mx (max_at isext hw0 hm) (Nat.lt_of_lt_of_le hw0 (Below.size isext))) ?_; intro _))
        go_ret
        exact ⟨rfl, done⟩
      · have g2 : decide (j < n) = false := decide_eq_false g1
        have g3 : decide ((j : Int) < n) = false := decide_eq_false (by omega)
        clear hlt
        go_wp2_with (first | (go_at_call 15; refine Rets.use (M1 _ isext).out ?_; intro _) | (go_at_call 16; refine Rets.use (M2 _ isext).out ?_; intro _) | (go_at_call 14; refine Rets.use (malive_any _ mx (max_at isext hw0 hm) (Nat.lt_of_lt_of_le hw0 (Below.size isext))) ?_; intro _))
        go_ret
        exact ⟨rfl, done⟩
theorem parses_ws (ws : List (List UInt8)) (n : Nat) (hn : ws.length = n) (v : Value) (w : World) (hr : Reads w v n (strs ws)) (mx : Int) (hm : w.cell? ⟨0, 0, none⟩ = some (.int .i64 mx)) (hw0 : 0 < w.heap.size) :
    Rets Try.prog 4 #[v] w (.bool true) := by
  obtain ⟨a, c, rfl⟩ : ∃ a c, v = .slice a n c := by
    rcases hr with ⟨a, c, rfl, rfl, _⟩ | ⟨b, o, c, rfl, _⟩ <;> exact ⟨_, _, rfl⟩
  obtain ⟨x0, x1, x2, x3, x4, x5, i0, e0, hp⟩ := parse_six (parseR ws)
  refine parses_core ws n hn a c w x0 x1 x2 x3 x4 x5 i0 e0 mx hm hw0 hr (fun hs w' hx => ?_) (fun hs w' hx => ?_)
  · rw [← hp]
    exact parse_any ws n hn _ w' mx (hr.ext hx) (fun h s hm => Nat.le_trans (hs h s hm) (by omega)) (max_at hx hw0 hm) (Nat.lt_of_lt_of_le hw0 (Below.size hx))
  · rw [← hp]
    exact rparse_any ws n hn _ w' (hr.ext hx) (fun h s hm => Nat.le_trans (hs h s hm) (by omega))
theorem parseslaw_any (l : List ByteArray) (n : Nat) (hn : l.length = n) (v : Value) (hz : ∀ s ∈ l, s.size ≤ maxLen) (w : World) (hr : Reads w v n (l.map Value.string)) (mx : Int) (hm : w.cell? ⟨0, 0, none⟩ = some (.int .i64 mx)) (hw0 : 0 < w.heap.size) :
    Rets Try.prog 4 #[v] w (.bool true) :=
  parses_ws (l.map fun s => s.data.toList) n (by simpa using hn) v w (by
    have e : strs (l.map fun s => s.data.toList) = l.map Value.string := by unfold strs; rw [List.map_map]; rfl
    rw [e]; exact hr) mx hm hw0
end Go.Proofs.Ytgnjmejmngljjaa
