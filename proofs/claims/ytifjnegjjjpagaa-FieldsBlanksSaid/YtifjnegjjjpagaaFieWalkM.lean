/- Walks: the laws of lines, of splits, of joins. -/
import Derived.Test.YtifjnegjjjpagaaFieWalkL
set_option linter.unusedVariables false
set_option linter.unusedSimpArgs false
namespace Go.Proofs.Ytifjnegjjjpagaa
open Go.RowKit

set_option maxHeartbeats 1000000 in
theorem lineslaw_any (s : ByteArray) (hs : s.size ≤ maxLen) (w : World) : Rets Try.prog 3 #[.string s] w (.bool true) := by
  unfold maxLen at hs
  unfold Rets
  by_cases c : 65536 < s.size
  · go_enter Try.func3, Try.ntmps3
    go_wp2_with (go_at_call 8; refine Rets.use (alive_any _) ?_; intro _)
    go_ret
    exact ⟨rfl, done⟩
  · have c' : s.size ≤ 65536 := by omega
    clear c
    go_enter Try.func3, Try.ntmps3
    go_wp2_with fail
    refine Rets.use (alive_any _) ?_
    intro _
    go_wp2_with fail
    refine (lines_any s _ c').mono ?_
    rintro _ _ ⟨v, y, rfl, hr, rfl⟩
    go_wp2_with fail
    refine (rlines_any s _ c').mono ?_
    rintro _ _ ⟨v2, y2, rfl, hr2, rfl⟩
    go_wp2_with fail
    refine Rets.use (texts_any _ _ rfl v v2 _ (hr.past y2) hr2) ?_
    intro _
    go_wp2
    go_ret
    exact ⟨rfl, done⟩

set_option maxHeartbeats 1000000 in
theorem splitslaw_any (s : ByteArray) (hs : s.size ≤ maxLen) (w : World) : Rets Try.prog 4 #[.string s] w (.bool true) := by
  have hs' := hs
  unfold maxLen at hs
  unfold Rets
  by_cases c : 4096 < s.size
  · go_enter Try.func4, Try.ntmps4
    go_wp2_with fail
    refine (split_long s _ hs' (by omega)).mono ?_
    rintro _ _ ⟨v, y, rfl, hr, rfl⟩
    have hv : ∃ a cap, v = .slice a 0 cap := by
      rcases hr with ⟨a, cap, rfl, _⟩ | ⟨b, o, cap, rfl, _⟩
      · exact ⟨_, _, rfl⟩
      · exact ⟨_, _, rfl⟩
    obtain ⟨a, cap, rfl⟩ := hv
    clear hr
    go_wp2_with (go_at_call 8; refine Rets.use (alive_any _) ?_; intro _)
    go_ret
    exact ⟨rfl, done⟩
  · obtain ⟨r, h1, h2⟩ : ∃ r, (∀ w, Calls Try.prog 12 #[.string s] w (SplitEnd w r)) ∧ (∀ w, Calls Try.prog 13 #[.string s] w (SplitEnd w r)) := by
      by_cases d : 500 < s.size
      · exact ⟨_, fun w => split_long s w hs' d, fun w => rsplit_long s w hs' d⟩
      · exact ⟨_, fun w => split_any s w (by omega), fun w => rsplit_any s w (by omega)⟩
    have H1 := Lib.hid h1
    have H2 := Lib.hid h2
    clear h1 h2 hs'
    go_enter Try.func4, Try.ntmps4
    go_wp2_with fail
    refine (H1.out _).mono ?_
    rintro _ _ ⟨v, y, rfl, hr, rfl⟩
    go_wp2_with fail
    refine (H2.out _).mono ?_
    rintro _ _ ⟨v2, y2, rfl, hr2, rfl⟩
    go_wp2_with fail
    refine Rets.use (alive_any _) ?_
    intro z
    go_wp2_with fail
    refine Rets.use (same_any _ _ rfl v v2 _ ((hr.past y2).past z) (hr2.past z)) ?_
    intro _
    go_wp2
    go_ret
    exact ⟨rfl, done⟩

/-- More texts, or longer ones, than are looked at. -/
def longB (l : List ByteArray) : Bool := decide (100 < l.length) || l.any (fun s => decide (2000 < s.size))
theorem longB_no {l : List ByteArray} (h : longB l = false) : l.length ≤ 100 ∧ ∀ s ∈ l, s.size ≤ 2000 := by
  simp [longB] at h; exact h
theorem any_take (l : List ByteArray) (k : Nat) (h : k < l.length) (ha : (l.take k).any (fun s => decide (2000 < s.size)) = false) (hk : l[k].size ≤ 2000) : (l.take (k + 1)).any (fun s => decide (2000 < s.size)) = false := by
  rw [List.take_succ_eq_append_getElem h, List.any_append, ha]; simp; omega
set_option maxHeartbeats 1000000 in
theorem long_any (l : List ByteArray) (n : Nat) (hn : l.length = n) (v : Value) (w : World) (hr : Reads w v n (l.map Value.string)) (hs : ∀ s ∈ l, s.size ≤ maxLen) :
    Rets Try.prog 15 #[v] w (.bool (longB l)) := by
  unfold Rets
  rcases hr with ⟨a9, c9, rfl, rfl, h3⟩ | ⟨b, o, c, rfl, h1, h2, hb, hc⟩
  · obtain rfl : l = [] := List.eq_nil_of_length_eq_zero hn
    clear hn h3 hs
    go_enter Try.func15, Try.ntmps15
    go_wp2
    refine wp_loop_rounds 1 ?_
    simp only [rounds_succ]
    go_wp2
    go_ret
    exact ⟨rfl, done⟩
  · haveI : InW b w := ⟨hb⟩
    have H1 := Lib.hid hc
    have Hn := Lib.hid hn
    have HS := Lib.hid hs
    have hl : n ≤ 9223372036854775807 := by unfold maxLen at h2; omega
    clear hc hn hs
    by_cases c0 : 100 < n
    · have E : Hid (longB l = true) := by show _ = _; simp [longB, Hn.out, c0]
      go_enter Try.func15, Try.ntmps15
      go_wp2
      go_ret
      exact ⟨by rw [E.out]; first | done | rfl, done⟩
    · go_enter Try.func15, Try.ntmps15
      go_wp2
      go_loopw [3] (fun i wr => ∃ j : Nat, j ≤ n ∧ i = .int .i64 j ∧ Hid ((l.take j).any (fun s => decide (2000 < s.size)) = false) ∧ Ext w wr) (fun i _ => n - (intOf i).toNat)
      case atStart => exact ⟨0, by omega, rfl, rfl, isext⟩
      case round =>
        obtain ⟨j, j1, rfl, ha, hx⟩ := hrel
        obtain ⟨yr, rfl⟩ := fin hx
        clear hx
        by_cases c1 : j < n
        · have hk : j < l.length := by rw [Hn.out]; exact c1
          have f1 := text_at H1.out j hk
          have hm := HS.out _ (List.getElem_mem hk)
          have T := Lib.hid (any_take l j hk ha.out)
          have T2 : Hid (2000 < l[j].size → longB l = true) := fun h => by
            unfold longB
            rw [Bool.or_eq_true]
            exact .inr (List.any_eq_true.2 ⟨_, List.getElem_mem hk, decide_eq_true h⟩)
          generalize l[j] = s at *
          unfold maxLen at hm
          clear hk
          by_cases c2 : 2000 < s.size
          · have E := Lib.hid (T2.out c2)
            go_wp2
            go_ret
            exact ⟨by rw [E.out]; first | done | rfl, done⟩
          · go_wp2
            go_roundw
            case rel => exact ⟨j + 1, by omega, by go_num, T.out (by omega), isext⟩
            case measure => simp [intOf]; omega
        · have lt : l.take j = l := List.take_of_length_le (by rw [Hn.out]; omega)
          rw [lt] at ha
          have E : Hid (longB l = false) := by show _ = _; unfold longB; rw [ha.out, Hn.out]; simp; omega
          go_wp2
          go_ret
          exact ⟨by rw [E.out]; first | done | rfl, done⟩

set_option maxHeartbeats 1000000 in
theorem joinslaw_any (l : List ByteArray) (n : Nat) (hn : l.length = n) (v : Value) (hs : ∀ s ∈ l, s.size ≤ maxLen) (w : World) (hr : Reads w v n (l.map Value.string)) : Rets Try.prog 5 #[v] w (.bool true) := by
  unfold Rets
  cases hb : longB l
  · obtain ⟨b1, b2⟩ := longB_no hb
    rw [hn] at b1
    have L := fun (y : Past w) => Lib.hid (hb ▸ long_any l n hn v y.x (hr.past y) hs)
    have L0 := Lib.hid (hb ▸ long_any l n hn v w hr hs)
    have J1 := fun (y : Past w) => Lib.hid (join_reads l n hn v y.x b1 b2 (hr.past y))
    have J2 := fun (y : Past w) => Lib.hid (rjoin_reads l n hn v y.x b1 b2 (hr.past y))
    clear b2 hs hr hb hn b1 L
    unfold JoinSays at J1 J2
    go_enter Try.func5, Try.ntmps5
    go_wp2_with fail
    refine Rets.use L0.out ?_
    intro y
    go_wp2_with fail
    refine Rets.use1 (J1 y).out ?_
    intro y1
    go_wp2_with fail
    refine Rets.use1 (J2 y1).out ?_
    intro y2
    go_wp2_with (go_at_call 8; refine Rets.use (alive_any _) ?_; intro _)
    go_ret
    exact ⟨rfl, done⟩
  · have L0 := Lib.hid (hb ▸ long_any l n hn v w hr hs)
    clear hs hr hb hn
    go_enter Try.func5, Try.ntmps5
    go_wp2_with fail
    refine Rets.use L0.out ?_
    intro y
    go_wp2_with (go_at_call 8; refine Rets.use (alive_any _) ?_; intro _)
    go_ret
    exact ⟨rfl, done⟩
end Go.Proofs.Ytifjnegjjjpagaa
