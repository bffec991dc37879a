/- Walks of moments: numbers and days as texts, on both sides. -/
import Derived.Test.YtgnjmejmngljjaaMomWalkF
import Derived.Test.YtgnjmejmngljjaaMomPlainD
set_option linter.unusedVariables false
set_option linter.unusedSimpArgs false
namespace Go.Proofs.Ytgnjmejmngljjaa
open Go.RowKit

theorem ltd (l : List UInt8) : ((⟨l.toArray⟩ : ByteArray)).data.toList = l := rfl
/-- A text that is none, as the walk asks it. -/
theorem is_empty {l : List UInt8} (h : l = []) : (⟨l.toArray⟩ : ByteArray).toList.isEmpty = true ∧ (⟨l.toArray⟩ : ByteArray).toList = [] ∧ l.isEmpty = true := by
  rw [ByteArray.toList_eq]; subst h; exact ⟨rfl, rfl, rfl⟩
theorem not_empty {l : List UInt8} (h : l ≠ []) : (⟨l.toArray⟩ : ByteArray).toList.isEmpty = false ∧ ¬ (⟨l.toArray⟩ : ByteArray).toList = [] ∧ l.isEmpty = false ∧ ¬ l = [] := by
  rw [ByteArray.toList_eq]; simp [h]
def daysV (l : List UInt8) (e w' : Value) : Prop := ∃ n : Int, e = .tuple #[.int .i64 n, w'] ∧ w' = .bool (decide (Mom.dnum l ≠ 0)) ∧ (Mom.dnum l ≠ 0 → n = Mom.dnum l)
set_option maxHeartbeats 2000000 in
/-- The program's number of a day. -/
theorem days_txt (l : List UInt8) (hs : l.length ≤ maxLen) : ∃ n : Int, (Mom.dnum l ≠ 0 → n = Mom.dnum l) ∧ ∀ w : World, Rets Try.prog 62 #[.string ⟨l.toArray⟩] w (.tuple #[.int .i64 n, .bool (decide (Mom.dnum l ≠ 0))]) := by
  obtain ⟨k, hk⟩ : ∃ k, Mom.nD 2 l = k := ⟨_, rfl⟩
  have HD := fun w => Lib.hid (digits_list l 1 2 k w (by omega) (by omega) hs hk)
  have OK := Lib.hid (Mom.days_ok l k hk)
  have NO := Lib.hid (Mom.days_no l k hk)
  have hn2 := num_2 l
  rw [hk] at hn2
  unfold digV at HD
  refine ⟨(Mom.numOf (l.take k) : Nat), fun h => ?_, fun w => ?_⟩
  · by_cases c : 1 ≤ k ∧ l.drop k = [] ∧ 1 ≤ Mom.numOf (l.take k) ∧ Mom.numOf (l.take k) ≤ 31
    · exact (OK.out c).symm
    · exact absurd (NO.out c) h
  generalize Mom.numOf (l.take k) = n at *
  generalize l.drop k = r at *
  clear hk hs
  unfold Rets
  by_cases c : 1 ≤ k ∧ r = [] ∧ 1 ≤ n ∧ n ≤ 31
  · have E : Hid (decide (Mom.dnum l ≠ 0) = true) := decide_eq_true (by rw [OK.out c]; omega)
    obtain ⟨c1, c2, c3, c4⟩ := c
    subst c2
    have d1 : decide (1 ≤ k) = true := decide_eq_true c1
    have d2 : (1 : Int) ≤ n := by omega
    have d3 : (n : Int) ≤ 31 := by omega
    go_enter Try.func62, Try.ntmps62
    go_wp2_with (first | (go_at_call 69; refine Rets.use (HD _).out ?_; intro _))
    go_ret2
    exact ⟨by rw [E.out]; first | done | rfl | simp, done⟩
  · have E : Hid (decide (Mom.dnum l ≠ 0) = false) := decide_eq_false (by rw [NO.out c]; simp)
    have c' : decide (1 ≤ k) = false ∨ decide (1 ≤ k) = true ∧ r ≠ [] ∨ decide (1 ≤ k) = true ∧ r = [] ∧ decide ((1 : Int) ≤ n) = false ∨ decide (1 ≤ k) = true ∧ r = [] ∧ (1 : Int) ≤ n ∧ decide ((n : Int) ≤ 31) = false := by
      by_cases e1 : 1 ≤ k
      · by_cases e2 : r = []
        · by_cases e3 : 1 ≤ n
          · exact .inr (.inr (.inr ⟨decide_eq_true e1, e2, by omega, decide_eq_false (fun h => c ⟨e1, e2, e3, by omega⟩)⟩))
          · exact .inr (.inr (.inl ⟨decide_eq_true e1, e2, decide_eq_false (by omega)⟩))
        · exact .inr (.inl ⟨decide_eq_true e1, e2⟩)
      · exact .inl (decide_eq_false e1)
    clear c
    rcases c' with d1 | ⟨d1, d2⟩ | ⟨d1, rfl, d3⟩ | ⟨d1, rfl, d3, d4⟩
    · go_enter Try.func62, Try.ntmps62
      go_wp2_with (first | (go_at_call 69; refine Rets.use (HD _).out ?_; intro _))
      go_ret2
      exact ⟨by rw [E.out]; first | done | rfl | simp, done⟩
    · obtain ⟨g1, g2, g3, g4⟩ := not_empty d2
      go_enter Try.func62, Try.ntmps62
      go_wp2_with (first | (go_at_call 69; refine Rets.use (HD _).out ?_; intro _))
      go_ret2
      exact ⟨by rw [E.out]; first | done | rfl | simp, done⟩
    · go_enter Try.func62, Try.ntmps62
      go_wp2_with (first | (go_at_call 69; refine Rets.use (HD _).out ?_; intro _))
      go_ret2
      exact ⟨by rw [E.out]; first | done | rfl | simp, done⟩
    · go_enter Try.func62, Try.ntmps62
      go_wp2_with (first | (go_at_call 69; refine Rets.use (HD _).out ?_; intro _))
      go_ret2
      exact ⟨by rw [E.out]; first | done | rfl | simp, done⟩

theorem all_take (s : ByteArray) (k : Nat) (h : k < s.size) (ha : (s.data.toList.take k).all Mom.isD = true) : (s.data.toList.take (k + 1)).all Mom.isD = Mom.isD s[k] := by
  rw [take_byte s k h, List.all_append, ha]; simp
theorem not_all {s : ByteArray} {k : Nat} (h : k < s.size) (hd : Mom.isD s[k] = false) : s.data.toList.all Mom.isD = false := by
  rw [List.all_eq_false]
  exact ⟨s[k], by
    have : s[k] = s.data.toList[k]'(by simpa using h) := rfl
    rw [this]; exact List.getElem_mem _, by rw [hd]; simp⟩
theorem isD_no' {c : UInt8} (h : Mom.isD c = false) : (c.toNat : Int) < 48 ∨ (decide ((c.toNat : Int) < 48) = false ∧ 57 < (c.toNat : Int)) := by
  have := of_decide_eq_false h
  by_cases g : (c.toNat : Int) < 48
  · exact .inl g
  · exact .inr ⟨decide_eq_false g, by omega⟩
set_option maxRecDepth 100000 in
set_option maxHeartbeats 2000000 in
/-- The document's number. -/
theorem rnumber_any (s : ByteArray) (least most : Nat) (w : World) (hl : least ≤ 3) (hm : most ≤ 3) (hs : s.size ≤ maxLen) : Rets Try.prog 71 #[.string s, .int .i64 least, .int .i64 most] w (.int .i64 (Mom.numR s.data.toList least most)) := by
  unfold maxLen at hs
  have hz : Hid (s.data.toList.length = s.size) := by show _ = _; simp
  unfold Rets
  by_cases c : s.size < least ∨ most < s.size
  · have E : Hid (Mom.numR s.data.toList least most = -1) := by show _ = _; unfold Mom.numR; rw [hz.out, if_pos c]
    have c' : (s.size : Int) < least ∨ decide ((s.size : Int) < least) = false ∧ decide (s.size < least) = false ∧ (most : Int) < s.size := by
      by_cases d : s.size < least
      · exact .inl (by omega)
      · exact .inr ⟨decide_eq_false (by omega), decide_eq_false d, by omega⟩
    clear c
    rcases c' with c | ⟨c, c1, c2⟩
    all_goals
      go_enter Try.func71, Try.ntmps71
      go_wp2
      go_ret
      exact ⟨by rw [E.out]; first | done | rfl | simp, done⟩
  have c1 : decide ((s.size : Int) < least) = false := decide_eq_false (by omega)
  have c2 : decide (s.size < least) = false := decide_eq_false (by omega)
  have c3 : decide ((most : Int) < s.size) = false := decide_eq_false (by omega)
  have c4 : decide (most < s.size) = false := decide_eq_false (by omega)
  have EN : Hid (Mom.numR s.data.toList least most = if s.data.toList.all Mom.isD = true then ((Mom.numOf s.data.toList : Nat) : Int) else -1) := by show _ = _; unfold Mom.numR; rw [hz.out, if_neg c]
  have s3 : s.size ≤ 3 := by omega
  clear c
  go_enter Try.func71, Try.ntmps71
  go_wp2
  go_loopw [7, 8] (fun n i wr => ∃ j : Nat, j ≤ s.size ∧ i = .int .i64 j ∧ n = .int .i64 (Mom.numOf (s.data.toList.take j) : Nat) ∧ Hid ((s.data.toList.take j).all Mom.isD = true) ∧ Ext w wr) (fun _ i _ => s.size - (intOf i).toNat)
  case atStart => exact ⟨0, by omega, rfl, rfl, rfl, isext⟩
  case round =>
    obtain ⟨j, j1, rfl, rfl, ha, hx⟩ := hrel
    obtain ⟨yr, rfl⟩ := fin hx
    clear hx
    have hnb : Mom.numOf (s.data.toList.take j) ≤ 999 := by
      have h := Mom.numOf_bd (s.data.toList.take j) 0 (fun c hc => List.all_eq_true.1 ha.out c hc)
      have h2 : (s.data.toList.take j).length ≤ 3 := by rw [List.length_take, hz.out]; omega
      have h3 : (10 : Nat) ^ (s.data.toList.take j).length ≤ 10 ^ 3 := Nat.pow_le_pow_right (by omega) h2
      unfold Mom.numOf; omega
    by_cases c0 : j < s.size
    · cases d : Mom.isD s[j]
      · have E := Lib.hid (EN.out.trans (if_neg (by rw [not_all c0 d]; simp)))
        have d' := isD_no' d
        clear d
        rcases d' with d' | ⟨d', d2⟩
        all_goals
          go_wp2
          go_ret
          exact ⟨by rw [E.out]; first | done | rfl | simp, done⟩
      · have A := Lib.hid ((all_take s j c0 ha.out).trans d)
        obtain ⟨d1, d2⟩ := isD_yes d
        have E : Hid (((Mom.numOf (s.data.toList.take (j + 1)) : Nat) : Int) = (Mom.numOf (s.data.toList.take j) : Nat) * 10 + ((s[j].toNat : Int) - 48)) := by
          show _ = _
          rw [take_byte s j c0, Mom.numOf_snoc]; omega
        generalize Mom.numOf (s.data.toList.take j) = nn at *
        have g1 : decide ((s[j].toNat : Int) < 48) = false := decide_eq_false (by omega)
        have g2 : decide ((57 : Int) < s[j].toNat) = false := decide_eq_false (by omega)
        clear d
        go_wp2
        go_roundw
        case rel => exact ⟨j + 1, by omega, by go_num, by rw [E.out], A, isext⟩
        case measure => simp [intOf]; omega
    · have e : s.data.toList.take j = s.data.toList := List.take_of_length_le (by rw [hz.out]; omega)
      rw [e] at ha hnb ⊢
      have E := Lib.hid (EN.out.trans (if_pos ha.out))
      generalize Mom.numOf s.data.toList = nn at *
      go_wp2
      go_ret
      exact ⟨by rw [E.out]; first | done | rfl | simp, done⟩
theorem rnumber_list (l : List UInt8) (least most : Nat) (w : World) (hl : least ≤ 3) (hm : most ≤ 3) (hs : l.length ≤ maxLen) : Rets Try.prog 71 #[.string ⟨l.toArray⟩, .int .i64 least, .int .i64 most] w (.int .i64 (Mom.numR l least most)) :=
  rnumber_any ⟨l.toArray⟩ least most w hl hm (by rw [lsz]; exact hs)
theorem numR_le (l : List UInt8) (least most : Nat) (hm : most ≤ 3) : -1 ≤ Mom.numR l least most ∧ Mom.numR l least most ≤ 999 := by
  refine ⟨Mom.numR_ge l least most, ?_⟩
  by_cases h : 0 ≤ Mom.numR l least most
  · obtain ⟨h1, h2, h3, h4⟩ := Mom.numR_yes h
    have h5 := Mom.numOf_bd l 0 h3
    have h6 : (10 : Nat) ^ l.length ≤ 10 ^ 3 := Nat.pow_le_pow_right (by omega) (by omega)
    rw [h4]; unfold Mom.numOf; omega
  · omega
set_option maxHeartbeats 2000000 in
theorem rday_any (l : List UInt8) (w : World) (hs : l.length ≤ maxLen) : Rets Try.prog 64 #[.string ⟨l.toArray⟩] w (.int .i64 (Mom.dnum l)) := by
  have HN := fun w => Lib.hid (rnumber_list l 1 2 w (by omega) (by omega) hs)
  have hb := numR_le l 1 2 (by omega)
  have hd : Hid (Mom.dnum l = if 1 ≤ Mom.numR l 1 2 ∧ Mom.numR l 1 2 ≤ 31 then Mom.numR l 1 2 else 0) := rfl
  generalize Mom.numR l 1 2 = n at *
  clear hs
  unfold Rets
  by_cases c : n < 1
  · have E := Lib.hid (hd.out.trans (if_neg (by omega)))
    go_enter Try.func64, Try.ntmps64
    go_wp2_with (first | (go_at_call 71; refine Rets.use (HN _).out ?_; intro _))
    go_ret
    exact ⟨by rw [E.out]; first | done | rfl | simp, done⟩
  · have c' : decide (n < 1) = false := decide_eq_false c
    by_cases c2 : 31 < n
    · have E := Lib.hid (hd.out.trans (if_neg (by omega)))
      go_enter Try.func64, Try.ntmps64
      go_wp2_with (first | (go_at_call 71; refine Rets.use (HN _).out ?_; intro _))
      go_ret
      exact ⟨by rw [E.out]; first | done | rfl | simp, done⟩
    · have E := Lib.hid (hd.out.trans (if_pos (by omega)))
      have c3 : decide (31 < n) = false := decide_eq_false c2
      go_enter Try.func64, Try.ntmps64
      go_wp2_with (first | (go_at_call 71; refine Rets.use (HN _).out ?_; intro _))
      go_ret
      exact ⟨by rw [E.out]; first | done | rfl | simp, done⟩
end Go.Proofs.Ytgnjmejmngljjaa
