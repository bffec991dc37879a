/- Walks of moments: digits, a clock's time. -/
import Derived.Test.YtgnjmejmngljjaaProg
import Derived.WalkKit
import Derived.WalkSpells
import Derived.WalkLawsBesides
import Derived.Test.YtgnjmejmngljjaaPast
import Derived.Test.YtgnjmejmngljjaaMomPlainB
import Derived.Test.YtgnjmejmngljjaaShelf
set_option linter.unusedVariables false
set_option linter.unusedSimpArgs false
namespace Go.Proofs.Ytgnjmejmngljjaa
open Go.RowKit

theorem isD_yes {c : UInt8} (h : Mom.isD c = true) : 48 ≤ (c.toNat : Int) ∧ (c.toNat : Int) ≤ 57 := of_decide_eq_true h
theorem isD_no {c : UInt8} (h : Mom.isD c = false) : decide (48 ≤ (c.toNat : Int)) = false ∨ (48 ≤ (c.toNat : Int) ∧ decide ((c.toNat : Int) ≤ 57) = false) := by
  have := of_decide_eq_false h
  by_cases g : 48 ≤ (c.toNat : Int)
  · exact .inr ⟨g, decide_eq_false (fun g2 => this ⟨g, g2⟩)⟩
  · exact .inl (decide_eq_false g)
theorem take_byte (s : ByteArray) (k : Nat) (h : k < s.size) : s.data.toList.take (k + 1) = s.data.toList.take k ++ [s[k]] := by
  rw [List.take_succ_eq_append_getElem (by simpa using h)]; rfl
theorem ba_list {a : ByteArray} {l : List UInt8} (h : a.data.toList = l) : a = ⟨l.toArray⟩ := by
  cases a; congr 1; simp at h; rw [← h]
theorem ext_drop (s : ByteArray) (k : Nat) : s.extract k s.size = ⟨(s.data.toList.drop k).toArray⟩ := by
  apply ba_list
  rw [Lib.extract_data, List.take_of_length_le (by simp)]
theorem ext_take (s : ByteArray) (k : Nat) : s.extract 0 k = ⟨(s.data.toList.take k).toArray⟩ := by
  apply ba_list
  rw [Lib.extract_data, List.drop_zero, Nat.sub_zero]

/-- What digits answers. -/
def digV (l : List UInt8) (least k : Nat) : Value := .tuple #[.int .i64 (Mom.numOf (l.take k) : Nat), .string ⟨(l.drop k).toArray⟩, .bool (decide (least ≤ k))]
set_option maxRecDepth 100000 in
set_option maxHeartbeats 2000000 in
theorem digits_any (s : ByteArray) (least most k : Nat) (w : World) (hl : least ≤ 3) (hm : most ≤ 3) (hs : s.size ≤ maxLen) (hk : Mom.nD most s.data.toList = k) :
    Rets Try.prog 69 #[.string s, .int .i64 least, .int .i64 most] w (digV s.data.toList least k) := by
  unfold maxLen at hs
  have hle := Mom.nD_le most s.data.toList
  have hbd : ∀ j, j ≤ k → Mom.numOf (s.data.toList.take j) ≤ 999 := fun j hj => by
    have h := Mom.numOf_bd (s.data.toList.take j) 0 (fun c hc => Mom.nD_all most s.data.toList c (by
      have e : s.data.toList.take j = (s.data.toList.take (Mom.nD most s.data.toList)).take j := by rw [List.take_take, Nat.min_eq_left (by omega)]
      rw [e] at hc; exact List.mem_of_mem_take hc))
    have h2 : (s.data.toList.take j).length ≤ 3 := by rw [List.length_take]; omega
    have h3 : (10 : Nat) ^ (s.data.toList.take j).length ≤ 10 ^ 3 := Nat.pow_le_pow_right (by omega) h2
    unfold Mom.numOf; omega
  have hat : Hid (∀ j (h : j < s.size), j ≤ k → j < most → (Mom.isD s[j] = true → j + 1 ≤ k) ∧ (Mom.isD s[j] = false → k = j)) := fun j h h1 h2 => by
    have := Mom.nD_at most s.data.toList j (by simpa using h) (by omega) h2
    rw [hk] at this; exact this
  have HB := Lib.hid hbd
  rw [hk] at hle
  have hks : k ≤ s.size := by simpa using hle.2
  have hkm := hle.1
  clear hbd hk hle
  unfold Rets
  go_enter Try.func69, Try.ntmps69
  go_wp2
  go_loopw [9, 10] (fun n i wr => ∃ j : Nat, j ≤ k ∧ i = .int .i64 j ∧ n = .int .i64 (Mom.numOf (s.data.toList.take j) : Nat) ∧ Ext w wr) (fun _ i _ => s.size - (intOf i).toNat)
  case atStart => exact ⟨0, by omega, rfl, rfl, isext⟩
  case round =>
    obtain ⟨j, j1, rfl, rfl, hx⟩ := hrel
    obtain ⟨yr, rfl⟩ := fin hx
    clear hx
    have hnb := HB.out j j1
    by_cases c0 : j < s.size
    · by_cases c1 : j < most
      · cases c2 : Mom.isD s[j]
        · have e := (hat.out j c0 j1 c1).2 c2
          have E : Hid (digV s.data.toList least k = .tuple #[.int .i64 (Mom.numOf (s.data.toList.take j) : Nat), .string (s.extract j s.size), .bool (decide (least ≤ j))]) := by
            show _ = _; rw [e, ext_drop]; rfl
          have c3 := isD_no c2
          generalize Mom.numOf (s.data.toList.take j) = nn at *
          clear c2 e
          rcases c3 with c3 | ⟨c3, c4⟩
          all_goals
            go_wp2
            refine wp_region_past1 (by kernel_rfl) (by kernel_rfl) ?_
            repeat (go_big_quiet_step (fail))
            refine wpQuiet_nil ?_
            intro _
            go_wp2
            go_ret3
            exact ⟨by rw [E.out]; simp, done⟩
        · have e := (hat.out j c0 j1 c1).1 c2
          obtain ⟨c3, c4⟩ := isD_yes c2
          have E : Hid (((Mom.numOf (s.data.toList.take (j + 1)) : Nat) : Int) = (Mom.numOf (s.data.toList.take j) : Nat) * 10 + ((s[j].toNat : Int) - 48)) := by
            show _ = _
            rw [take_byte s j c0, Mom.numOf_snoc]; omega
          generalize Mom.numOf (s.data.toList.take j) = nn at *
          clear c2
          go_wp2
          go_roundw
          case rel => exact ⟨j + 1, by omega, by go_num, by rw [E.out], isext⟩
          case measure => simp [intOf]; omega
      · have e : k = j := by omega
        have E : Hid (digV s.data.toList least k = .tuple #[.int .i64 (Mom.numOf (s.data.toList.take j) : Nat), .string (s.extract j s.size), .bool (decide (least ≤ j))]) := by
          show _ = _; rw [e, ext_drop]; rfl
        generalize Mom.numOf (s.data.toList.take j) = nn at *
        clear e
        have c3 : decide ((j : Int) < most) = false := decide_eq_false (by omega)
        have c4 : decide (j < most) = false := decide_eq_false (by omega)
        go_wp2
        refine wp_region_past1 (by kernel_rfl) (by kernel_rfl) ?_
        repeat (go_big_quiet_step (fail))
        refine wpQuiet_nil ?_
        intro _
        go_wp2
        go_ret3
        exact ⟨by rw [E.out]; simp, done⟩
    · have e : k = j := by omega
      have E : Hid (digV s.data.toList least k = .tuple #[.int .i64 (Mom.numOf (s.data.toList.take j) : Nat), .string (s.extract j s.size), .bool (decide (least ≤ j))]) := by
        show _ = _; rw [e, ext_drop]; rfl
      generalize Mom.numOf (s.data.toList.take j) = nn at *
      clear e
      have c4 : decide (j < s.size) = false := decide_eq_false c0
      go_wp2
      refine wp_region_past1 (by kernel_rfl) (by kernel_rfl) ?_
      repeat (go_big_quiet_step (fail))
      refine wpQuiet_nil ?_
      intro _
      go_wp2
      go_ret3
      exact ⟨by rw [E.out]; simp, done⟩
end Go.Proofs.Ytgnjmejmngljjaa
