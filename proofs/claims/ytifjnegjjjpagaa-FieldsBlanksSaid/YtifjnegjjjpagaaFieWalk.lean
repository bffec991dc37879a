/- Walks of fields' leaves. -/
import Derived.Test.YtifjnegjjjpagaaProg
import Derived.WalkKit
import Derived.WalkSpells
import Derived.WalkLawsBesides
import Derived.Test.YtifjnegjjjpagaaPast
import Derived.Test.YtifjnegjjjpagaaFiePlain
set_option linter.unusedVariables false
set_option linter.unusedSimpArgs false
namespace Go.Proofs.Ytifjnegjjjpagaa
open Go.RowKit

set_option maxHeartbeats 400000 in
theorem blank_any (c : UInt8) (w : World) : Rets Try.prog 20 #[.int .u8 c.toNat] w (.bool (Fie.blank c)) := by
  go_enter Try.func20, Try.ntmps20
  go_wp2
  all_goals (go_ret; refine ⟨ret_bool ?_, done⟩; rw [Bool.eq_iff_iff]; simp [Fie.blank, *]; try omega)

set_option maxHeartbeats 400000 in
theorem bare_any (c : UInt8) (w : World) : Rets Try.prog 21 #[.int .u8 c.toNat] w (.bool (Fie.bare c)) := by
  go_enter Try.func21, Try.ntmps21
  go_wp2
  all_goals (go_ret; refine ⟨ret_bool ?_, done⟩; rw [Bool.eq_iff_iff]; simp [Fie.bare, *]; try omega)

set_option maxHeartbeats 400000 in
theorem within_any (c : UInt8) (w : World) : Rets Try.prog 22 #[.int .u8 c.toNat] w (.bool (Fie.within c)) := by
  go_enter Try.func22, Try.ntmps22
  go_wp2
  all_goals (go_ret; refine ⟨ret_bool ?_, done⟩; rw [Bool.eq_iff_iff]; simp [Fie.within, *]; try omega)

set_option maxHeartbeats 400000 in
theorem rblank_any (c : UInt8) (w : World) : Rets Try.prog 24 #[.int .u8 c.toNat] w (.bool (Fie.blank c)) := by
  go_enter Try.func24, Try.ntmps24
  go_wp2
  all_goals (go_ret; refine ⟨ret_bool ?_, done⟩; rw [Bool.eq_iff_iff]; simp [Fie.blank, *]; try omega)

set_option maxRecDepth 100000 in
set_option maxHeartbeats 400000 in
theorem rbare_any (c : UInt8) (w : World) : Rets Try.prog 25 #[.int .u8 c.toNat] w (.bool (Fie.bare c)) := by
  go_enter Try.func25, Try.ntmps25
  go_wp2
  all_goals (go_ret; refine ⟨ret_bool ?_, done⟩; rw [Bool.eq_iff_iff]; simp [Fie.bare, *]; try omega)

set_option maxHeartbeats 1000000 in
theorem while_blank (s : ByteArray) (k : Int) (w : World) (h0 : 0 ≤ k) (hk : k ≤ s.size) (hs : s.size ≤ maxLen) :
    Rets Try.prog 19 #[.string s, .int .i64 k, .func (.func 20) #[] #[]] w (.int .i64 (Fie.stop Fie.blank s k.toNat)) := by
  obtain ⟨n, rfl⟩ := Int.eq_ofNat_of_zero_le h0
  rw [Int.toNat_natCast]
  have hn : n ≤ s.size := by omega
  clear hk h0
  unfold maxLen at hs
  go_enter Try.func19, Try.ntmps19
  go_wp2
  go_loopw [1] (fun i wr => ∃ j : Nat, n ≤ j ∧ j ≤ s.size ∧ i = .int .i64 j ∧ Hid (Fie.stop Fie.blank s n = Fie.stop Fie.blank s j) ∧ Ext w wr) (fun i _ => s.size - (intOf i).toNat)
  case atStart => exact ⟨n, by omega, hn, rfl, rfl, isext⟩
  case round =>
    obtain ⟨j, j1, j2, rfl, he, hx⟩ := hrel
    obtain ⟨yr, rfl⟩ := fin hx
    clear hx
    by_cases hlt : j < s.size
    · cases hp : Fie.blank s[j]
      · have e := Lib.hid (Fie.stop_no Fie.blank s j hlt hp)
        go_wp2_with (go_at_call 20; refine Rets.use1 (blank_any _ _) ?_; intro _)
        go_ret
        exact ⟨ret_int (by rw [he.out, e.out]), done⟩
      · have e := Lib.hid (Fie.stop_yes Fie.blank s j hlt hp)
        go_wp2_with (go_at_call 20; refine Rets.use1 (blank_any _ _) ?_; intro _)
        go_roundw
        case rel => exact ⟨j + 1, by omega, by omega, by go_num, by show _ = _; rw [he.out, e.out], isext⟩
        case measure => simp [intOf]; omega
    · have e := Lib.hid (Fie.stop_end Fie.blank s j (by omega))
      go_wp2
      go_ret
      exact ⟨ret_int (by rw [he.out, e.out]), done⟩

set_option maxHeartbeats 1000000 in
theorem while_bare (s : ByteArray) (k : Int) (w : World) (h0 : 0 ≤ k) (hk : k ≤ s.size) (hs : s.size ≤ maxLen) :
    Rets Try.prog 19 #[.string s, .int .i64 k, .func (.func 21) #[] #[]] w (.int .i64 (Fie.stop Fie.bare s k.toNat)) := by
  obtain ⟨n, rfl⟩ := Int.eq_ofNat_of_zero_le h0
  rw [Int.toNat_natCast]
  have hn : n ≤ s.size := by omega
  clear hk h0
  unfold maxLen at hs
  go_enter Try.func19, Try.ntmps19
  go_wp2
  go_loopw [1] (fun i wr => ∃ j : Nat, n ≤ j ∧ j ≤ s.size ∧ i = .int .i64 j ∧ Hid (Fie.stop Fie.bare s n = Fie.stop Fie.bare s j) ∧ Ext w wr) (fun i _ => s.size - (intOf i).toNat)
  case atStart => exact ⟨n, by omega, hn, rfl, rfl, isext⟩
  case round =>
    obtain ⟨j, j1, j2, rfl, he, hx⟩ := hrel
    obtain ⟨yr, rfl⟩ := fin hx
    clear hx
    by_cases hlt : j < s.size
    · cases hp : Fie.bare s[j]
      · have e := Lib.hid (Fie.stop_no Fie.bare s j hlt hp)
        go_wp2_with (go_at_call 21; refine Rets.use1 (bare_any _ _) ?_; intro _)
        go_ret
        exact ⟨ret_int (by rw [he.out, e.out]), done⟩
      · have e := Lib.hid (Fie.stop_yes Fie.bare s j hlt hp)
        go_wp2_with (go_at_call 21; refine Rets.use1 (bare_any _ _) ?_; intro _)
        go_roundw
        case rel => exact ⟨j + 1, by omega, by omega, by go_num, by show _ = _; rw [he.out, e.out], isext⟩
        case measure => simp [intOf]; omega
    · have e := Lib.hid (Fie.stop_end Fie.bare s j (by omega))
      go_wp2
      go_ret
      exact ⟨ret_int (by rw [he.out, e.out]), done⟩

set_option maxHeartbeats 1000000 in
theorem while_within (s : ByteArray) (k : Int) (w : World) (h0 : 0 ≤ k) (hk : k ≤ s.size) (hs : s.size ≤ maxLen) :
    Rets Try.prog 19 #[.string s, .int .i64 k, .func (.func 22) #[] #[]] w (.int .i64 (Fie.stop Fie.within s k.toNat)) := by
  obtain ⟨n, rfl⟩ := Int.eq_ofNat_of_zero_le h0
  rw [Int.toNat_natCast]
  have hn : n ≤ s.size := by omega
  clear hk h0
  unfold maxLen at hs
  go_enter Try.func19, Try.ntmps19
  go_wp2
  go_loopw [1] (fun i wr => ∃ j : Nat, n ≤ j ∧ j ≤ s.size ∧ i = .int .i64 j ∧ Hid (Fie.stop Fie.within s n = Fie.stop Fie.within s j) ∧ Ext w wr) (fun i _ => s.size - (intOf i).toNat)
  case atStart => exact ⟨n, by omega, hn, rfl, rfl, isext⟩
  case round =>
    obtain ⟨j, j1, j2, rfl, he, hx⟩ := hrel
    obtain ⟨yr, rfl⟩ := fin hx
    clear hx
    by_cases hlt : j < s.size
    · cases hp : Fie.within s[j]
      · have e := Lib.hid (Fie.stop_no Fie.within s j hlt hp)
        go_wp2_with (go_at_call 22; refine Rets.use1 (within_any _ _) ?_; intro _)
        go_ret
        exact ⟨ret_int (by rw [he.out, e.out]), done⟩
      · have e := Lib.hid (Fie.stop_yes Fie.within s j hlt hp)
        go_wp2_with (go_at_call 22; refine Rets.use1 (within_any _ _) ?_; intro _)
        go_roundw
        case rel => exact ⟨j + 1, by omega, by omega, by go_num, by show _ = _; rw [he.out, e.out], isext⟩
        case measure => simp [intOf]; omega
    · have e := Lib.hid (Fie.stop_end Fie.within s j (by omega))
      go_wp2
      go_ret
      exact ⟨ret_int (by rw [he.out, e.out]), done⟩

end Go.Proofs.Ytifjnegjjjpagaa
