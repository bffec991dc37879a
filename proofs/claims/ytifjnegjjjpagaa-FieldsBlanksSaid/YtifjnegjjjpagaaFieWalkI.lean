/- Walk: a text cut at an end of a line; the iterator over lines. -/
import Derived.Test.YtifjnegjjjpagaaFieWalkH
import Derived.Test.YtifjnegjjjpagaaRange
import Derived.RangeFuncNested
import Derived.RangeFuncBound
import Derived.RangeFuncCalls
import Derived.RangeFuncLeaves
import Derived.RangeFuncBox
import Derived.Shelf.Abstract
import Derived.Shelf.RegionOpen
import Derived.WalkKit
import Derived.OwnWalkIn
import Derived.TacticsInMore
import Derived.LoopNIn
import Derived.LoopIn
import Derived.Maps.AppendAt
set_option linter.unusedVariables false
set_option linter.unusedSimpArgs false
namespace Go.Proofs.Ytifjnegjjjpagaa
open Go.RowKit

/-- What a text is cut into. -/
def cutV (t : ByteArray) (q : Nat) : Value := .tuple #[.string (t.extract 0 q), .string (t.extract (q + 1) t.size), .bool (decide (q < t.size))]
set_option maxHeartbeats 1000000 in
theorem lcut_any (t : ByteArray) (q : Nat) (hq : Fie.stop Fie.nolf t 0 = q) (w : World) (hs : t.size ≤ maxLen) :
    Rets Try.prog 34 #[.string t, .string ⟨#[10]⟩] w (cutV t q) := by
  have hq2 : q ≤ t.size := by rw [← hq]; exact (Fie.stop_le Fie.nolf t 0 (by omega)).2
  have hi := Fie.index_lf t
  rw [hq] at hi
  have hix : ∀ w, Calls Try.prog 38 #[.string t, .string ⟨#[10]⟩] w fun e w' => e = .returned (.int .i64 (if q < t.size then (q : Int) else -1)) ∧ w = w' := fun w =>
    (Try.stringslite_Index_one t 10 w).mono fun e w' ⟨h1, h2⟩ => ⟨by rw [h1, hi], h2.symm⟩
  unfold maxLen at hs
  clear hi hq
  by_cases c : q < t.size
  · have E : Hid (cutV t q = .tuple #[.string (t.extract 0 q), .string (t.extract (q + 1) t.size), .bool true]) := by show _ = _; unfold cutV; rw [decide_eq_true c]
    have hix' : ∀ w, Calls Try.prog 38 #[.string t, .string ⟨#[10]⟩] w fun e w' => e = .returned (.int .i64 (q : Int)) ∧ w = w' := fun w => by have := hix w; rwa [if_pos c] at this
    clear hix
    have HI := Lib.hid hix'
    clear hix'
    have hwr : IntKind.i64.wrap ((q : Int) + 1) = (q : Int) + 1 := by rw [IntKind.wrap_i64]; omega
    unfold Rets
    go_enter Try.func34, Try.ntmps34
    go_wp2_with (go_at_call 38; refine (HI.out _).mono ?_; rintro e w' ⟨rfl, rfl⟩)
    refine wp_region_past (by kernel_rfl) (by kernel_rfl) ?_
    repeat (go_big_quiet_step (fail))
    refine wpQuiet_nil ?_
    intro _
    go_wp2
    go_ret3
    exact ⟨by rw [E.out]; rfl, done⟩
  · have E : Hid (cutV t q = .tuple #[.string t, .string ⟨#[]⟩, .bool false]) := by
      show _ = _; unfold cutV; rw [decide_eq_false c]
      obtain rfl : q = t.size := by omega
      rw [Fie.ext_full, Fie.ext_none _ _ (by omega)]
    have hix' : ∀ w, Calls Try.prog 38 #[.string t, .string ⟨#[10]⟩] w fun e w' => e = .returned (.int .i64 (-1)) ∧ w = w' := fun w => by have := hix w; rwa [if_neg c] at this
    clear hix
    have HI := Lib.hid hix'
    clear hix'
    unfold Rets
    go_enter Try.func34, Try.ntmps34
    go_wp2_with (go_at_call 38; refine (HI.out _).mono ?_; rintro e w' ⟨rfl, rfl⟩)
    go_ret3
    exact ⟨by rw [E.out]; rfl, done⟩
set_option maxHeartbeats 1000000 in
theorem cut_any (t : ByteArray) (q : Nat) (hq : Fie.stop Fie.nolf t 0 = q) (w : World) (hs : t.size ≤ maxLen) :
    Rets Try.prog 29 #[.string t, .string ⟨#[10]⟩] w (cutV t q) := by
  have HL := Lib.hid (lcut_any t q hq w hs)
  clear hq
  unfold Rets
  go_enter Try.func29, Try.ntmps29
  go_wp2_with (go_at_call 34; unfold cutV at HL; refine Rets.use HL.out ?_; intro _)
  go_ret3
  exact ⟨rfl, done⟩
end Go.Proofs.Ytifjnegjjjpagaa
