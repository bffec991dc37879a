/- Walk: where a field that begins with a quotation mark and ends without one is wrong. -/
import Derived.Test.YtifjnegjjjpagaaFieWalkB
import Derived.Test.YtifjnegjjjpagaaFiePlainB
import Derived.Test.YtifjnegjjjpagaaShelf
set_option linter.unusedVariables false
set_option linter.unusedSimpArgs false
namespace Go.Proofs.Ytifjnegjjjpagaa
open Go.RowKit

/-- Where it is wrong. -/
def wrongI (s : ByteArray) (k e : Nat) : Int := if Fie.stop Fie.noq s (k + 1) = s.size then k else e
set_option maxHeartbeats 1000000 in
theorem wrong_any (s : ByteArray) (k e : Int) (w : World) (h0 : 0 ≤ k) (hk : k < s.size) (he : 0 ≤ e) (hs : s.size ≤ maxLen) :
    Rets Try.prog 23 #[.string s, .int .i64 k, .int .i64 e] w (.int .i64 (wrongI s k.toNat e.toNat)) := by
  obtain ⟨n, rfl⟩ := Int.eq_ofNat_of_zero_le h0
  obtain ⟨m, rfl⟩ := Int.eq_ofNat_of_zero_le he
  rw [Int.toNat_natCast, Int.toNat_natCast]
  have hn : n < s.size := by omega
  clear hk h0 he
  unfold maxLen at hs
  have hq := Fie.index_quote s (n + 1) (by omega)
  by_cases c : Fie.stop Fie.noq s (n + 1) = s.size
  · have e : Hid (wrongI s n m = n) := if_pos c
    have g := hq.2 c
    clear hq c
    go_enter Try.func23, Try.ntmps23
    go_wp2_with (go_at_call 30; refine (Try.strings_IndexByte _ _ _).mono ?_; rintro e w' ⟨rfl, rfl⟩)
    go_ret
    exact ⟨ret_int e.out.symm, done⟩
  · have e : Hid (wrongI s n m = m) := if_neg c
    have g := fun h => c (hq.1 h)
    clear hq c
    go_enter Try.func23, Try.ntmps23
    go_wp2_with (go_at_call 30; refine (Try.strings_IndexByte _ _ _).mono ?_; rintro e w' ⟨rfl, rfl⟩)
    go_ret
    exact ⟨ret_int e.out.symm, done⟩
end Go.Proofs.Ytifjnegjjjpagaa
