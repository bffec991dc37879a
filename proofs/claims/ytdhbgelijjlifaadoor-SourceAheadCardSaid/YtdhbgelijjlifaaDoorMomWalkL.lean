/- Walks of moments: the document's clocks; where a sign stands. -/
import Derived.Test.YtdhbgelijjlifaaDoorMomWalkJ
set_option linter.unusedVariables false
set_option linter.unusedSimpArgs false
namespace Go.Proofs.YtdhbgelijjlifaaDoor
open Go.RowKit

def rclockV : Option (Int × Int) → Value
  | none => .tuple #[.int .i64 0, .int .i64 0, .bool false]
  | some (n, r) => .tuple #[.int .i64 n, .int .i64 r, .bool true]
theorem span_bd {l : List UInt8} {n : Int} (h : Mom.spanR l = some n) : -1000000 ≤ n ∧ n ≤ 1000000 := by
  unfold Mom.spanR at h
  split at h
  · split at h
    · cases h; omega
    · obtain ⟨m, hm, rfl⟩ := Option.map_eq_some_iff.1 h
      have := Mom.bare_bd hm; omega
  · have := Mom.bare_bd h; omega
def signI (o : Option Nat) : Int := match o with | some i => i | none => -1
theorem map_add (o : Option Nat) (j : Nat) : ((o.map (· + 1)).map (· + j)) = o.map (· + (j + 1)) := by
  cases o <;> simp; omega
end Go.Proofs.YtdhbgelijjlifaaDoor
set_option linter.unusedVariables false
set_option linter.unusedSimpArgs false
namespace Go.Proofs.YtdhbgelijjlifaaDoor
open Go.RowKit

def DayEnd (w : World) (o : Option (Int × Int × Int)) (e : Ending) (w' : World) : Prop :=
  ∃ k d n : Int, ∃ y : Past w, e = .returned (.tuple #[.int .i64 k, .int .i64 d, .int .i64 n, .bool o.isSome]) ∧ (∀ x, o = some x → x = (k, d, n)) ∧ w' = y.x
theorem day_end {w w' : World} [h : ExtC w w'] {o : Option (Int × Int × Int)} {k d n : Int} {b : Bool} (hb : o.isSome = b) (ho : ∀ x, o = some x → x = (k, d, n)) : DayEnd w o (.returned (.tuple #[.int .i64 k, .int .i64 d, .int .i64 n, .bool b])) w' := by
  subst hb; exact ⟨k, d, n, ⟨w', h.ext⟩, rfl, ho, rfl⟩
theorem day_bd (l : List UInt8) : 0 ≤ ((Mom.dayI l : Nat) : Int) ∧ ((Mom.dayI l : Nat) : Int) ≤ 7 := by
  have := Mom.which_bd l Mom.daysL 1 (by omega)
  have e : Mom.daysL.length = 7 := rfl
  unfold Mom.dayI; omega
end Go.Proofs.YtdhbgelijjlifaaDoor
