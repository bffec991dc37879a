/- Walks of rules: two turns compared. -/
import Derived.Test.YtodcgalcpnckaaaRulWalkR
import Derived.Test.YtodcgalcpnckaaaRulPlainC
import Derived.Test.YtodcgalcpnckaaaCivWalkJ
import Derived.Shelf.SlSortCmp.InsertionK
set_option linter.unusedVariables false
set_option linter.unusedSimpArgs false
namespace Go.Proofs.Ytodcgalcpnckaaa
open Go.RowKit Go.Sort Go.Shelf

set_option maxHeartbeats 1000000 in
theorem nan64_any (a : Int) (w : World) : Calls Try.prog 46 #[.int .i64 a] w fun e w' => e = .returned (.bool false) ∧ w = w' := by
  go_enter Try.func46, Try.ntmps46
  go_wp2
  go_ret
  exact ⟨ret_bool (by simp), rfl⟩
set_option maxHeartbeats 1000000 in
theorem compare64_any (a b : Int) (w : World) : Calls Try.prog 28 #[.int .i64 a, .int .i64 b] w fun e w' => e = .returned (.int .i64 (cmpI a b)) ∧ w = w' := by
  by_cases h1 : a < b
  · have e := Lib.hid (cmpI_lt h1)
    go_enter Try.func28, Try.ntmps28
    go_wp2_with (go_at_call 46; refine (nan64_any _ _).mono ?_; rintro e w' ⟨rfl, rfl⟩)
    go_ret
    exact ⟨ret_int e.out.symm, rfl⟩
  by_cases h2 : b < a
  · have e := Lib.hid (cmpI_gt h2)
    go_enter Try.func28, Try.ntmps28
    go_wp2_with (go_at_call 46; refine (nan64_any _ _).mono ?_; rintro e w' ⟨rfl, rfl⟩)
    go_ret
    exact ⟨ret_int e.out.symm, rfl⟩
  have e := Lib.hid (cmpI_eq h1 h2)
  go_enter Try.func28, Try.ntmps28
  go_wp2_with (go_at_call 46; refine (nan64_any _ _).mono ?_; rintro e w' ⟨rfl, rfl⟩)
  go_ret
  exact ⟨ret_int e.out.symm, rfl⟩
set_option maxHeartbeats 1000000 in
theorem cmpturn_any (a b : Turn) (w : World) : Calls Try.prog 27 #[turnV a, turnV b] w fun e w' => e = .returned (.int .i64 (cmpI a.at' b.at')) ∧ ∃ q os', w' = grow (w.drewN q) os' := by
  have H := fun w => Lib.hid (compare64_any a.at' b.at' w)
  generalize cmpI a.at' b.at' = r at *
  obtain ⟨aa, ar, a3, al⟩ := a
  obtain ⟨ba, br, bs, bl⟩ := b
  go_enter Try.func27, Try.ntmps27
  go_wp2_with (go_at_call 28; refine ((H _).out).mono ?_; rintro e w' ⟨rfl, rfl⟩)
  go_ret
  exact ⟨rfl, 0, _, by rw [alloc_eq_grow, alloc_eq_grow, grow_grow]; rfl⟩
theorem cmp_lays (blk off size : Nat) (w : World) : CmpLays Try.prog 27 #[] turnCells 4 (fun x y => cmpI x.at' y.at') blk off size w := fun _ _ _ _ x y => cmpturn_any x y _
theorem lt_turn (x y : Turn) : ltOf (fun x y : Turn => cmpI x.at' y.at') x y = decide (x.at' < y.at') := by
  unfold ltOf
  by_cases h1 : x.at' < y.at'
  · simp [cmpI_lt h1, h1]
  · by_cases h2 : y.at' < x.at'
    · simp [cmpI_gt h2, h1]
    · simp [cmpI_eq h1 h2, h1]
/-- The library's insertion sort at turns. -/
def Try.lays20_ren : Go.Shelf.Ren := ⟨fun | 20 => 58 | n => n, fun | 0 => 0 | 3 => 3 | 4 => 4 | 22 => 24 | 24 => 30 | 25 => 48 | n => n, fun | n => n⟩
theorem Try.lays20 : SlLaysF0.n20 Try.prog Try.lays20_ren := {
  mixed := by kernel_rfl
  f20 := ⟨Try.f58.name, by decide, Try.func58.trans (congrArg some (by kernel_rfl))⟩
  t0 := Try.underlying0
  a0 := Try.isAgg0
  z0 := Try.sizeOf0
  v0 := Try.zeroValue0
  t3 := Try.underlying3
  a3 := Try.isAgg3
  z3 := Try.sizeOf3
  v3 := Try.zeroValue3
  t4 := Try.underlying4
  a4 := Try.isAgg4
  z4 := Try.sizeOf4
  v4 := Try.zeroValue4
  t22 := Try.underlying24
  a22 := Try.isAgg24
  z22 := Try.sizeOf24
  v22 := Try.zeroValue24
  t25 := Try.underlying48
  a25 := Try.isAgg48
  z25 := Try.sizeOf48
  v25 := Try.zeroValue48 }
theorem insort_any (l : List Turn) (n g cap : Nat) (w : World) (hn : l.length = n) (hH : HoldsK turnCells 4 w g 0 l.toArray) (hg : g < w.heap.size) (hl : n < 4611686018427387904) :
    Calls Try.prog 58 #[.slice (some ⟨g, 0, none⟩) n cap, .int .i64 0, .int .i64 n, .func (.func 27) #[] #[]] w fun e w' =>
      e = .returned (.tuple #[]) ∧ ∃ m os, w' = sortWorldK turnCells 4 w g 0 m (Rul.sortT l).toArray os := by
  subst hn
  have := AnyQ.insertionSortCmpFunc Try.lays20 4 Try.isAgg30 Try.sizeOf30 turnCells (fun _ => rfl) (fun x v hv => by simp [turnCells] at hv; rcases hv with rfl | rfl | rfl | rfl <;> rfl) (fun x y => cmpI x.at' y.at') 27 #[] g 0 cap 0 l.length l.toArray w
    (enters_of Try.func27 (by kernel_rfl) rfl) (cmp_lays g 0 _ w) hH hg (Nat.zero_le _) (by simp) (by simpa using hl)
  rw [ins_all _ lt_turn] at this
  exact this
end Go.Proofs.Ytodcgalcpnckaaa
