/- MomentWeeks: for every input that can be read the law returns true, and each argument reads as it did; no further condition. -/
import Derived.Test.YtgnjmejmngljjaaFrame
import Derived.Test.YtgnjmejmngljjaaSpot
import Derived.HandedShaped
import Derived.Shelf.Vars

import Derived.Test.YtgnjmejmngljjaaMomWalkZJ
namespace Go.Proofs.Ytgnjmejmngljjaa.momentWeeks
open Go.ChangeShapes Go.WideShapes Go.ChangeAt Go.RowKit Go.Joins
set_option linter.unusedVariables false
set_option linter.unusedSimpArgs false
theorem cells29 : Try.prog.cellsOf 29 = 6 := by kernel_rfl

set_option maxRecDepth 100000 in
theorem lifted (os : Os) (started : os.Started) (H : Type) (enc : TypeId × Value → H) :
    ReturnsInHanded {} Try.checked os 7 .any (Rows.momentWeeksSpec.pre6 enc Try.prog Try.f7 Rows.momentWeeksRow.domain false) (Rows.momentWeeksSpec.post enc Try.prog Try.f7 false true false false) := by
  refine returnsInHanded_of_change_shaped (C := Try.checked) Try.own started (by kernel_rfl) Try.func7
    (ChangeSpec.witness6 (enc := enc) (C := Try.checked) false ⟨#[], #[.agg #[.int .i64 0, .int .i64 0, .int .i64 0, .int .i64 0, .int .i64 0, .int .i64 0], .int .i64 0], []⟩ 8 (by kernel_rfl) (by kernel_rfl) (by kernel_rfl) (by kernel_rfl)) ?_
  intro W base args ds gs before hval0 hW hcnd hsz hsh hho
  have hval : ∀ (j : Nat) t v, Try.f7.params[j]? = some t → args[j]? = some v → Value.okWide Try.prog W .any base t v := hval0
  have hW' := hW
  obtain ⟨p, q, hA0, hV, rfl, hfz, hnd⟩ := hW
  have hA : DataW.TrodAll enc Try.prog W 0 (fun _ => true) true Try.f7.params.toList args.toList ds p := hA0
  rw [Try.params7] at hA hval
  obtain ⟨v0, vs0, d0, ds0, p0, q0, hargs, rfl, rfl, h0, r0⟩ := trodAll_cons hA
  obtain ⟨v1, vs1, d1, ds1, p1, q1, rfl, rfl, rfl, h1, r1⟩ := trodAll_cons r0
  obtain ⟨rfl, rfl, rfl⟩ := trodAll_nil r1
  obtain rfl : args = #[v0, v1] := by cases args; simp_all
  obtain ⟨rfl, rfl⟩ := trodVars_none hV
  clear hA0 hval0
  obtain ⟨a0_0, a0_1, a0_2, a0_3, a0_4, a0_5, rfl⟩ := arg_six Try.underlying29 (by kernel_rfl) cells29 (by intro f hf; simp at hf; rcases hf with rfl | rfl | rfl | rfl | rfl | rfl <;> exact Try.underlying3) (hval 0 29 v0 rfl rfl) h0
  obtain ⟨a1, rfl, rfl, rfl, w1⟩ := open_int Try.underlying3 (hval 1 3 v1 rfl rfl) h1
  obtain ⟨mx, hmx⟩ := cell_of_shapedOpen_int (P := Try.prog) (g := 0) (t := 3) (zero := #[.int .i64 0]) hsh (of_decide_eq_true (by kernel_rfl)) (by kernel_rfl) rfl (by kernel_rfl) (by kernel_rfl) Try.underlying3
  have hw0 := World.block_lt_of_cell? W ⟨0, 0, none⟩ hmx
  refine Calls.mono (weekslaw_any a0_0 a0_1 a0_2 a0_3 a0_4 a0_5 a1  W  mx hmx hw0) fun e W' ⟨he, y, hy⟩ => ?_
  subst he; subst hy
  exact ⟨_, rfl, post_law Try.laidOut rfl Try.underlying4 (by kernel_rfl) (by kernel_rfl) hW' y.hb rfl rfl rfl⟩

theorem over : Rows.momentWeeksRow.holds Try.pinned (OpenSpec.ofChange Rows.momentWeeksSpec) :=
  OpenClaim.holds_of_wide 7 Try.f7 rfl rfl rfl rfl rfl rfl rfl ⟨rfl, rfl, rfl, rfl, rfl⟩ rfl rfl rfl rfl rfl (by kernel_rfl) Try.func7 (by kernel_rfl)
    (of_decide_eq_true (by kernel_rfl)) (by unfold Func.isWrapper; first | (rw [if_pos (by decide +kernel)]; kernel_rfl) | (rw [if_neg (by decide +kernel)]; exact ⟨rfl, rfl⟩))
    (fun os started H enc _ => lifted os started H enc)

theorem proved : Rows.MomentWeeksSaid :=
  over
#print axioms proved
end Go.Proofs.Ytgnjmejmngljjaa.momentWeeks
