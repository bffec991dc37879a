/- CivilSevens: for every input that can be read the law returns true, and each argument reads as it did; no further condition. -/
import Derived.Test.YtapdkpcbglndlaaFrame
import Derived.Test.YtapdkpcbglndlaaCivWalkM
namespace Go.Proofs.Ytapdkpcbglndlaa.civilSevens
open Go.ChangeShapes Go.WideShapes Go.ChangeAt Go.RowKit Go.Joins
set_option linter.unusedVariables false
theorem cells27 : Try.prog.cellsOf 27 = 3 := by kernel_rfl

set_option maxRecDepth 100000 in
theorem lifted (os : Os) (started : os.Started) (H : Type) (enc : TypeId × Value → H) :
    ReturnsInHanded {} Try.checked os 7 .any (Rows.civilSevensSpec.pre6 enc Try.prog Try.f7 Rows.civilSevensRow.domain false) (Rows.civilSevensSpec.post enc Try.prog Try.f7 false true false false) := by
  refine returnsInHanded_of_change (C := Try.checked) Try.own started (by kernel_rfl) Try.func7
    (ChangeSpec.witness6 (enc := enc) (C := Try.checked) false ⟨#[], #[.agg #[.int .i64 0, .int .i64 0, .int .i64 0]], []⟩ 8 (by kernel_rfl) (by kernel_rfl) (by kernel_rfl) (by kernel_rfl)) ?_
  intro W base args ds gs before hval0 hW hcnd hsz
  have hval : ∀ (j : Nat) t v, Try.f7.params[j]? = some t → args[j]? = some v → Value.okWide Try.prog W .any base t v := hval0
  have hW' := hW
  obtain ⟨p, q, hA0, hV, rfl, hfz, hnd⟩ := hW
  have hA : DataW.TrodAll enc Try.prog W 0 (fun _ => true) true Try.f7.params.toList args.toList ds p := hA0
  rw [Try.params7] at hA hval
  obtain ⟨v0, vs0, d0, ds0, p0, q0, hargs, rfl, rfl, h0, r0⟩ := trodAll_cons hA
  obtain ⟨rfl, rfl, rfl⟩ := trodAll_nil r0
  obtain rfl : args = #[v0] := by cases args; simp_all
  obtain ⟨rfl, rfl⟩ := trodVars_none hV
  clear hA0 hval0
  obtain ⟨c0_0, c0_1, c0_2, y0_0, y0_1, y0_2, m0, rfl, rfl, rfl, hy0_0, hy0_1, hy0_2⟩ := open_agg3 Try.underlying27 (by kernel_rfl) cells27 (hval 0 27 v0 rfl rfl) h0
  obtain ⟨a0_0, e0_0, hd0_0, w0_0⟩ := DataW.trod_int Try.underlying3 hy0_0
  simp only [List.cons.injEq, and_true] at e0_0
  subst e0_0; subst hd0_0
  obtain ⟨a0_1, e0_1, hd0_1, w0_1⟩ := DataW.trod_int Try.underlying3 hy0_1
  simp only [List.cons.injEq, and_true] at e0_1
  subst e0_1; subst hd0_1
  obtain ⟨a0_2, e0_2, hd0_2, w0_2⟩ := DataW.trod_int Try.underlying3 hy0_2
  simp only [List.cons.injEq, and_true] at e0_2
  subst e0_2; subst hd0_2
  refine Calls.mono (sevens_any a0_0 a0_1 a0_2  W) fun e W' ⟨he, y, hy⟩ => ?_
  subst he; subst hy
  exact ⟨_, rfl, post_law Try.laidOut rfl Try.underlying4 (by kernel_rfl) (by kernel_rfl) hW' y.hb rfl rfl rfl⟩

theorem over : Rows.civilSevensRow.holds Try.pinned (OpenSpec.ofChange Rows.civilSevensSpec) :=
  OpenClaim.holds_of_wide 7 Try.f7 rfl rfl rfl rfl rfl rfl rfl ⟨rfl, rfl, rfl, rfl, rfl⟩ rfl rfl rfl rfl rfl (by kernel_rfl) Try.func7 (by kernel_rfl)
    (of_decide_eq_true (by kernel_rfl)) (by unfold Func.isWrapper; first | (rw [if_pos (by decide +kernel)]; kernel_rfl) | (rw [if_neg (by decide +kernel)]; exact ⟨rfl, rfl⟩))
    (fun os started H enc _ => lifted os started H enc)

theorem proved : Rows.CivilSevensSaid :=
  over
#print axioms proved
end Go.Proofs.Ytapdkpcbglndlaa.civilSevens
