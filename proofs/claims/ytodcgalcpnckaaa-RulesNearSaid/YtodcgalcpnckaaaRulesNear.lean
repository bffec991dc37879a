/- RulesNear: for every input that can be read the law returns true, and each argument reads as it did; no further condition. -/
import Derived.Test.YtodcgalcpnckaaaArgs



import Derived.Test.YtodcgalcpnckaaaRulRowsB
namespace Go.Proofs.Ytodcgalcpnckaaa.rulesNear
open Go.ChangeShapes Go.WideShapes Go.ChangeAt Go.RowKit Go.Joins
set_option linter.unusedVariables false
set_option linter.unusedSimpArgs false

set_option maxRecDepth 100000 in
theorem lifted (os : Os) (started : os.Started) (H : Type) (enc : TypeId × Value → H) :
    ReturnsInHanded {} Try.checked os 8 .any (Rows.rulesNearSpec.pre6 enc Try.prog Try.f8 Rows.rulesNearRow.domain false) (Rows.rulesNearSpec.post enc Try.prog Try.f8 false true false false) := by
  refine returnsInHanded_of_change (C := Try.checked) Try.own started (by kernel_rfl) Try.func8
    (ChangeSpec.witness6 (enc := enc) (C := Try.checked) false ⟨#[], #[.slice none 0 0], []⟩ 8 (by kernel_rfl) (by kernel_rfl) (by kernel_rfl) (by kernel_rfl)) ?_
  intro W base args ds gs before hval0 hW hcnd hsz
  have hval : ∀ (j : Nat) t v, Try.f8.params[j]? = some t → args[j]? = some v → Value.okWide Try.prog W .any base t v := hval0
  have hW' := hW
  obtain ⟨p, q, hA0, hV, rfl, hfz, hnd⟩ := hW
  have hA : DataW.TrodAll enc Try.prog W 0 (fun _ => true) true Try.f8.params.toList args.toList ds p := hA0
  rw [Try.params8] at hA hval
  obtain ⟨v0, vs0, d0, ds0, p0, q0, hargs, rfl, rfl, h0, r0⟩ := trodAll_cons hA
  obtain ⟨rfl, rfl, rfl⟩ := trodAll_nil r0
  obtain rfl : args = #[v0] := by cases args; simp_all
  obtain ⟨rfl, rfl⟩ := trodVars_none hV
  clear hA0 hval0
  obtain ⟨a0, n0, hn0, hr0⟩ := arg_rules (hval 0 22 v0 rfl rfl) h0
  refine Calls.mono (nearlaw_row a0 n0 hn0 v0  W hr0 ) fun e W' ⟨he, y, hy⟩ => ?_
  subst he; subst hy
  exact ⟨_, rfl, post_law Try.laidOut rfl Try.underlying4 (by kernel_rfl) (by kernel_rfl) hW' y.hb rfl rfl rfl⟩

theorem over : Rows.rulesNearRow.holds Try.pinned (OpenSpec.ofChange Rows.rulesNearSpec) :=
  OpenClaim.holds_of_wide 8 Try.f8 rfl rfl rfl rfl rfl rfl rfl ⟨rfl, rfl, rfl, rfl, rfl⟩ rfl rfl rfl rfl rfl (by kernel_rfl) Try.func8 (by kernel_rfl)
    (of_decide_eq_true (by kernel_rfl)) (by unfold Func.isWrapper; first | (rw [if_pos (by decide +kernel)]; kernel_rfl) | (rw [if_neg (by decide +kernel)]; exact ⟨rfl, rfl⟩))
    (fun os started H enc _ => lifted os started H enc)

theorem proved : Rows.RulesNearSaid :=
  over
#print axioms proved
end Go.Proofs.Ytodcgalcpnckaaa.rulesNear
