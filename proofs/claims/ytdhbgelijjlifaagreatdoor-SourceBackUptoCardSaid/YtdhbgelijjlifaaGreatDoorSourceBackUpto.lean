/- SourceBack: for every input that can be read and that no machine is too small for the law returns true, and each argument reads as it did; the listed variables of Go's library hold what its text lays. -/
import Derived.Test.YtdhbgelijjlifaaGreatDoorSrcSupB
import Derived.Test.YtdhbgelijjlifaaGreatDoorSrcSupJ
import Derived.Test.YtdhbgelijjlifaaGreatDoorSrcSupA
import Derived.Test.YtdhbgelijjlifaaGreatDoorSrcDoor
import Derived.ChangeMaps5
import Derived.Test.YtdhbgelijjlifaaGreatDoorSrcBkD
import Derived.Test.YtdhbgelijjlifaaGreatDoorSrcRows
namespace Go.Proofs.YtdhbgelijjlifaaGreatDoor.sourceBack
open Go.ChangeShapes Go.WideShapes Go.ChangeAt Go.RowKit Go.Joins
set_option linter.unusedVariables false
set_option linter.unusedSimpArgs false

set_option maxRecDepth 100000 in
theorem contract (H : Type) (enc : TypeId × Value → H) (W : World) (base : Nat) (args : Array Value) (ds gs : List (DataW H)) (before : List MemPlace)
    (hval0 : ∀ (j : Nat) t v, Tryz.f7.params[j]? = some t → args[j]? = some v → Value.okWide Tryz.prog W .any base t v)
    (hW : DataW.Whole enc Tryz.prog Tryz.f7.params.toList Rows.sourceBackSpec.vars false W args.toList ds gs before) (hM : GoodT W) (hk : Rows.uptoSmall H (ds ++ gs) = true) :
    Calls Tryz.prog 7 args W fun e W' => ∃ v, e = .returned v ∧ Rows.sourceBackSpec.post enc Tryz.prog Tryz.f7 false true false false W args v W' := by
  have hval : ∀ (j : Nat) t v, Tryz.f7.params[j]? = some t → args[j]? = some v → Value.okWide Tryz.prog W .any base t v := hval0
  have hW' := hW
  obtain ⟨p, q, hA0, hV, rfl, hfz, hnd⟩ := hW
  have hA : DataW.TrodAll enc Tryz.prog W 0 (fun _ => true) true Tryz.f7.params.toList args.toList ds p := hA0
  rw [Tryz.params7] at hA hval
  obtain ⟨v0, vs0, d0, ds0, p0, q0, hargs, rfl, rfl, h0, r0⟩ := trodAll_cons hA
  obtain ⟨v1, vs1, d1, ds1, p1, q1, rfl, rfl, rfl, h1, r1⟩ := trodAll_cons r0
  obtain ⟨rfl, rfl, rfl⟩ := trodAll_nil r1
  obtain rfl : args = #[v0, v1] := by cases args; simp_all
  obtain ⟨rfl, rfl⟩ := trodVars_none hV
  clear hA0 hval0
  obtain ⟨a0, hr0, hf0⟩ := arg_source (hval 0 26 v0 rfl rfl) h0 (bulk_first hk (by simp))
  obtain ⟨a1, rfl, rfl, rfl, w1⟩ := Go.ChangeMaps.open_string Tryz.underlying9 (hval 1 9 v1 rfl rfl) h1
  refine Calls.mono (backlaw_row2 a0 v0 a1 (str_small (bulk_first hk (by simp))) W hr0 hf0 hM) fun e W' ⟨he, y, hy⟩ => ?_
  subst he; subst hy
  exact ⟨_, rfl, post_law Tryz.laidOut rfl Tryz.underlying4 (by kernel_rfl) (by kernel_rfl) hW' y.hb rfl rfl rfl⟩

theorem laid_met (os : Os) : laidMetH Tryz.prog Rows.sourceBackUptoRow.laid ((World.laidAll Tryz.prog os Rows.sourceBackUptoRow.laid).forCall (fun _ _ => 0) ⟨#[], #[.agg #[.slice none 0 0, .slice none 0 0, .slice none 0 0], .string ByteArray.empty], []⟩).memory := by
  rw [MakeChecks.laidMetH_plain _ _ _ (by kernel_rfl)]
  exact laidMet_laidAll _ (by kernel_rfl) (by kernel_rfl)
theorem reads (os : Os) {H : Type} (enc : TypeId × Value → H) : ∃ places, DataW.whole enc Tryz.prog ((World.laidAll Tryz.prog os Rows.sourceBackUptoRow.laid).forCall (fun _ _ => 0) ⟨#[], #[.agg #[.slice none 0 0, .slice none 0 0, .slice none 0 0], .string ByteArray.empty], []⟩).memory Tryz.f7.params.toList Rows.sourceBackSpec.vars false (#[.agg #[.slice none 0 0, .slice none 0 0, .slice none 0 0], .string ByteArray.empty] : Array Value).toList 8 = some ([.agg [.nil, .nil, .nil], .lit (.string [])], [], places) :=
  ⟨[], by kernel_rfl⟩

set_option maxRecDepth 100000 in
theorem lifted (os : Os) (started : os.Started) (H : Type) (enc : TypeId × Value → H) (F : Stop.Interp) :
    ReturnsInHanded {} Tryz.checked os 7 .any ((Rows.OpenSpec.upto Rows.sourceBackSpec).preRow enc Tryz.prog Tryz.f7 Rows.sourceBackUptoRow.domain false Rows.sourceBackUptoRow.laid) (((Rows.OpenSpec.upto Rows.sourceBackSpec).at F).post enc Tryz.prog Tryz.f7 false true false false) := by
  obtain ⟨places, hx⟩ := reads os enc
  refine returnsInHanded_of_row (C := Tryz.checked) (s := (Rows.OpenSpec.upto Rows.sourceBackSpec)) Tryz.own started (by kernel_rfl) Tryz.func7
    (door_witness (enc := enc) (C := Tryz.checked) false (World.laidAll Tryz.prog os Rows.sourceBackUptoRow.laid) #[.agg #[.slice none 0 0, .slice none 0 0, .slice none 0 0], .string ByteArray.empty] (World.laidAll_os _ _ _) (World.shaped_of_ZipB (by kernel_rfl) (by kernel_rfl)) (by kernel_rfl)
      (OpenSpec.preRow_of_cond 8 hx (by kernel_rfl) (fun k hk => by cases hk; kernel_rfl) (by kernel_rfl) (laid_met os))) ?_
  intro W base args ds gs before hval hW _ hcond _ hL hsh _
  exact contract H enc W base args ds gs before hval hW ⟨(goodw_of hsh ((MakeChecks.laidMetH_plain _ _ _ (by kernel_rfl)).mp hL).tail.tail.tail.tail), tabw_of ((MakeChecks.laidMetH_plain _ _ _ (by kernel_rfl)).mp hL).tail.tail (by kernel_rfl)⟩ (hcond _ rfl)

theorem said : Rows.SourceBackUptoSaid :=
  OpenClaim.holds_of_cond 7 Tryz.f7 rfl rfl rfl rfl rfl rfl rfl ⟨rfl, rfl, rfl, rfl, rfl⟩ rfl rfl rfl rfl rfl (by kernel_rfl) Tryz.func7 (by kernel_rfl)
    (of_decide_eq_true (by kernel_rfl)) (by unfold Func.isWrapper; first | (rw [if_pos (by decide +kernel)]; kernel_rfl) | (rw [if_neg (by decide +kernel)]; exact ⟨rfl, rfl⟩))
    (fun os started H enc _ F => by rw [OpenClaim.pre_eq_preRow]; exact lifted os started H enc F)

theorem plain (f : FuncId) (fn : Func) (hf : Tryz.pinned.checked.prog.funcNamed "analemma/analemmalaw10.SourceBack" = some f) (hfn : Tryz.pinned.checked.prog.funcs[f]? = some fn) :
    Tryz.pinned.checked.prog.looks [] = Tryz.pinned.checked.prog.looks [] ∧ ∀ (j : Nat) t, fn.params[j]? = some t → Tryz.pinned.checked.prog.wantsStandIn t = false := by
  obtain rfl : f = 7 := Option.some.inj ((show Tryz.prog.funcNamed "analemma/analemmalaw10.SourceBack" = some 7 by kernel_rfl).symm.trans hf) |>.symm
  obtain rfl : fn = Tryz.f7 := (Option.some.inj (Tryz.func7.symm.trans hfn)).symm
  refine ⟨rfl, fun j t ht => ?_⟩
  rw [Tryz.params7] at ht
  have hm : t ∈ [26, 9] := by simpa using Array.mem_of_getElem? ht
  have hall : ([26, 9].all fun u => !Tryz.prog.wantsStandIn u) = true := by kernel_rfl
  exact (show Tryz.prog.wantsStandIn t = false by simpa using List.all_eq_true.1 hall t hm)

theorem proved : Rows.SourceBackUptoCardSaid :=
  Claim7.holds_tied_plain_at .later [] _ _ _ _ said (fun _ h => by cases h) (by kernel_rfl) (fun _ h => by cases h) sourceBackUpto_row_tie rfl ⟨rfl, rfl⟩ (by kernel_rfl) rfl (fun f fn hf hfn => ⟨by kernel_rfl, (plain f fn hf hfn).2⟩) (by kernel_rfl)
#print axioms proved
end Go.Proofs.YtdhbgelijjlifaaGreatDoor.sourceBack
