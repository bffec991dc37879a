/- From a walk's end to the row's end: a law that returns true and has at most made memory. -/
import Derived.Test.YtdhbgelijjlifaaGreatDoorRows
import Derived.Test.YtdhbgelijjlifaaGreatDoorOwns
import Derived.ProofKit
import Derived.OpenShut
import Derived.OpenVars
import Derived.Lib.SmallJoins
set_option linter.unusedVariables false
set_option linter.unusedSimpArgs false
namespace Go.Proofs.YtdhbgelijjlifaaGreatDoor
open Go.ChangeShapes Go.WideShapes Go.ChangeAt Go.RowKit Go.Joins
theorem Tryz.own : ownKnob Tryz.prog.godebug = none := by kernel_rfl
theorem Tryz.laidOut : laidOutB Tryz.prog = true := by kernel_rfl
def rowed (P : Program) (ts : List TypeId) : Bool := ts.all fun t => P.readableRec t && decide (t < P.types.size)
theorem trodAll_ext {H : Type} {enc : TypeId × Value → H} {P : Program} (hl : laidOutB P = true) {W W' : World} (hx : Ext W W') :
 ∀ {ts : List TypeId} {vs : List Value} {ds : List (DataW H)} {ps : List MemPlace}, rowed P ts = true → DataW.TrodAll enc P W 0 (fun _ => true) true ts vs ds ps → (∀ x ∈ ps, x.block < W.heap.size) →
   DataW.TrodAll enc P W' 0 (fun b => decide (b < W.heap.size)) true ts vs ds ps
 | [], [], [], _, _, h, _ => h
 | [], _ :: _, _, _, _, h, _ => h.elim
 | [], [], _ :: _, _, _, h, _ => h.elim
 | _ :: _, [], _, _, _, h, _ => h.elim
 | _ :: _, _ :: _, [], _, _, h, _ => h.elim
 | t :: ts, v :: vs, d :: ds, ps, hr, h, hlt => by
   obtain ⟨p, q, h1, h2, e⟩ := h
   simp only [rowed, List.all_cons, Bool.and_eq_true] at hr
   refine ⟨p, q, Below.trod hl hr.1.1 (of_decide_eq_true hr.1.2) h1 hx (fun x hp => hlt x (by rw [e]; simp [hp])), trodAll_ext hl hx (by simpa [rowed] using hr.2) h2 (fun x hp => hlt x (by rw [e]; simp [hp])), e⟩
theorem post_law {H : Type} {enc : TypeId × Value → H} {P : Program} {f : Func} {s : ChangeSpec} {apart fresh handsOn : Bool} {W W' : World} {args : Array Value} {ds gs : List (DataW H)} {before : List MemPlace} {tb : TypeId}
 (hl : laidOutB P = true) (hres : f.resultTypes = #[tb]) (hb : P.underlying tb = some .bool) (hts : rowed P f.params.toList = true) (hvs : varsRowed P s.vars = true)
 (hW : DataW.Whole enc P f.params.toList s.vars apart W args.toList ds gs before) (hx : Ext W W')
 (hr : (s.fn H (ds ++ gs)).results = [.lit (.bool true)]) (ha : (s.fn H (ds ++ gs)).args = ds) (hv : (s.fn H (ds ++ gs)).vars = gs) :
 s.post enc P f apart fresh handsOn false W args (.bool true) W' := by
 have hlt := hW.lt
 have hW0 := hW
 obtain ⟨p, q, h1, h2, e, hz, hn⟩ := hW
 refine ⟨ds, gs, before, [], p, q, hW0, ?_, ?_, ?_, ?_, fun h => by cases h⟩
 · rw [hr, hres]
   exact trodAll_mk1 (shut_bool hb true)
 · rw [ha]
   exact trodAll_ext hl hx hts h1 (fun x hp => hlt x (by rw [e]; simp [hp]))
 · rw [hv]
   exact Below.trodVars hl hx hvs h2
 · exact World.keptBut_mono (fun _ h => h) (Below.frame hx _)
end Go.Proofs.YtdhbgelijjlifaaGreatDoor
