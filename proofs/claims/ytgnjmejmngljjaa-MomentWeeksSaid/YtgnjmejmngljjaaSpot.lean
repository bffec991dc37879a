/- Arguments: a struct of six numbers, by value. -/
import Derived.Test.YtgnjmejmngljjaaFrame
import Derived.Lib.SmallJoins
namespace Go.Proofs.Ytgnjmejmngljjaa
open Go.ChangeShapes Go.WideShapes Go.RowKit Go.Joins Go.Deep

theorem arg_six {H : Type} {enc : TypeId × Value → H} {P : Program} {w : World} {base : Nat} {spare : Nat → Bool} {held : Bool} {r : Reach} {b0 : Nat} {t : TypeId} {f0 f1 f2 f3 f4 f5 : Field} {v : Value} {d : DataW H} {p : List MemPlace}
    (hs : P.underlying t = some (.struct #[f0, f1, f2, f3, f4, f5])) (hone : oneCellFields P #[f0, f1, f2, f3, f4, f5] = true) (hC : P.cellsOf t = 6)
    (hu : ∀ f ∈ [f0, f1, f2, f3, f4, f5], P.underlying f.type = some (.int .i64))
    (hv : Value.okWide P w r b0 t v) (h : DataW.Trod enc P w base spare held t v d p) :
    ∃ a0 a1 a2 a3 a4 a5 : Int, v = .agg #[.int .i64 a0, .int .i64 a1, .int .i64 a2, .int .i64 a3, .int .i64 a4, .int .i64 a5] := by
  obtain ⟨⟨l⟩, rfl, hsz⟩ := okWide_struct hs hv
  obtain ⟨fuel, hf⟩ := h
  obtain ⟨xs, n, _, _, _, hlen, hg⟩ := DataW.trod_struct hs hf
  match l, hsz.trans hC with
  | [c0, c1, c2, c3, c4, c5], _ =>
    have key : ∀ (j : Nat) (f : Field), #[f0, f1, f2, f3, f4, f5][j]? = some f → ∃ a : Int, [c0, c1, c2, c3, c4, c5][j]? = some (.int .i64 a) := by
      intro j f hj
      obtain ⟨o, k⟩ := hone_of hone j f hj
      have hjl : j < 6 := (Array.getElem?_eq_some_iff.1 hj).1
      have h1 := hg j f hj
      rw [o, k] at h1
      have e : List.take 1 (List.drop j [c0, c1, c2, c3, c4, c5]) = [[c0, c1, c2, c3, c4, c5][j]'(by simpa using hjl)] := by
        rw [List.drop_eq_getElem_cons (by simpa using hjl)]; rfl
      have hx : xs[j]? = some (xs[j]'(by rw [hlen]; exact hjl)) := List.getElem?_eq_getElem _
      have h2 := (congrArg (DataW.trod enc P w base spare held n f.type) e.symm).trans (h1.trans hx)
      obtain ⟨z, ez, _, _⟩ := DataW.trod_int (hu f (by have := Array.mem_of_getElem? hj; simpa using this)) h2
      refine ⟨z, ?_⟩
      rw [List.getElem?_eq_getElem (by simpa using hjl)]
      exact congrArg some (List.cons.inj ez).1
    obtain ⟨a0, e0⟩ := key 0 f0 rfl
    obtain ⟨a1, e1⟩ := key 1 f1 rfl
    obtain ⟨a2, e2⟩ := key 2 f2 rfl
    obtain ⟨a3, e3⟩ := key 3 f3 rfl
    obtain ⟨a4, e4⟩ := key 4 f4 rfl
    obtain ⟨a5, e5⟩ := key 5 f5 rfl
    simp at e0 e1 e2 e3 e4 e5
    subst e0 e1 e2 e3 e4 e5
    exact ⟨a0, a1, a2, a3, a4, a5, rfl⟩
end Go.Proofs.Ytgnjmejmngljjaa
