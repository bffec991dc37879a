/- Rules as arguments: a slice of rules that reads; the laws' walks as the rows ask them. -/
import Derived.Test.YtodcgalcpnckaaaLeaves
import Derived.Test.YtodcgalcpnckaaaRulWalkW
set_option linter.unusedVariables false
set_option linter.unusedSimpArgs false
namespace Go.Proofs.Ytodcgalcpnckaaa
open Go.ChangeShapes Go.WideShapes Go.ChangeAt Go.RowKit Go.Joins Go.Deep

theorem i64_wf {x : Int} (h : (Lit.int .i64 x).wf = true) : -9223372036854775808 ≤ x ∧ x ≤ 9223372036854775807 := by
  have h1 : IntKind.i64.min = -9223372036854775808 := rfl
  have h2 : IntKind.i64.max = 9223372036854775807 := rfl
  simp [Lit.wf, h1, h2] at h; omega
theorem rule_leaves : leaves Try.prog 5 43 = some [9, 3, 3, 3, 3, 3, 3, 3, 3, 3, 9] := by kernel_rfl
theorem arg_rules {H : Type} {enc : TypeId × Value → H} {w : World} {held : Bool} {v : Value} {d : DataW H} {p : List MemPlace} {r : Reach} {b0 : Nat}
    (hval : Value.okWide Try.prog w r b0 22 v) (h : DataW.Trod enc Try.prog w 0 (fun _ => true) held 22 v d p) :
    ∃ (l : List Rule) (n : Nat), l.length = n ∧ Reads w v n (ruleRow l) := by
  obtain ⟨l, n, hn, _, hr⟩ := arg_rows Try.underlying22 11 (by kernel_rfl) (by omega) hval h (fun x : Rule => ruleCells x) (fun _ => True) (fun _ => rfl) (by
    intro m cs x hx hl
    have L := leaves_read 5 _ _ m cs x rule_leaves hx
    obtain ⟨a0, e0, -⟩ := L.str 0 _ rfl Try.underlying9
    obtain ⟨a1, e1, -⟩ := L.int 1 _ _ rfl Try.underlying3
    obtain ⟨a2, e2, -⟩ := L.int 2 _ _ rfl Try.underlying3
    obtain ⟨a3, e3, -⟩ := L.int 3 _ _ rfl Try.underlying3
    obtain ⟨a4, e4, -⟩ := L.int 4 _ _ rfl Try.underlying3
    obtain ⟨a5, e5, -⟩ := L.int 5 _ _ rfl Try.underlying3
    obtain ⟨a6, e6, -⟩ := L.int 6 _ _ rfl Try.underlying3
    obtain ⟨a7, e7, -⟩ := L.int 7 _ _ rfl Try.underlying3
    obtain ⟨a8, e8, -⟩ := L.int 8 _ _ rfl Try.underlying3
    obtain ⟨a9, e9, -⟩ := L.int 9 _ _ rfl Try.underlying3
    obtain ⟨a10, e10, -⟩ := L.str 10 _ rfl Try.underlying9
    match cs, hl with
    | [c0, c1, c2, c3, c4, c5, c6, c7, c8, c9, c10], _ =>
      simp at e0 e1 e2 e3 e4 e5 e6 e7 e8 e9 e10
      subst e0 e1 e2 e3 e4 e5 e6 e7 e8 e9 e10
      exact ⟨⟨a0, a1, a2, a3, a4, a5, a6, a7, a8, a9, a10⟩, rfl, trivial⟩)
  exact ⟨l, n, hn, hr ruleRow rfl (fun _ _ => rfl)⟩
theorem aheadlaw_row (l : List Rule) (n : Nat) (hn : l.length = n) (v : Value) (t : Int) (ht : (Lit.int .i64 t).wf = true) (w : World) (hr : Reads w v n (ruleRow l)) : Rets Try.prog 4 #[v, .int .i64 t] w (.bool true) :=
  aheadlaw_any l n hn v t (i64_wf ht).1 (i64_wf ht).2 w hr
theorem forcelaw_row (l : List Rule) (n : Nat) (hn : l.length = n) (v : Value) (off t : Int) (ho : (Lit.int .i64 off).wf = true) (ht : (Lit.int .i64 t).wf = true) (w : World) (hr : Reads w v n (ruleRow l)) : Rets Try.prog 5 #[v, .int .i64 off, .int .i64 t] w (.bool true) :=
  forcelaw_any l n hn v off t (i64_wf ht).1 (i64_wf ht).2 w hr
end Go.Proofs.Ytodcgalcpnckaaa
