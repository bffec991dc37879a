/- Walks of rules: the turn ahead of a local time, by the document. -/
import Derived.Test.YtcjnficcggjeiaaDoorRulWalkE
import Derived.Test.YtcjnficcggjeiaaDoorRulPlainB
set_option linter.unusedVariables false
set_option linter.unusedSimpArgs false
namespace Go.Proofs.YtcjnficcggjeiaaDoor
open Go.RowKit

namespace Rul
/-- A rule's latest turn whose time is less. -/
def aheadP (at0 : Int) (x : Rule) (y : Int) : Bool := turnB x y && decide ((turnOf x y).at' < at0)
def aheadOf (at0 : Int) (hi : Int) (x : Rule) : Option Turn := (down (aheadP at0 x) x.a (min x.b hi)).map (turnOf x)
def aheadD (l : List Rule) (at0 : Int) : Option Turn := latestG (aheadOf at0 (yearD at0 + 2)) l
def orNo : Option Turn → Turn
  | none => noTurn
  | some t => t
end Rul
/-- A turn lies in a block. -/
structure Holds4 (W : World) (B : Nat) (t : Turn) : Prop where
  c0 : W.cell? ⟨B, 0, none⟩ = some (.int .i64 t.at')
  c1 : W.cell? ⟨B, 1, none⟩ = some (.int .i64 t.r)
  c2 : W.cell? ⟨B, 2, none⟩ = some (.int .i64 t.s)
  c3 : W.cell? ⟨B, 3, none⟩ = some (.string t.l)
  f0 : W.frozen? ⟨B, 0, none⟩ = false
  f1 : W.frozen? ⟨B, 1, none⟩ = false
  f2 : W.frozen? ⟨B, 2, none⟩ = false
  f3 : W.frozen? ⟨B, 3, none⟩ = false
  lt : B < W.heap.size
theorem Holds4.ext {A W : World} {B : Nat} {t : Turn} (h : Holds4 A B t) (hx : Ext A W) : Holds4 W B t := by
  have k := fun i => Below.cell (p := ⟨B, i, none⟩) hx h.lt
  have f := fun i => Below.frozen (p := ⟨B, i, none⟩) hx h.lt
  exact ⟨(k 0).trans h.c0, (k 1).trans h.c1, (k 2).trans h.c2, (k 3).trans h.c3, (f 0).trans h.f0, (f 1).trans h.f1, (f 2).trans h.f2, (f 3).trans h.f3, Nat.lt_of_lt_of_le h.lt (Below.size hx)⟩
theorem Holds4.alloc {W : World} {B : Nat} {t : Turn} (h : Holds4 W B t) (o : Obj) : Holds4 (W.alloc o) B t := h.ext ((Ext.refl W).alloc o)
theorem Holds4.other {W : World} {B : Nat} {t : Turn} (h : Holds4 W B t) (B' i : Nat) (v : Value) (hne : B' ≠ B) : Holds4 (W.setCell ⟨B', i, none⟩ v) B t := by
  have k : ∀ j, (W.setCell ⟨B', i, none⟩ v).cell? ⟨B, j, none⟩ = W.cell? ⟨B, j, none⟩ := fun j => World.cell?_setCell_far W ⟨B', i, none⟩ ⟨B, j, none⟩ v hne
  have f : ∀ j, (W.setCell ⟨B', i, none⟩ v).frozen? ⟨B, j, none⟩ = W.frozen? ⟨B, j, none⟩ := fun j => World.frozen?_setCell W _ _ _
  exact ⟨(k 0).trans h.c0, (k 1).trans h.c1, (k 2).trans h.c2, (k 3).trans h.c3, (f 0).trans h.f0, (f 1).trans h.f1, (f 2).trans h.f2, (f 3).trans h.f3, by rw [World.size_setCell]; exact h.lt⟩
theorem Holds4.write {W : World} {B : Nat} {t0 : Turn} (h : Holds4 W B t0) (t : Turn) : Holds4 ((((W.setCell ⟨B, 0, none⟩ (.int .i64 t.at')).setCell ⟨B, 1, none⟩ (.int .i64 t.r)).setCell ⟨B, 2, none⟩ (.int .i64 t.s)).setCell ⟨B, 3, none⟩ (.string t.l)) B t := by
  obtain ⟨c0, c1, c2, c3, f0, f1, f2, f3, lt⟩ := h
  have ne : ∀ (V : World) (i j : Nat) (v : Value), i ≠ j → (V.setCell ⟨B, i, none⟩ v).cell? ⟨B, j, none⟩ = V.cell? ⟨B, j, none⟩ := fun V i j v hij => World.cell?_setCell_other V ⟨B, i, none⟩ ⟨B, j, none⟩ v (by simp [hij])
  have eq : ∀ (V : World) (i : Nat) (v u : Value), V.cell? ⟨B, i, none⟩ = some u → (V.setCell ⟨B, i, none⟩ v).cell? ⟨B, i, none⟩ = some v := fun V i v u hu => World.cell?_setCell_same V _ v hu
  refine ⟨?_, ?_, ?_, ?_, ?_, ?_, ?_, ?_, ?_⟩
  · rw [ne _ 3 0 _ (by omega), ne _ 2 0 _ (by omega), ne _ 1 0 _ (by omega)]; exact eq _ _ _ _ c0
  · rw [ne _ 3 1 _ (by omega), ne _ 2 1 _ (by omega)]; exact eq _ _ _ _ ((ne _ 0 1 _ (by omega)).trans c1)
  · rw [ne _ 3 2 _ (by omega)]; exact eq _ _ _ _ (((ne _ 1 2 _ (by omega)).trans (ne _ 0 2 _ (by omega))).trans c2)
  · exact eq _ _ _ _ ((((ne _ 2 3 _ (by omega)).trans (ne _ 1 3 _ (by omega))).trans (ne _ 0 3 _ (by omega))).trans c3)
  all_goals first | (simp only [World.frozen?_setCell]; assumption) | (simp only [World.size_setCell]; exact lt)
theorem all_right {l : List Rule} (h : Rul.allB l = true) {j : Nat} (hj : j < l.length) : 1 ≤ l[j].a ∧ l[j].a ≤ 9999 ∧ 1 ≤ l[j].b ∧ l[j].b ≤ 1000000 := by
  have := List.all_eq_true.1 h _ (List.getElem_mem hj)
  unfold Rul.rightB Rul.yearB at this
  simp only [Bool.and_eq_true, Bool.or_eq_true, decide_eq_true_eq, beq_iff_eq] at this
  omega
theorem dy_bd {n : Int} (h1 : -100000001 ≤ n) (h2 : n ≤ 100000000) : -271821 ≤ Civ.dy n ∧ Civ.dy n ≤ 275760 := by
  obtain ⟨f, e⟩ := Civ.of_ok n
  exact Civ.okD_year _ _ _ (Civ.okD_mk _ _ _ f (by rw [e]; exact h1) (by rw [e]; exact h2))
theorem yearD_bd (t : Int) : -271821 ≤ Rul.yearD t ∧ Rul.yearD t ≤ 275760 := by
  unfold Rul.yearD
  split
  · omega
  · split
    · omega
    · split
      · omega
      · exact dy_bd (by omega) (by omega)
theorem upd_cases (q : Option Turn) (t : Turn) : (q = none ∧ Rul.upd q t = some t) ∨ (q.isSome = true ∧ (Rul.orNo q).at' ≤ t.at' ∧ Rul.upd q t = some t) ∨ (q.isSome = true ∧ decide ((Rul.orNo q).at' ≤ t.at') = false ∧ Rul.upd q t = q) := by
  rcases q with _ | b
  · exact .inl ⟨rfl, rfl⟩
  · right
    by_cases h : b.at' ≤ t.at'
    · exact .inl ⟨rfl, h, by unfold Rul.upd; simp [h]⟩
    · exact .inr ⟨rfl, decide_eq_false h, by unfold Rul.upd; simp [h]⟩
theorem ahead_cases (at0 : Int) (x : Rule) (y : Int) : (Rul.turnB x y = false ∧ Rul.aheadP at0 x y = false) ∨ (Rul.turnB x y = true ∧ at0 ≤ (Rul.turnOf x y).at' ∧ Rul.aheadP at0 x y = false ∧ Rul.rturnOf x y = Rul.turnOf x y) ∨
    (Rul.turnB x y = true ∧ (Rul.turnOf x y).at' < at0 ∧ Rul.aheadP at0 x y = true ∧ Rul.rturnOf x y = Rul.turnOf x y) := by
  unfold Rul.aheadP Rul.rturnOf
  cases h : Rul.turnB x y
  · exact .inl ⟨rfl, rfl⟩
  · right
    by_cases h2 : (Rul.turnOf x y).at' < at0
    · exact .inr ⟨rfl, h2, by simp [h2], by simp⟩
    · exact .inl ⟨rfl, by omega, by simp [h2], by simp⟩
end Go.Proofs.YtcjnficcggjeiaaDoor
