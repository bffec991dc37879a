/- Walks of moments: the day on which a spot falls. -/
import Derived.Test.YtdhbgelijjlifaaGreatDoorMomWalkP
import Derived.Test.YtdhbgelijjlifaaGreatDoorSrcPlainB
import Derived.Test.YtdhbgelijjlifaaGreatDoorCivWalkJ
import Derived.Test.YtdhbgelijjlifaaGreatDoorMomWalkQ
import Derived.Test.YtdhbgelijjlifaaGreatDoorOwns
import Derived.Deep.RegionWith
set_option linter.unusedVariables false
set_option linter.unusedSimpArgs false
namespace Go.Proofs.YtdhbgelijjlifaaGreatDoor
open Go.RowKit
end Go.Proofs.YtdhbgelijjlifaaGreatDoor
namespace Go.Proofs.YtdhbgelijjlifaaGreatDoor
open Go.RowKit
end Go.Proofs.YtdhbgelijjlifaaGreatDoor
namespace Go.Proofs.YtdhbgelijjlifaaGreatDoor
open Go.RowKit
end Go.Proofs.YtdhbgelijjlifaaGreatDoor
namespace Go.Proofs.YtdhbgelijjlifaaGreatDoor
open Go.RowKit
end Go.Proofs.YtdhbgelijjlifaaGreatDoor
namespace Go.Proofs.YtdhbgelijjlifaaGreatDoor
open Go.RowKit
end Go.Proofs.YtdhbgelijjlifaaGreatDoor
namespace Go.Proofs.YtdhbgelijjlifaaGreatDoor
open Go.RowKit
end Go.Proofs.YtdhbgelijjlifaaGreatDoor
namespace Go.Proofs.YtdhbgelijjlifaaGreatDoor
open Go.RowKit
abbrev ruleCells (x : Rule) : List Value := [.string x.nm, .int .i64 x.a, .int .i64 x.b, .int .i64 x.m, .int .i64 x.k, .int .i64 x.wd, .int .i64 x.d, .int .i64 x.t, .int .i64 x.r, .int .i64 x.s, .string x.l]
end Go.Proofs.YtdhbgelijjlifaaGreatDoor
namespace Go.Proofs.YtdhbgelijjlifaaGreatDoor
open Go.RowKit
def ruleRow : List Rule → List Value
 | [] => []
 | x :: l => ruleCells x ++ ruleRow l
theorem ruleRow_at (l : List Rule) : ∀ (i : Nat) (h : i < l.length) (c : Nat) (u : Value), (ruleCells l[i])[c]? = some u → (ruleRow l)[i * 11 + c]? = some u := by
 induction l with
 | nil => intro i h; simp at h
 | cons x l ih =>
   intro i h c u hu
   cases i with
   | zero =>
     have hc : c < (ruleCells x).length := (List.getElem?_eq_some_iff.1 hu).1
     simp only [Nat.zero_mul, Nat.zero_add, ruleRow]
     rw [List.getElem?_append_left hc]; exact hu
   | succ i =>
     have := ih i (by simpa using h) c u hu
     simp only [ruleRow]
     rw [List.getElem?_append_right (by simp; omega)]
     rw [show (i + 1) * 11 + c - (ruleCells x).length = i * 11 + c by simp; omega]
     exact this
theorem rule_at {w : World} {b o : Nat} {l : List Rule} (hc : ∀ i u, (ruleRow l)[i]? = some u → w.cell? ⟨b, o + i, none⟩ = some u) (j : Nat) (h : j < l.length) :
 w.cell? ⟨b, o + j * 11, none⟩ = some (.string l[j].nm) ∧ w.cell? ⟨b, o + j * 11 + 1, none⟩ = some (.int .i64 l[j].a) ∧ w.cell? ⟨b, o + j * 11 + 2, none⟩ = some (.int .i64 l[j].b) ∧ w.cell? ⟨b, o + j * 11 + 3, none⟩ = some (.int .i64 l[j].m) ∧ w.cell? ⟨b, o + j * 11 + 4, none⟩ = some (.int .i64 l[j].k) ∧
 w.cell? ⟨b, o + j * 11 + 5, none⟩ = some (.int .i64 l[j].wd) ∧ w.cell? ⟨b, o + j * 11 + 6, none⟩ = some (.int .i64 l[j].d) ∧ w.cell? ⟨b, o + j * 11 + 7, none⟩ = some (.int .i64 l[j].t) ∧ w.cell? ⟨b, o + j * 11 + 8, none⟩ = some (.int .i64 l[j].r) ∧ w.cell? ⟨b, o + j * 11 + 9, none⟩ = some (.int .i64 l[j].s) ∧ w.cell? ⟨b, o + j * 11 + 10, none⟩ = some (.string l[j].l) := by
 have k := fun c u hu => hc _ _ (ruleRow_at l j h c u hu)
 simp only [← Nat.add_assoc] at k
 exact ⟨k 0 _ rfl, k 1 _ rfl, k 2 _ rfl, k 3 _ rfl, k 4 _ rfl, k 5 _ rfl, k 6 _ rfl, k 7 _ rfl, k 8 _ rfl, k 9 _ rfl, k 10 _ rfl⟩
end Go.Proofs.YtdhbgelijjlifaaGreatDoor
namespace Go.Proofs.YtdhbgelijjlifaaGreatDoor
open Go.RowKit
end Go.Proofs.YtdhbgelijjlifaaGreatDoor
