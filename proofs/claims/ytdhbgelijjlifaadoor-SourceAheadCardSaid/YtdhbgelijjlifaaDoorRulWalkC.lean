/- Walks of moments: the day on which a spot falls. -/
import Derived.Test.YtdhbgelijjlifaaDoorMomWalkP
import Derived.Test.YtdhbgelijjlifaaDoorSrcPlainB
import Derived.Test.YtdhbgelijjlifaaDoorCivWalkJ
import Derived.Test.YtdhbgelijjlifaaDoorMomWalkQ
import Derived.Test.YtdhbgelijjlifaaDoorOwns
import Derived.Deep.RegionWith
set_option linter.unusedVariables false
set_option linter.unusedSimpArgs false
namespace Go.Proofs.YtdhbgelijjlifaaDoor
open Go.RowKit

abbrev monthA (f len : Int) : Value := .agg #[.int .i64 f, .int .i64 len]
end Go.Proofs.YtdhbgelijjlifaaDoor
set_option linter.unusedVariables false
set_option linter.unusedSimpArgs false
namespace Go.Proofs.YtdhbgelijjlifaaDoor
open Go.RowKit

end Go.Proofs.YtdhbgelijjlifaaDoor
set_option linter.unusedVariables false
set_option linter.unusedSimpArgs false
namespace Go.Proofs.YtdhbgelijjlifaaDoor
open Go.RowKit

theorem on_cases (m k wd d t r y : Int) : ((Mom.rightB m k wd d t r = false ∨ (Mom.rightB m k wd d t r = true ∧ y < 1) ∨ (Mom.rightB m k wd d t r = true ∧ decide (y < 1) = false ∧ 300000 < y) ∨ (Mom.rightB m k wd d t r = true ∧ decide (y < 1) = false ∧ decide (300000 < y) = false ∧ Civ.okD y m 1 = false)) ∧ Mom.onB m k wd d t r y = false) ∨
    (Mom.rightB m k wd d t r = true ∧ 1 ≤ y ∧ y ≤ 300000 ∧ Civ.okD y m 1 = true) := by
  cases h1 : Mom.rightB m k wd d t r
  · exact .inl ⟨.inl rfl, Mom.onB_right h1⟩
  · by_cases h2 : y < 1
    · exact .inl ⟨.inr (.inl ⟨rfl, h2⟩), Mom.onB_year (.inl h2)⟩
    · by_cases h3 : 300000 < y
      · exact .inl ⟨.inr (.inr (.inl ⟨rfl, decide_eq_false h2, h3⟩)), Mom.onB_year (.inr h3)⟩
      · cases h4 : Civ.okD y m 1
        · exact .inl ⟨.inr (.inr (.inr ⟨rfl, decide_eq_false h2, decide_eq_false h3, rfl⟩)), Mom.onB_day h4⟩
        · exact .inr ⟨rfl, by omega, by omega, rfl⟩
theorem on_end {m k wd d t r y : Int} (h1 : Mom.rightB m k wd d t r = true) (h2 : 1 ≤ y) (h3 : y ≤ 300000) (h4 : Civ.okD y m 1 = true) :
    (Mom.onB m k wd d t r y = true ∧ Mom.onV m k wd d t r y = Mom.onI m k wd d y ∧ Mom.onI m k wd d y ≤ 100000000) ∨ (Mom.onB m k wd d t r y = false ∧ Mom.onV m k wd d t r y = 0 ∧ 100000000 < Mom.onI m k wd d y) := by
  by_cases h : Mom.onI m k wd d y ≤ 100000000
  · have e := Mom.onB_yes h1 h2 h3 h4 h
    exact .inl ⟨e, Mom.onV_yes e, h⟩
  · have e := Mom.onB_end (m := m) (k := k) (wd := wd) (d := d) (t := t) (r := r) (y := y) (by omega)
    exact .inr ⟨e, Mom.onV_no e, by omega⟩
end Go.Proofs.YtdhbgelijjlifaaDoor
set_option linter.unusedVariables false
set_option linter.unusedSimpArgs false
namespace Go.Proofs.YtdhbgelijjlifaaDoor
open Go.RowKit

theorem seven_eq {n wd Q : Int} (hq : (n + 3) / 7 = Q) : ((n + 3) % 7 + 1 = wd → (n + 3 - 7 * Q + 1 != wd) = false) ∧ ((n + 3) % 7 + 1 ≠ wd → (n + 3 - 7 * Q + 1 != wd) = true) := by
  constructor
  · intro h; rw [bne_eq_false_iff_eq]; omega
  · intro h; rw [bne_iff_ne]; omega
end Go.Proofs.YtdhbgelijjlifaaDoor
set_option linter.unusedVariables false
set_option linter.unusedSimpArgs false
namespace Go.Proofs.YtdhbgelijjlifaaDoor
open Go.RowKit

end Go.Proofs.YtdhbgelijjlifaaDoor
set_option linter.unusedVariables false
set_option linter.unusedSimpArgs false
namespace Go.Proofs.YtdhbgelijjlifaaDoor
open Go.RowKit

theorem on_bd {m k wd d t r y : Int} (h : Mom.onB m k wd d t r y = true) : -1000000000 ≤ Mom.onI m k wd d y ∧ Mom.onI m k wd d y ≤ 100000000 ∧ -604799 ≤ t ∧ t ≤ 604799 := by
  obtain ⟨h1, h2, h3, h4, h5⟩ := Mom.onB_all h
  obtain ⟨m1, m2, t1, t2, -, -, hk⟩ := Mom.right_all h1
  obtain ⟨n1, n2⟩ := num_bd y m 1 (by omega) (by omega) m1 m2 (by omega) (by omega)
  obtain ⟨l1, l2⟩ := Civ.mlen_bd y m
  refine ⟨?_, h5, t1, t2⟩
  unfold Mom.onI
  generalize Civ.num y m 1 = F at *
  generalize Civ.mlen y m = L at *
  rcases hk with ⟨rfl, k2⟩ | ⟨rfl, k2⟩ | ⟨rfl, k2⟩ | ⟨rfl, k2⟩
  · rw [Mom.fall_0 rfl]; omega
  · rw [Mom.fall_1 rfl]; have := Mom.back_bd (F + L - 1) wd; omega
  · rw [Mom.fall_2 rfl]; have := Mom.back_bd (F + d + 5) wd; omega
  · rw [Mom.fall_3 rfl]; have := Mom.back_bd (F + d - 1) wd; omega
def locV (m k wd d t r y : Int) : Int := if Mom.onB m k wd d t r y = true then Mom.onI m k wd d y * 86400 + t else 0
end Go.Proofs.YtdhbgelijjlifaaDoor
set_option linter.unusedVariables false
set_option linter.unusedSimpArgs false
namespace Go.Proofs.YtdhbgelijjlifaaDoor
open Go.RowKit

abbrev ruleCells (x : Rule) : List Value := [.string x.nm, .int .i64 x.a, .int .i64 x.b, .int .i64 x.m, .int .i64 x.k, .int .i64 x.wd, .int .i64 x.d, .int .i64 x.t, .int .i64 x.r, .int .i64 x.s, .string x.l]
abbrev ruleV (x : Rule) : Value := .agg (ruleCells x).toArray
abbrev turnCells (x : Turn) : List Value := [.int .i64 x.at', .int .i64 x.r, .int .i64 x.s, .string x.l]
abbrev turnV (x : Turn) : Value := .agg (turnCells x).toArray
theorem rule_cases (x : Rule) : (Rul.yearB x.a = false ∧ Rul.rightB x = false) ∨
    (Rul.yearB x.a = true ∧ Rul.yearB x.b = false ∧ (x.b == 1000000) = false ∧ Rul.rightB x = false) ∨
    (Rul.yearB x.a = true ∧ (Rul.yearB x.b = true ∨ (Rul.yearB x.b = false ∧ x.b = 1000000)) ∧
      ((Rul.spotB x = false ∧ Rul.rightB x = false) ∨ (Rul.spotB x = true ∧ decide (-43200 ≤ x.s) = false ∧ Rul.rightB x = false) ∨ (Rul.spotB x = true ∧ -43200 ≤ x.s ∧ decide (x.s ≤ 43200) = false ∧ Rul.rightB x = false) ∨ (Rul.spotB x = true ∧ -43200 ≤ x.s ∧ x.s ≤ 43200 ∧ Rul.rightB x = true))) := by
  unfold Rul.rightB
  cases h1 : Rul.yearB x.a
  · exact .inl ⟨rfl, rfl⟩
  · right
    have hb : (Rul.yearB x.b = false ∧ (x.b == 1000000) = false) ∨ (Rul.yearB x.b = true ∨ (Rul.yearB x.b = false ∧ x.b = 1000000)) := by
      cases h2 : Rul.yearB x.b
      · by_cases h3 : x.b = 1000000
        · exact .inr (.inr ⟨rfl, h3⟩)
        · exact .inl ⟨rfl, by simpa using h3⟩
      · exact .inr (.inl rfl)
    rcases hb with ⟨h2, h3⟩ | hb
    · exact .inl ⟨rfl, h2, h3, by rw [h2, h3]; rfl⟩
    · right
      have e : (Rul.yearB x.b || x.b == 1000000) = true := by
        rcases hb with h | ⟨h, h2⟩
        · rw [h]; rfl
        · rw [h2]; simp
      refine ⟨rfl, hb, ?_⟩
      rw [e]
      cases h4 : Rul.spotB x
      · exact .inl ⟨rfl, rfl⟩
      · right
        by_cases h5 : -43200 ≤ x.s
        · right
          by_cases h6 : x.s ≤ 43200
          · exact .inr ⟨rfl, h5, h6, by simp [h5, h6]⟩
          · exact .inl ⟨rfl, h5, decide_eq_false h6, by simp [h6]⟩
        · exact .inl ⟨rfl, decide_eq_false h5, by simp [h5]⟩
end Go.Proofs.YtdhbgelijjlifaaDoor
set_option linter.unusedVariables false
set_option linter.unusedSimpArgs false
namespace Go.Proofs.YtdhbgelijjlifaaDoor
open Go.RowKit

/-- The cells of some rules. -/
def ruleRow : List Rule → List Value
  | [] => []
  | x :: l => ruleCells x ++ ruleRow l
theorem ruleRow_at (l : List Rule) : ∀ (i : Nat) (h : i < l.length) (c : Nat) (u : Value), (ruleCells l[i])[c]? = some u → (ruleRow l)[i * 11 + c]? = some u := by
  induction l with
  | nil => intro i h; simp at h
  | cons x l ih =>
    intro i h c u hu
    cases i with
    | zero =>
      have hc : c < (ruleCells x).length := (List.getElem?_eq_some_iff.1 hu).1
      simp only [Nat.zero_mul, Nat.zero_add, ruleRow]
      rw [List.getElem?_append_left hc]; exact hu
    | succ i =>
      have := ih i (by simpa using h) c u hu
      simp only [ruleRow]
      rw [List.getElem?_append_right (by simp; omega)]
      rw [show (i + 1) * 11 + c - (ruleCells x).length = i * 11 + c by simp; omega]
      exact this
/-- What a slice of rules holds at a place. -/
theorem rule_at {w : World} {b o : Nat} {l : List Rule} (hc : ∀ i u, (ruleRow l)[i]? = some u → w.cell? ⟨b, o + i, none⟩ = some u) (j : Nat) (h : j < l.length) :
    w.cell? ⟨b, o + j * 11, none⟩ = some (.string l[j].nm) ∧ w.cell? ⟨b, o + j * 11 + 1, none⟩ = some (.int .i64 l[j].a) ∧ w.cell? ⟨b, o + j * 11 + 2, none⟩ = some (.int .i64 l[j].b) ∧ w.cell? ⟨b, o + j * 11 + 3, none⟩ = some (.int .i64 l[j].m) ∧ w.cell? ⟨b, o + j * 11 + 4, none⟩ = some (.int .i64 l[j].k) ∧
    w.cell? ⟨b, o + j * 11 + 5, none⟩ = some (.int .i64 l[j].wd) ∧ w.cell? ⟨b, o + j * 11 + 6, none⟩ = some (.int .i64 l[j].d) ∧ w.cell? ⟨b, o + j * 11 + 7, none⟩ = some (.int .i64 l[j].t) ∧ w.cell? ⟨b, o + j * 11 + 8, none⟩ = some (.int .i64 l[j].r) ∧ w.cell? ⟨b, o + j * 11 + 9, none⟩ = some (.int .i64 l[j].s) ∧ w.cell? ⟨b, o + j * 11 + 10, none⟩ = some (.string l[j].l) := by
  have k := fun c u hu => hc _ _ (ruleRow_at l j h c u hu)
  simp only [← Nat.add_assoc] at k
  exact ⟨k 0 _ rfl, k 1 _ rfl, k 2 _ rfl, k 3 _ rfl, k 4 _ rfl, k 5 _ rfl, k 6 _ rfl, k 7 _ rfl, k 8 _ rfl, k 9 _ rfl, k 10 _ rfl⟩
/-- Which one may not be: the first's place; -1: all may. -/
def badI : List Rule → Nat → Int
  | [], _ => -1
  | x :: l, k => if Rul.rightB x = true then badI l (k + 1) else k
theorem badI_all (l : List Rule) : ∀ k, decide (0 ≤ badI l k) = !Rul.allB l := by
  induction l with
  | nil => intro k; rfl
  | cons x l ih =>
    intro k
    unfold badI Rul.allB
    cases h : Rul.rightB x
    · simp [h]
    · simp only [if_true, List.all_cons, h, Bool.true_and]; exact ih (k + 1)
theorem badI_yes {x : Rule} {l : List Rule} {k : Nat} (h : Rul.rightB x = true) : badI (x :: l) k = badI l (k + 1) := if_pos h
theorem badI_no {x : Rule} {l : List Rule} {k : Nat} (h : Rul.rightB x = false) : badI (x :: l) k = k := if_neg (by rw [h]; simp)
theorem badI_bd (l : List Rule) : ∀ k : Nat, -1 ≤ badI l k ∧ badI l k < k + l.length + 1 := by
  induction l with
  | nil => intro k; simp [badI]; omega
  | cons x l ih =>
    intro k
    have := ih (k + 1)
    unfold badI
    split
    · simp; omega
    · simp; omega
end Go.Proofs.YtdhbgelijjlifaaDoor
set_option linter.unusedVariables false
set_option linter.unusedSimpArgs false
namespace Go.Proofs.YtdhbgelijjlifaaDoor
open Go.RowKit

theorem rrule_cases (x : Rule) : (Rul.rightB x = false ∧ (x.a < 1 ∨ (decide (x.a < 1) = false ∧ 9999 < x.a) ∨ (decide (x.a < 1) = false ∧ decide (9999 < x.a) = false ∧ x.b < 1) ∨
      (decide (x.a < 1) = false ∧ decide (9999 < x.a) = false ∧ decide (x.b < 1) = false ∧ 9999 < x.b ∧ (x.b != 1000000) = true))) ∨
    (decide (x.a < 1) = false ∧ decide (9999 < x.a) = false ∧ ((decide (x.b < 1) = false ∧ decide (9999 < x.b) = false) ∨ x.b = 1000000) ∧
      ((Rul.spotB x = false ∧ Rul.rightB x = false) ∨ (Rul.spotB x = true ∧ 43200 < x.s ∧ Rul.rightB x = false) ∨ (Rul.spotB x = true ∧ decide (43200 < x.s) = false ∧ x.s < -43200 ∧ Rul.rightB x = false) ∨
        (Rul.spotB x = true ∧ decide (43200 < x.s) = false ∧ decide (x.s < -43200) = false ∧ Rul.rightB x = true))) := by
  unfold Rul.rightB Rul.yearB
  by_cases h1 : x.a < 1
  · exact .inl ⟨by simp; omega, .inl h1⟩
  by_cases h2 : 9999 < x.a
  · exact .inl ⟨by simp; omega, .inr (.inl ⟨decide_eq_false h1, h2⟩)⟩
  by_cases h3 : x.b < 1
  · exact .inl ⟨by simp; omega, .inr (.inr (.inl ⟨decide_eq_false h1, decide_eq_false h2, h3⟩))⟩
  by_cases h4 : 9999 < x.b ∧ x.b ≠ 1000000
  · exact .inl ⟨by simp; omega, .inr (.inr (.inr ⟨decide_eq_false h1, decide_eq_false h2, decide_eq_false h3, h4.1, by simpa using h4.2⟩))⟩
  right
  refine ⟨decide_eq_false h1, decide_eq_false h2, ?_, ?_⟩
  · by_cases h5 : x.b = 1000000
    · exact .inr h5
    · exact .inl ⟨decide_eq_false h3, decide_eq_false (by omega)⟩
  · have e : (decide (1 ≤ x.a ∧ x.a ≤ 9999) && (decide (1 ≤ x.b ∧ x.b ≤ 9999) || x.b == 1000000)) = true := by simp; omega
    rw [e]
    cases h6 : Rul.spotB x
    · exact .inl ⟨rfl, rfl⟩
    · right
      by_cases h7 : 43200 < x.s
      · exact .inl ⟨rfl, h7, by simp; omega⟩
      · right
        by_cases h8 : x.s < -43200
        · exact .inl ⟨rfl, decide_eq_false h7, h8, by simp; omega⟩
        · exact .inr ⟨rfl, decide_eq_false h7, decide_eq_false h8, by simp; omega⟩
theorem allB_split (l : List Rule) (j : Nat) (h : j < l.length) (hp : Rul.allB (l.take j) = true) : (Rul.rightB l[j] = false → Rul.allB l = false) ∧ (Rul.rightB l[j] = true → Rul.allB (l.take (j + 1)) = true) := by
  unfold Rul.allB at *
  constructor
  · intro hb
    rw [Bool.eq_false_iff]; intro ha
    have := List.all_eq_true.1 ha _ (List.getElem_mem h)
    rw [hb] at this; cases this
  · intro hb
    rw [List.take_succ_eq_append_getElem h, List.all_append, hp]; simp [hb]
end Go.Proofs.YtdhbgelijjlifaaDoor
