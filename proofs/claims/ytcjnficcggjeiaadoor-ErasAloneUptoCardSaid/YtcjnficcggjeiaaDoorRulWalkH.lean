/- Walks of rules: universal times, and the latest turn by them, by the document. -/
import Derived.Test.YtcjnficcggjeiaaDoorRulWalkF
set_option linter.unusedVariables false
set_option linter.unusedSimpArgs false
namespace Go.Proofs.YtcjnficcggjeiaaDoor
open Go.RowKit

namespace Rul
/-- A turn's universal time. -/
def uniD (l : List Rule) (off : Int) (t : Turn) : Int := if t.r = 2 then t.at' else if t.r = 1 then t.at' - off else t.at' - off - (orNo (aheadD l t.at')).s
def lastP (l : List Rule) (off at0 : Int) (x : Rule) (y : Int) : Bool := turnB x y && decide (uniD l off (turnOf x y) ≤ at0)
def lastOf (l : List Rule) (off at0 : Int) (hi : Int) (x : Rule) : Option Turn := (down (lastP l off at0 x) x.a (min x.b hi)).map (turnOf x)
def lastD (l : List Rule) (off at0 : Int) : Option Turn := latestG (lastOf l off at0 (yearD at0 + 2)) l
end Rul
theorem last_cases (l : List Rule) (off at0 : Int) (x : Rule) (y : Int) : (Rul.turnB x y = false ∧ Rul.lastP l off at0 x y = false) ∨ (Rul.turnB x y = true ∧ at0 < Rul.uniD l off (Rul.turnOf x y) ∧ Rul.lastP l off at0 x y = false ∧ Rul.rturnOf x y = Rul.turnOf x y) ∨
    (Rul.turnB x y = true ∧ Rul.uniD l off (Rul.turnOf x y) ≤ at0 ∧ Rul.lastP l off at0 x y = true ∧ Rul.rturnOf x y = Rul.turnOf x y) := by
  unfold Rul.lastP Rul.rturnOf
  cases h : Rul.turnB x y
  · exact .inl ⟨rfl, rfl⟩
  · right
    by_cases h2 : Rul.uniD l off (Rul.turnOf x y) ≤ at0
    · exact .inr ⟨rfl, h2, by simp [h2], by simp⟩
    · exact .inl ⟨rfl, by omega, by simp [h2], by simp⟩
/-- A turn lies where times lie. -/
theorem turn_bd {x : Rule} {y : Int} (hx : Rul.rightB x = true) (h : Rul.turnB x y = true) : -9000000000000 ≤ (Rul.turnOf x y).at' ∧ (Rul.turnOf x y).at' ≤ 9000000000000 ∧ -43200 ≤ x.s ∧ x.s ≤ 43200 := by
  unfold Rul.turnB at h
  rw [Bool.and_eq_true] at h
  have hb : Mom.onB x.m x.k x.wd x.d x.t x.r y = true := h.1
  obtain ⟨hr, y1, y2, hok, hi⟩ := Mom.onB_all hb
  have hs : -43200 ≤ x.s ∧ x.s ≤ 43200 := by
    unfold Rul.rightB at hx
    simp only [Bool.and_eq_true, decide_eq_true_eq] at hx
    exact hx.2
  have hat : (Rul.turnOf x y).at' = Mom.onI x.m x.k x.wd x.d y * 86400 + x.t := by
    show locV x.m x.k x.wd x.d x.t x.r y = _
    unfold locV; rw [if_pos hb]
  obtain ⟨m1, m2, t1, t2, -, -, hk⟩ := Mom.right_all hr
  obtain ⟨-, n1, n2⟩ := Civ.okD_yes _ _ _ hok
  obtain ⟨l1, l2⟩ := Civ.mlen_bd y x.m
  have hlo : -100000100 ≤ Mom.onI x.m x.k x.wd x.d y := by
    unfold Mom.onI
    have b1 := Mom.back_bd (Civ.num y x.m 1 + Civ.mlen y x.m - 1) x.wd
    have b2 := Mom.back_bd (Civ.num y x.m 1 + x.d + 5) x.wd
    have b3 := Mom.back_bd (Civ.num y x.m 1 + x.d - 1) x.wd
    rcases hk with ⟨h, _⟩ | ⟨h, _⟩ | ⟨h, _⟩ | ⟨h, _⟩
    · rw [Mom.fall_0 h]; omega
    · rw [Mom.fall_1 h]; omega
    · rw [Mom.fall_2 h]; omega
    · rw [Mom.fall_3 h]; omega
  rw [hat]
  omega
/-- What is found came from a rule. -/
theorem latest_of {f : Rule → Option Turn} {p : Turn → Prop} (hf : ∀ (x : Rule) (t : Turn), f x = some t → Rul.rightB x = true → p t) : ∀ (l : List Rule) (q : Option Turn), Rul.allB l = true → (∀ t, q = some t → p t) → ∀ t, l.foldl (fun b x => match f x with | none => b | some t => Rul.upd b t) q = some t → p t := by
  intro l
  induction l with
  | nil => intro q _ hq t ht; exact hq t ht
  | cons x l ih =>
    intro q ha hq
    unfold Rul.allB at ha
    simp only [List.all_cons, Bool.and_eq_true] at ha
    refine ih _ ha.2 ?_
    intro t ht
    dsimp only at ht
    cases hx : f x with
    | none => rw [hx] at ht; exact hq t ht
    | some u =>
      rw [hx] at ht
      simp only at ht
      cases q with
      | none => cases ht; exact hf x _ hx ha.1
      | some b =>
        unfold Rul.upd at ht
        simp only at ht
        split at ht
        · cases ht; exact hf x _ hx ha.1
        · cases ht; exact hq _ rfl
theorem ahead_s {l : List Rule} (hA : Rul.allB l = true) (at0 : Int) : -43200 ≤ (Rul.orNo (Rul.aheadD l at0)).s ∧ (Rul.orNo (Rul.aheadD l at0)).s ≤ 43200 := by
  cases h : Rul.aheadD l at0 with
  | none => exact ⟨by show -43200 ≤ (0 : Int); omega, by show (0 : Int) ≤ 43200; omega⟩
  | some t =>
    refine latest_of (f := Rul.aheadOf at0 (Rul.yearD at0 + 2)) (p := fun t => -43200 ≤ t.s ∧ t.s ≤ 43200) ?_ l none hA (by intro t h; cases h) t h
    intro x t hx hr
    unfold Rul.aheadOf at hx
    obtain ⟨y, -, rfl⟩ := Option.map_eq_some_iff.1 hx
    unfold Rul.rightB at hr
    simp only [Bool.and_eq_true, decide_eq_true_eq] at hr
    exact hr.2
end Go.Proofs.YtcjnficcggjeiaaDoor
set_option linter.unusedVariables false
set_option linter.unusedSimpArgs false
namespace Go.Proofs.YtcjnficcggjeiaaDoor
open Go.RowKit

end Go.Proofs.YtcjnficcggjeiaaDoor
