/- Walks of rules: universal times, and the latest turn by them, by the document. -/
import Derived.Test.YtodcgalcpnckaaaRulWalkF
set_option linter.unusedVariables false
set_option linter.unusedSimpArgs false
namespace Go.Proofs.Ytodcgalcpnckaaa
open Go.RowKit

namespace Rul
/-- A turn's universal time. -/
def uniD (l : List Rule) (off : Int) (t : Turn) : Int := if t.r = 2 then t.at' else if t.r = 1 then t.at' - off else t.at' - off - (orNo (aheadD l t.at')).s
def lastP (l : List Rule) (off at0 : Int) (x : Rule) (y : Int) : Bool := turnB x y && decide (uniD l off (turnOf x y) ≤ at0)
def lastOf (l : List Rule) (off at0 : Int) (hi : Int) (x : Rule) : Option Turn := (down (lastP l off at0 x) x.a (min x.b hi)).map (turnOf x)
def lastD (l : List Rule) (off at0 : Int) : Option Turn := latestG (lastOf l off at0 (yearD at0 + 2)) l
end Rul
theorem last_cases (l : List Rule) (off at0 : Int) (x : Rule) (y : Int) : (Rul.turnB x y = false ∧ Rul.lastP l off at0 x y = false) ∨ (Rul.turnB x y = true ∧ at0 < Rul.uniD l off (Rul.turnOf x y) ∧ Rul.lastP l off at0 x y = false ∧ Rul.rturnOf x y = Rul.turnOf x y) ∨
    (Rul.turnB x y = true ∧ Rul.uniD l off (Rul.turnOf x y) ≤ at0 ∧ Rul.lastP l off at0 x y = true ∧ Rul.rturnOf x y = Rul.turnOf x y) := by
  unfold Rul.lastP Rul.rturnOf
  cases h : Rul.turnB x y
  · exact .inl ⟨rfl, rfl⟩
  · right
    by_cases h2 : Rul.uniD l off (Rul.turnOf x y) ≤ at0
    · exact .inr ⟨rfl, h2, by simp [h2], by simp⟩
    · exact .inl ⟨rfl, by omega, by simp [h2], by simp⟩
/-- A turn lies where times lie. -/
theorem turn_bd {x : Rule} {y : Int} (hx : Rul.rightB x = true) (h : Rul.turnB x y = true) : -9000000000000 ≤ (Rul.turnOf x y).at' ∧ (Rul.turnOf x y).at' ≤ 9000000000000 ∧ -43200 ≤ x.s ∧ x.s ≤ 43200 := by
  unfold Rul.turnB at h
  rw [Bool.and_eq_true] at h
  have hb : Mom.onB x.m x.k x.wd x.d x.t x.r y = true := h.1
  obtain ⟨hr, y1, y2, hok, hi⟩ := Mom.onB_all hb
  have hs : -43200 ≤ x.s ∧ x.s ≤ 43200 := by
    unfold Rul.rightB at hx
    simp only [Bool.and_eq_true, decide_eq_true_eq] at hx
    exact hx.2
  have hat : (Rul.turnOf x y).at' = Mom.onI x.m x.k x.wd x.d y * 86400 + x.t := by
    show locV x.m x.k x.wd x.d x.t x.r y = _
    unfold locV; rw [if_pos hb]
  obtain ⟨m1, m2, t1, t2, -, -, hk⟩ := Mom.right_all hr
  obtain ⟨-, n1, n2⟩ := Civ.okD_yes _ _ _ hok
  obtain ⟨l1, l2⟩ := Civ.mlen_bd y x.m
  have hlo : -100000100 ≤ Mom.onI x.m x.k x.wd x.d y := by
    unfold Mom.onI
    have b1 := Mom.back_bd (Civ.num y x.m 1 + Civ.mlen y x.m - 1) x.wd
    have b2 := Mom.back_bd (Civ.num y x.m 1 + x.d + 5) x.wd
    have b3 := Mom.back_bd (Civ.num y x.m 1 + x.d - 1) x.wd
    rcases hk with ⟨h, _⟩ | ⟨h, _⟩ | ⟨h, _⟩ | ⟨h, _⟩
    · rw [Mom.fall_0 h]; omega
    · rw [Mom.fall_1 h]; omega
    · rw [Mom.fall_2 h]; omega
    · rw [Mom.fall_3 h]; omega
  rw [hat]
  omega
/-- What is found came from a rule. -/
theorem latest_of {f : Rule → Option Turn} {p : Turn → Prop} (hf : ∀ (x : Rule) (t : Turn), f x = some t → Rul.rightB x = true → p t) : ∀ (l : List Rule) (q : Option Turn), Rul.allB l = true → (∀ t, q = some t → p t) → ∀ t, l.foldl (fun b x => match f x with | none => b | some t => Rul.upd b t) q = some t → p t := by
  intro l
  induction l with
  | nil => intro q _ hq t ht; exact hq t ht
  | cons x l ih =>
    intro q ha hq
    unfold Rul.allB at ha
    simp only [List.all_cons, Bool.and_eq_true] at ha
    refine ih _ ha.2 ?_
    intro t ht
    dsimp only at ht
    cases hx : f x with
    | none => rw [hx] at ht; exact hq t ht
    | some u =>
      rw [hx] at ht
      simp only at ht
      cases q with
      | none => cases ht; exact hf x _ hx ha.1
      | some b =>
        unfold Rul.upd at ht
        simp only at ht
        split at ht
        · cases ht; exact hf x _ hx ha.1
        · cases ht; exact hq _ rfl
theorem ahead_s {l : List Rule} (hA : Rul.allB l = true) (at0 : Int) : -43200 ≤ (Rul.orNo (Rul.aheadD l at0)).s ∧ (Rul.orNo (Rul.aheadD l at0)).s ≤ 43200 := by
  cases h : Rul.aheadD l at0 with
  | none => exact ⟨by show -43200 ≤ (0 : Int); omega, by show (0 : Int) ≤ 43200; omega⟩
  | some t =>
    refine latest_of (f := Rul.aheadOf at0 (Rul.yearD at0 + 2)) (p := fun t => -43200 ≤ t.s ∧ t.s ≤ 43200) ?_ l none hA (by intro t h; cases h) t h
    intro x t hx hr
    unfold Rul.aheadOf at hx
    obtain ⟨y, -, rfl⟩ := Option.map_eq_some_iff.1 hx
    unfold Rul.rightB at hr
    simp only [Bool.and_eq_true, decide_eq_true_eq] at hr
    exact hr.2
set_option maxRecDepth 100000 in
set_option maxHeartbeats 4000000 in
theorem runi_any (l : List Rule) (n : Nat) (hn : l.length = n) (hA : Rul.allB l = true) (h0 : n ≠ 0) (off : Int) (o1 : -86400 ≤ off) (o2 : off ≤ 86400) (t : Turn) (t1 : -9000000000000 ≤ t.at') (t2 : t.at' ≤ 9000000000000) (v : Value) (w : World) (hr : Reads w v n (ruleRow l)) :
    Rets Try.prog 53 #[v, .int .i64 off, turnV t] w (.int .i64 (Rul.uniD l off t)) := by
  obtain ⟨s1, s2⟩ := ahead_s hA t.at'
  have HA := fun w hr => Lib.hid (rahead_any l n hn hA t.at' (by omega) (by omega) v w hr h0)
  have hc : (t.r = 2 ∧ Rul.uniD l off t = t.at') ∨ ((t.r == 2) = false ∧ t.r = 1 ∧ Rul.uniD l off t = t.at' - off) ∨ ((t.r == 2) = false ∧ (t.r == 1) = false ∧ Rul.uniD l off t = t.at' - off - (Rul.orNo (Rul.aheadD l t.at')).s) := by
    unfold Rul.uniD
    by_cases h2 : t.r = 2
    · exact .inl ⟨h2, if_pos h2⟩
    · by_cases h1 : t.r = 1
      · exact .inr (.inl ⟨by simpa using h2, h1, by rw [if_neg h2, if_pos h1]⟩)
      · exact .inr (.inr ⟨by simpa using h2, by simpa using h1, by rw [if_neg h2, if_neg h1]⟩)
  generalize Rul.uniD l off t = U at *
  generalize (Rul.aheadD l t.at').isSome = fb at *
  generalize Rul.orNo (Rul.aheadD l t.at') = bb at *
  obtain ⟨ta, tr, ts, tl⟩ := t
  obtain ⟨ba, br, bs, bl⟩ := bb
  simp only at hc s1 s2 t1 t2 HA
  unfold Rets
  rcases hc with ⟨rfl, rfl⟩ | ⟨c1, rfl, rfl⟩ | ⟨c1, c2, rfl⟩
  all_goals
    go_enter Try.func53, Try.ntmps53
    go_wp2_with (go_at_call 16; refine Rets.use (HA _ (hr.ext isext)).out ?_; intro _)
    go_ret
    exact ⟨rfl, done⟩
theorem runi_turn (l : List Rule) (n : Nat) (hn : l.length = n) (hA : Rul.allB l = true) (h0 : n ≠ 0) (off : Int) (o1 : -86400 ≤ off) (o2 : off ≤ 86400) (j : Nat) (hj : j < l.length) (y : Int) (h : Rul.turnB l[j] y = true) (v : Value) (w : World) (hr : Reads w v n (ruleRow l)) :
    Rets Try.prog 53 #[v, .int .i64 off, turnV (Rul.turnOf l[j] y)] w (.int .i64 (Rul.uniD l off (Rul.turnOf l[j] y))) := by
  obtain ⟨t1, t2, -, -⟩ := turn_bd (List.all_eq_true.1 hA _ (List.getElem_mem hj)) h
  exact runi_any l n hn hA h0 off o1 o2 _ t1 t2 v w hr
end Go.Proofs.Ytodcgalcpnckaaa
