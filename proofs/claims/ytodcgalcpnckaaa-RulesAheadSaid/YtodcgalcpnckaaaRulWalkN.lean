/- Walks of rules: a turn's universal time, by the program. -/
import Derived.Test.YtodcgalcpnckaaaRulWalkM
import Derived.Test.YtodcgalcpnckaaaRulWalkG
set_option linter.unusedVariables false
set_option linter.unusedSimpArgs false
namespace Go.Proofs.Ytodcgalcpnckaaa
open Go.RowKit Go.Shelf

namespace Rul
/-- A turn's universal time, by the program. -/
def uniG (l : List Rule) (off : Int) (t : Turn) : Int := if t.r = 2 then t.at' else if t.r = 0 then t.at' - off - (orNo (aheadG l t.at')).s else t.at' - off
def okT (u : Turn) : Prop := -9000000000000 ≤ u.at' ∧ u.at' ≤ 9000000000000
instance (u : Turn) : Decidable (okT u) := by unfold okT; infer_instance
end Rul
theorem aheadG_s {l : List Rule} (hA : Rul.allB l = true) (at0 : Int) : -43200 ≤ (Rul.orNo (Rul.aheadG l at0)).s ∧ (Rul.orNo (Rul.aheadG l at0)).s ≤ 43200 := by
  cases h : Rul.aheadG l at0 with
  | none => exact ⟨by show -43200 ≤ (0 : Int); omega, by show (0 : Int) ≤ 43200; omega⟩
  | some t =>
    refine latest_of (f := fun x => (Rul.backs x (Rul.yearP at0)).find? (fun u => decide (u.at' < at0))) (p := fun t => -43200 ≤ t.s ∧ t.s ≤ 43200) ?_ l none hA (by intro t h; cases h) t h
    intro x t hx hr
    obtain ⟨y', e1, e2⟩ := Rul.back_mem _ _ t (List.mem_of_find?_eq_some hx)
    rw [e2]
    unfold Rul.rightB at hr
    simp only [Bool.and_eq_true, decide_eq_true_eq] at hr
    exact hr.2
set_option maxRecDepth 100000 in
set_option maxHeartbeats 4000000 in
theorem uni_any (l : List Rule) (k : Nat) (hk : l.length = k) (hA : Rul.allB l = true) (off T : Int) (o1 : -86400 ≤ off) (o2 : off ≤ 86400) (u : Turn) (hu : Rul.okT u) (Bo Bl Bt : Nat) (v : Value) (V : World) (hr : Reads V v k (ruleRow l))
    (hBo : V.cell? ⟨Bo, 0, none⟩ = some (.int .i64 off)) (hBl : V.cell? ⟨Bl, 0, none⟩ = some v) (hBt : V.cell? ⟨Bt, 0, none⟩ = some (.int .i64 T)) (l1 : Bo < V.heap.size) (l2 : Bl < V.heap.size) (l3 : Bt < V.heap.size) :
    Rets Try.prog 38 #[turnV u, .pointer (some ⟨Bo, 0, none⟩), .pointer (some ⟨Bl, 0, none⟩), .pointer (some ⟨Bt, 0, none⟩)] V (.bool (decide (Rul.uniG l off u ≤ T))) := by
  haveI : InW Bo V := ⟨l1⟩
  haveI : InW Bl V := ⟨l2⟩
  haveI : InW Bt V := ⟨l3⟩
  obtain ⟨u1, u2⟩ := hu
  obtain ⟨s1, s2⟩ := aheadG_s hA u.at'
  have HA := fun w hr => Lib.hid (ahead_yes l k hk hA u.at' (by omega) (by omega) v w hr)
  have hc : (u.r = 2 ∧ Rul.uniG l off u = u.at') ∨ ((u.r != 2) = true ∧ (u.r == 0) = false ∧ Rul.uniG l off u = u.at' - off) ∨ (u.r = 0 ∧ Rul.uniG l off u = u.at' - off - (Rul.orNo (Rul.aheadG l u.at')).s) := by
    unfold Rul.uniG
    by_cases h2 : u.r = 2
    · exact .inl ⟨h2, if_pos h2⟩
    · by_cases h1 : u.r = 0
      · exact .inr (.inr ⟨h1, by rw [if_neg h2, if_pos h1]⟩)
      · exact .inr (.inl ⟨by simpa using h2, by simpa using h1, by rw [if_neg h2, if_neg h1]⟩)
  generalize Rul.uniG l off u = U at *
  generalize (Rul.aheadG l u.at').isSome = fb at *
  generalize Rul.orNo (Rul.aheadG l u.at') = bb at *
  obtain ⟨ta, tr, ts, tl⟩ := u
  obtain ⟨ba, br, bs, bl⟩ := bb
  simp only at hc s1 s2 u1 u2 HA
  unfold Rets
  rcases hc with ⟨rfl, rfl⟩ | ⟨c1, c2, rfl⟩ | ⟨rfl, rfl⟩
  all_goals
    go_enter Try.func38, Try.ntmps38
    go_wp2_with (go_at_call 15; refine Rets.use (HA _ (hr.ext isext)).out ?_; intro _)
    go_ret
    exact ⟨rfl, done⟩
end Go.Proofs.Ytodcgalcpnckaaa
