/- Walks of rules: the turn ahead of a local time, by the program. -/
import Derived.Test.YtcjnficcggjeiaaDoorRulWalkL
import Derived.Test.YtcjnficcggjeiaaDoorRulWalkI
import Derived.Test.YtcjnficcggjeiaaDoorRulWalkH
set_option linter.unusedVariables false
set_option linter.unusedSimpArgs false
namespace Go.Proofs.YtcjnficcggjeiaaDoor
open Go.RowKit Go.Shelf

namespace Rul
def aheadG (l : List Rule) (at0 : Int) : Option Turn := latestG (fun x => (backs x (yearP at0)).find? (fun u => decide (u.at' < at0))) l
end Rul
theorem yearP_bd (t : Int) : -1000000 ≤ Rul.yearP t ∧ Rul.yearP t ≤ 1000000 := by
  unfold Rul.yearP
  split
  · omega
  · split
    · have := dy_bd (n := 100000000) (by omega) (by omega); omega
    · have := dy_bd (n := t / 86400) (by omega) (by omega); omega
set_option maxRecDepth 100000 in
set_option maxHeartbeats 4000000 in
theorem latest_nil (a : Option Addr) (c : Nat) (Y : Int) (g : Nat) (lb : Array Value) (w : World) : Rets Tryd.prog 86 #[.slice a 0 c, .int .i64 Y, .func (.func g) #[] lb] w (.tuple #[turnV Rul.noTurn, .bool false]) := by
  refine (callsIn_wide (n := 3)).1 ?_
  refine callsIn_of_wp_marks Tryd.func86 rfl trivial ?_ rfl
  simp only [Tryd.ntmps86, List.size_toArray, List.length_cons, List.length_nil, Nat.reduceAdd, Nat.reduceSub, Array.replicate_succ, Array.replicate_zero, List.push_toArray, List.append_toArray, List.nil_append, List.cons_append]
  gi_wp2
  refine wpIn_loop_rounds 1 ?_
  simp only [roundsIn_succ]
  gi_wp2
  gi_region
  all_goals (try gi_wp2)
  refine ⟨.tuple #[turnV Rul.noTurn, .bool false], ?_, rfl, done⟩
  simp [results, Tryd.f86, go_sem, Rul.noTurn]
theorem latest_any (l : List Rule) (k : Nat) (hk : l.length = k) (Y : Int) (g : Nat) (lb : Array Value) (p : Turn → Bool) (Bd : Turn → Prop) [DecidablePred Bd] (hB0 : Bd Rul.noTurn) (hBl : ∀ x ∈ l, ∀ y, Rul.turnB x y = true → Bd (Rul.turnOf x y)) (hA : Rul.allB l = true) (yb1 : -1000000 ≤ Y) (yb2 : Y ≤ 1000000) (eg : ∀ args w, (callFunc g args).run Tryd.prog w = .ok (.enter g args) w) (v : Value) (w : World) (hso : ∀ (u : Turn) (V : World), Bd u → Ext w V → Rets Tryd.prog g (#[turnV u] ++ lb) V (.bool (p u))) (hr : Reads w v k (ruleRow l)) :
    Rets Tryd.prog 86 #[v, .int .i64 Y, .func (.func g) #[] lb] w (.tuple #[turnV (Rul.orNo (Rul.latestG (fun x => (Rul.backs x Y).find? p) l)), .bool (Rul.latestG (fun x => (Rul.backs x Y).find? p) l).isSome]) :=
  by
    by_cases h0 : k = 0
    · obtain ⟨a, c, rfl⟩ := nil_shape hr h0
      obtain rfl := List.eq_nil_of_length_eq_zero (hk.trans h0)
      exact latest_nil a c Y _ _ w
    · exact (callsIn_wide (n := 3)).1 (latest_in 3 (by omega) l k hk Y g lb p Bd hB0 hBl hA yb1 yb2 eg v w hso hr h0)
set_option maxRecDepth 100000 in
set_option maxHeartbeats 2000000 in
theorem less_any (u : Turn) (at0 : Int) (B : Nat) (V : World) (hB : V.cell? ⟨B, 0, none⟩ = some (.int .i64 at0)) (hlt : B < V.heap.size) : Rets Tryd.prog 88 #[turnV u, .pointer (some ⟨B, 0, none⟩)] V (.bool (decide (u.at' < at0))) := by
  haveI : InW B V := ⟨hlt⟩
  obtain ⟨ta, tr, ts, tl⟩ := u
  unfold Rets
  go_enter Tryd.func88, Tryd.ntmps88
  go_wp2
  go_ret
  exact ⟨rfl, done⟩
set_option maxRecDepth 100000 in
set_option maxHeartbeats 4000000 in
theorem ahead_yes (l : List Rule) (k : Nat) (hk : l.length = k) (hA : Rul.allB l = true) (at0 : Int) (a1 : -9223372036854775808 ≤ at0) (a2 : at0 ≤ 9223372036854775807) (v : Value) (w : World) (hr : Reads w v k (ruleRow l)) :
    Rets Tryd.prog 62 #[v, .int .i64 at0] w (.tuple #[turnV (Rul.orNo (Rul.aheadG l at0)), .bool (Rul.aheadG l at0).isSome]) := by
  have H1 : ∀ w, Reads w v k (ruleRow l) → Hid (Rets Tryd.prog 85 #[v] w (.bool true)) := fun w hr => by
    have := sets_any l k hk v w hr
    rw [hA] at this; exact this
  have H2 := fun w => Lib.hid (yearp_any at0 a1 a2 w)
  obtain ⟨y1, y2⟩ := yearP_bd at0
  have H3 : ∀ (w' : World) (B : Nat), Reads w' v k (ruleRow l) → w'.cell? ⟨B, 0, none⟩ = some (.int .i64 at0) → B < w'.heap.size → Hid (Rets Tryd.prog 86 #[v, .int .i64 (Rul.yearP at0), .func (.func 88) #[] #[.pointer (some ⟨B, 0, none⟩)]] w' (.tuple #[turnV (Rul.orNo (Rul.aheadG l at0)), .bool (Rul.aheadG l at0).isSome])) := fun w' B hr hB hlt =>
    latest_any l k hk (Rul.yearP at0) _ _ (fun u => decide (u.at' < at0)) (fun _ => True) trivial (fun _ _ _ _ => trivial) hA y1 y2 (enters_of Tryd.func88 (by kernel_rfl) rfl) v w' (fun u V _ hV => less_any u at0 B V ((Below.cell (p := ⟨B, 0, none⟩) hV hlt).trans hB) (Nat.lt_of_lt_of_le hlt (Below.size hV))) hr
  generalize (Rul.aheadG l at0).isSome = fb at *
  generalize Rul.orNo (Rul.aheadG l at0) = bb at *
  generalize Rul.yearP at0 = Y at *
  obtain ⟨ba, br, bs, bl⟩ := bb
  unfold Rets
  go_enter Tryd.func62, Tryd.ntmps62
  go_wp2_with (first | (go_at_call 85; refine Rets.use (H1 _ (hr.ext isext)).out ?_; intro _) | (go_at_call 87; refine Rets.use (H2 _).out ?_; intro _) | (go_at_call 86; refine Rets.use (H3 _ w.heap.size (hr.ext isext) (by simp [go_sem]) (inferInstance : InW w.heap.size _).lt).out ?_; intro _))
  refine bodyPost_ret (v := .tuple #[turnV ⟨ba, br, bs, bl⟩, .bool fb]) ?_ rfl ⟨rfl, done⟩
  simp [results, Tryd.f62, go_sem]
end Go.Proofs.YtcjnficcggjeiaaDoor
set_option linter.unusedVariables false
set_option linter.unusedSimpArgs false
namespace Go.Proofs.YtcjnficcggjeiaaDoor
open Go.RowKit Go.Shelf

namespace Rul
/-- A turn's universal time, by the program. -/
def uniG (l : List Rule) (off : Int) (t : Turn) : Int := if t.r = 2 then t.at' else if t.r = 0 then t.at' - off - (orNo (aheadG l t.at')).s else t.at' - off
def okT (u : Turn) : Prop := -9000000000000 ≤ u.at' ∧ u.at' ≤ 9000000000000
instance (u : Turn) : Decidable (okT u) := by unfold okT; infer_instance
end Rul
theorem aheadG_s {l : List Rule} (hA : Rul.allB l = true) (at0 : Int) : -43200 ≤ (Rul.orNo (Rul.aheadG l at0)).s ∧ (Rul.orNo (Rul.aheadG l at0)).s ≤ 43200 := by
  cases h : Rul.aheadG l at0 with
  | none => exact ⟨by show -43200 ≤ (0 : Int); omega, by show (0 : Int) ≤ 43200; omega⟩
  | some t =>
    refine latest_of (f := fun x => (Rul.backs x (Rul.yearP at0)).find? (fun u => decide (u.at' < at0))) (p := fun t => -43200 ≤ t.s ∧ t.s ≤ 43200) ?_ l none hA (by intro t h; cases h) t h
    intro x t hx hr
    obtain ⟨y', e1, e2⟩ := Rul.back_mem _ _ t (List.mem_of_find?_eq_some hx)
    rw [e2]
    unfold Rul.rightB at hr
    simp only [Bool.and_eq_true, decide_eq_true_eq] at hr
    exact hr.2
set_option maxRecDepth 100000 in
set_option maxHeartbeats 4000000 in
theorem uni_any (l : List Rule) (k : Nat) (hk : l.length = k) (hA : Rul.allB l = true) (off T : Int) (o1 : -86400 ≤ off) (o2 : off ≤ 86400) (u : Turn) (hu : Rul.okT u) (Bo Bl Bt : Nat) (v : Value) (V : World) (hr : Reads V v k (ruleRow l))
    (hBo : V.cell? ⟨Bo, 0, none⟩ = some (.int .i64 off)) (hBl : V.cell? ⟨Bl, 0, none⟩ = some v) (hBt : V.cell? ⟨Bt, 0, none⟩ = some (.int .i64 T)) (l1 : Bo < V.heap.size) (l2 : Bl < V.heap.size) (l3 : Bt < V.heap.size) :
    Rets Tryd.prog 101 #[turnV u, .pointer (some ⟨Bo, 0, none⟩), .pointer (some ⟨Bl, 0, none⟩), .pointer (some ⟨Bt, 0, none⟩)] V (.bool (decide (Rul.uniG l off u ≤ T))) := by
  haveI : InW Bo V := ⟨l1⟩
  haveI : InW Bl V := ⟨l2⟩
  haveI : InW Bt V := ⟨l3⟩
  obtain ⟨u1, u2⟩ := hu
  obtain ⟨s1, s2⟩ := aheadG_s hA u.at'
  have HA := fun w hr => Lib.hid (ahead_yes l k hk hA u.at' (by omega) (by omega) v w hr)
  have hc : (u.r = 2 ∧ Rul.uniG l off u = u.at') ∨ ((u.r != 2) = true ∧ (u.r == 0) = false ∧ Rul.uniG l off u = u.at' - off) ∨ (u.r = 0 ∧ Rul.uniG l off u = u.at' - off - (Rul.orNo (Rul.aheadG l u.at')).s) := by
    unfold Rul.uniG
    by_cases h2 : u.r = 2
    · exact .inl ⟨h2, if_pos h2⟩
    · by_cases h1 : u.r = 0
      · exact .inr (.inr ⟨h1, by rw [if_neg h2, if_pos h1]⟩)
      · exact .inr (.inl ⟨by simpa using h2, by simpa using h1, by rw [if_neg h2, if_neg h1]⟩)
  generalize Rul.uniG l off u = U at *
  generalize (Rul.aheadG l u.at').isSome = fb at *
  generalize Rul.orNo (Rul.aheadG l u.at') = bb at *
  obtain ⟨ta, tr, ts, tl⟩ := u
  obtain ⟨ba, br, bs, bl⟩ := bb
  simp only at hc s1 s2 u1 u2 HA
  unfold Rets
  rcases hc with ⟨rfl, rfl⟩ | ⟨c1, c2, rfl⟩ | ⟨rfl, rfl⟩
  all_goals
    go_enter Tryd.func101, Tryd.ntmps101
    go_wp2_with (go_at_call 62; refine Rets.use (HA _ (hr.ext isext)).out ?_; intro _)
    go_ret
    exact ⟨rfl, done⟩
end Go.Proofs.YtcjnficcggjeiaaDoor
