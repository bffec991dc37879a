/- Walks of rules: the turn ahead of a local time, by the program. -/
import Derived.Test.YtodcgalcpnckaaaRulWalkL
import Derived.Test.YtodcgalcpnckaaaRulWalkI
set_option linter.unusedVariables false
set_option linter.unusedSimpArgs false
namespace Go.Proofs.Ytodcgalcpnckaaa
open Go.RowKit Go.Shelf

namespace Rul
def aheadG (l : List Rule) (at0 : Int) : Option Turn := latestG (fun x => (backs x (yearP at0)).find? (fun u => decide (u.at' < at0))) l
end Rul
theorem yearP_bd (t : Int) : -1000000 ≤ Rul.yearP t ∧ Rul.yearP t ≤ 1000000 := by
  unfold Rul.yearP
  split
  · omega
  · split
    · have := dy_bd (n := 100000000) (by omega) (by omega); omega
    · have := dy_bd (n := t / 86400) (by omega) (by omega); omega
set_option maxRecDepth 100000 in
set_option maxHeartbeats 4000000 in
theorem latest_nil (a : Option Addr) (c : Nat) (Y : Int) (g : Nat) (lb : Array Value) (w : World) : Rets Try.prog 34 #[.slice a 0 c, .int .i64 Y, .func (.func g) #[] lb] w (.tuple #[turnV Rul.noTurn, .bool false]) := by
  refine (callsIn_wide (n := 3)).1 ?_
  refine callsIn_of_wp_marks Try.func34 rfl trivial ?_ rfl
  simp only [Try.ntmps34, List.size_toArray, List.length_cons, List.length_nil, Nat.reduceAdd, Nat.reduceSub, Array.replicate_succ, Array.replicate_zero, List.push_toArray, List.append_toArray, List.nil_append, List.cons_append]
  gi_wp2
  refine wpIn_loop_rounds 1 ?_
  simp only [roundsIn_succ]
  gi_wp2
  gi_region
  all_goals (try gi_wp2)
  refine ⟨.tuple #[turnV Rul.noTurn, .bool false], ?_, rfl, done⟩
  simp [results, Try.f34, go_sem, Rul.noTurn]
theorem latest_any (l : List Rule) (k : Nat) (hk : l.length = k) (Y : Int) (g : Nat) (lb : Array Value) (p : Turn → Bool) (Bd : Turn → Prop) [DecidablePred Bd] (hB0 : Bd Rul.noTurn) (hBl : ∀ x ∈ l, ∀ y, Rul.turnB x y = true → Bd (Rul.turnOf x y)) (hA : Rul.allB l = true) (yb1 : -1000000 ≤ Y) (yb2 : Y ≤ 1000000) (eg : ∀ args w, (callFunc g args).run Try.prog w = .ok (.enter g args) w) (v : Value) (w : World) (hso : ∀ (u : Turn) (V : World), Bd u → Ext w V → Rets Try.prog g (#[turnV u] ++ lb) V (.bool (p u))) (hr : Reads w v k (ruleRow l)) :
    Rets Try.prog 34 #[v, .int .i64 Y, .func (.func g) #[] lb] w (.tuple #[turnV (Rul.orNo (Rul.latestG (fun x => (Rul.backs x Y).find? p) l)), .bool (Rul.latestG (fun x => (Rul.backs x Y).find? p) l).isSome]) :=
  by
    by_cases h0 : k = 0
    · obtain ⟨a, c, rfl⟩ := nil_shape hr h0
      obtain rfl := List.eq_nil_of_length_eq_zero (hk.trans h0)
      exact latest_nil a c Y _ _ w
    · exact (callsIn_wide (n := 3)).1 (latest_in 3 (by omega) l k hk Y g lb p Bd hB0 hBl hA yb1 yb2 eg v w hso hr h0)
set_option maxRecDepth 100000 in
set_option maxHeartbeats 2000000 in
theorem less_any (u : Turn) (at0 : Int) (B : Nat) (V : World) (hB : V.cell? ⟨B, 0, none⟩ = some (.int .i64 at0)) (hlt : B < V.heap.size) : Rets Try.prog 36 #[turnV u, .pointer (some ⟨B, 0, none⟩)] V (.bool (decide (u.at' < at0))) := by
  haveI : InW B V := ⟨hlt⟩
  obtain ⟨ta, tr, ts, tl⟩ := u
  unfold Rets
  go_enter Try.func36, Try.ntmps36
  go_wp2
  go_ret
  exact ⟨rfl, done⟩
set_option maxRecDepth 100000 in
set_option maxHeartbeats 4000000 in
theorem ahead_yes (l : List Rule) (k : Nat) (hk : l.length = k) (hA : Rul.allB l = true) (at0 : Int) (a1 : -9223372036854775808 ≤ at0) (a2 : at0 ≤ 9223372036854775807) (v : Value) (w : World) (hr : Reads w v k (ruleRow l)) :
    Rets Try.prog 15 #[v, .int .i64 at0] w (.tuple #[turnV (Rul.orNo (Rul.aheadG l at0)), .bool (Rul.aheadG l at0).isSome]) := by
  have H1 : ∀ w, Reads w v k (ruleRow l) → Hid (Rets Try.prog 12 #[v] w (.bool true)) := fun w hr => by
    have := sets_any l k hk v w hr
    rw [hA] at this; exact this
  have H2 := fun w => Lib.hid (yearp_any at0 a1 a2 w)
  obtain ⟨y1, y2⟩ := yearP_bd at0
  have H3 : ∀ (w' : World) (B : Nat), Reads w' v k (ruleRow l) → w'.cell? ⟨B, 0, none⟩ = some (.int .i64 at0) → B < w'.heap.size → Hid (Rets Try.prog 34 #[v, .int .i64 (Rul.yearP at0), .func (.func 36) #[] #[.pointer (some ⟨B, 0, none⟩)]] w' (.tuple #[turnV (Rul.orNo (Rul.aheadG l at0)), .bool (Rul.aheadG l at0).isSome])) := fun w' B hr hB hlt =>
    latest_any l k hk (Rul.yearP at0) _ _ (fun u => decide (u.at' < at0)) (fun _ => True) trivial (fun _ _ _ _ => trivial) hA y1 y2 (enters_of Try.func36 (by kernel_rfl) rfl) v w' (fun u V _ hV => less_any u at0 B V ((Below.cell (p := ⟨B, 0, none⟩) hV hlt).trans hB) (Nat.lt_of_lt_of_le hlt (Below.size hV))) hr
  generalize (Rul.aheadG l at0).isSome = fb at *
  generalize Rul.orNo (Rul.aheadG l at0) = bb at *
  generalize Rul.yearP at0 = Y at *
  obtain ⟨ba, br, bs, bl⟩ := bb
  unfold Rets
  go_enter Try.func15, Try.ntmps15
  go_wp2_with (first | (go_at_call 12; refine Rets.use (H1 _ (hr.ext isext)).out ?_; intro _) | (go_at_call 35; refine Rets.use (H2 _).out ?_; intro _) | (go_at_call 34; refine Rets.use (H3 _ w.heap.size (hr.ext isext) (by simp [go_sem]) (inferInstance : InW w.heap.size _).lt).out ?_; intro _))
  refine bodyPost_ret (v := .tuple #[turnV ⟨ba, br, bs, bl⟩, .bool fb]) ?_ rfl ⟨rfl, done⟩
  simp [results, Try.f15, go_sem]
end Go.Proofs.Ytodcgalcpnckaaa
