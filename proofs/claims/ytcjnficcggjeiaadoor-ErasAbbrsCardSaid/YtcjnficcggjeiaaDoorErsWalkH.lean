/- Walks of eras: what clocks are ahead; when an era ends; its phase. -/
import Derived.Test.YtcjnficcggjeiaaDoorErsWalkG
set_option linter.unusedVariables false
set_option linter.unusedSimpArgs false
namespace Go.Proofs.YtcjnficcggjeiaaDoor
open Go.RowKit Go.Shelf

theorem ahead_set {l : List Rule} (hA : Rul.allB l = true) (x : Era) (t : Int) (a1 : -9223372036854775808 ≤ t) (a2 : t ≤ 9223372036854775807) (n : Nat) (hn : (Ers.setOf l x.rs).length = n) (v : Value) (w : World) (hr : Reads w v n (ruleRow (Ers.setOf l x.rs))) :
    Rets Tryd.prog 62 #[v, .int .i64 t] w (.tuple #[turnV (Rul.orNo (Rul.aheadD (Ers.setOf l x.rs) t)), .bool (Rul.aheadD (Ers.setOf l x.rs) t).isSome]) := by
  have h := ahead_all (Ers.setOf l x.rs) n hn t a1 a2 v w hr
  have e : aheadAll (Ers.setOf l x.rs) t = Rul.aheadD (Ers.setOf l x.rs) t := by unfold aheadAll; rw [if_pos (Ers.set_all hA _)]
  rw [e] at h; exact h
set_option maxRecDepth 100000 in
set_option maxHeartbeats 8000000 in
theorem eahead_any (l : List Rule) (hA : Rul.allB l = true) (x : Era) (sv : Value) (t : Int) (ht : t = Ers.locD x) (a1 : -9223372036854775808 ≤ t) (a2 : t ≤ 9223372036854775807) (w : World) (hs : HasSet w l x sv) :
    Rets Tryd.prog 41 #[eraxV x sv, .int .i64 t] w (.int .i64 (Ers.aheadS l x)) := by
  obtain ⟨⟨a9, n9, c9, rfl⟩, hs2⟩ := hs
  by_cases hk : x.kd = 2
  · obtain ⟨n, hn, hr⟩ := hs2 hk
    have E : Hid (Ers.aheadS l x = (Rul.orNo (Rul.aheadD (Ers.setOf l x.rs) t)).s) := by show _ = _; unfold Ers.aheadS; rw [if_pos hk, ht]
    have HR := fun w hr => Lib.hid (ahead_set hA x t a1 a2 n hn (.slice a9 n9 c9) w hr)
    generalize Ers.aheadS l x = S at *
    generalize (Rul.aheadD (Ers.setOf l x.rs) t).isSome = fb at *
    generalize Rul.orNo (Rul.aheadD (Ers.setOf l x.rs) t) = bb at *
    obtain ⟨ba, br, bs, bl⟩ := bb
    have Hr := Lib.hid hr
    clear hs2 hr ht
    obtain ⟨off, kd, sa, rs, fm, til, y, m, k, wd, d, t', r⟩ := x
    simp only at hk
    subst hk
    unfold Rets
    go_enter Tryd.func41, Tryd.ntmps41
    go_wp2_with (go_at_call 62; refine Rets.use (HR _ (Hr.out.ext isext)).out ?_; intro _)
    go_ret
    exact ⟨by rw [E.out]; first | done | rfl, done⟩
  · have E : Hid (Ers.aheadS l x = x.s) := by show _ = _; unfold Ers.aheadS; rw [if_neg hk]
    have g0 : (x.kd == 2) = false := beq_eq_false_iff_ne.2 hk
    have g1 : (x.kd != 2) = true := by unfold bne; rw [g0]; rfl
    generalize Ers.aheadS l x = S at *
    clear hs2 hk ht
    obtain ⟨off, kd, sa, rs, fm, til, y, m, k, wd, d, t', r⟩ := x
    simp only at g0 g1
    unfold Rets
    go_enter Tryd.func41, Tryd.ntmps41
    go_wp2
    go_ret
    exact ⟨by rw [E.out]; first | done | rfl, done⟩
/-- What an era's end answers. -/
def endV (l : List Rule) (x : Era) : Value := if x.til = true then .tuple #[.int .i64 (Ers.endD l x), .bool true] else .tuple #[.int .i64 0, .bool false]
set_option maxRecDepth 100000 in
set_option maxHeartbeats 8000000 in
theorem eend_any (l : List Rule) (hA : Rul.allB l = true) (x : Era) (hx : Src.eraB x = true) (sv : Value) (w : World) (hs : HasSet w l x sv) :
    Rets Tryd.prog 24 #[eraxV x sv] w (endV l x) := by
  obtain ⟨⟨a9, n9, c9, rfl⟩, -⟩ := id hs
  obtain ⟨o1, o2, -, -, he⟩ := Ers.era_parts hx
  rcases he with ⟨ht, y1, y2, hr⟩ | ⟨ht, -⟩
  · have E : Hid (endV l x = .tuple #[.int .i64 (Ers.endD l x), .bool true]) := by show _ = _; unfold endV; rw [if_pos ht]
    obtain ⟨l1, l2⟩ := Ers.loc_bd x.m x.k x.wd x.d x.t x.r x.y y2
    obtain ⟨s1, s2⟩ := Ers.ahead_bd hA hx
    obtain ⟨-, -, -, -, r1, r2, -⟩ := Mom.right_all hr
    have HL : ∀ w, Hid (Rets Tryd.prog 40 #[spotA x.m x.k x.wd x.d x.t x.r, .int .i64 x.y] w (.tuple #[.int .i64 (Ers.locD x), .bool (Mom.onB x.m x.k x.wd x.d x.t x.r x.y)])) := fun w => local_any x.m x.k x.wd x.d x.t x.r x.y w
    have l3 : -9000000000000 ≤ Ers.locD x := l1
    have l4 : Ers.locD x ≤ 9000000000000 := l2
    have HA : ∀ w, HasSet w l x (.slice a9 n9 c9) → Hid (Rets Tryd.prog 41 #[eraxV x (.slice a9 n9 c9), .int .i64 (Ers.locD x)] w (.int .i64 (Ers.aheadS l x))) := fun w h => eahead_any l hA x _ (Ers.locD x) rfl (by omega) (by omega) w h
    have hc : (x.r = 2 ∧ Hid (Ers.endD l x = Ers.locD x)) ∨ (x.r = 1 ∧ Hid (Ers.endD l x = Ers.locD x - x.off)) ∨ (x.r = 0 ∧ Hid (Ers.endD l x = Ers.locD x - x.off - Ers.aheadS l x)) := by
      unfold Ers.endD
      by_cases h2 : x.r = 2
      · exact .inl ⟨h2, by show _ = _; rw [if_pos h2]⟩
      · by_cases h1 : x.r = 1
        · exact .inr (.inl ⟨h1, by show _ = _; rw [if_neg h2, if_pos h1]⟩)
        · exact .inr (.inr ⟨by omega, by show _ = _; rw [if_neg h2, if_neg h1]⟩)
    have Hs := Lib.hid hs
    rw [E.out]
    clear l1 l2 hr r1 r2 hx hs E
    generalize Mom.onB x.m x.k x.wd x.d x.t x.r x.y = ob at *
    generalize Ers.locD x = L at *
    generalize Ers.aheadS l x = A at *
    generalize Ers.endD l x = N at *
    obtain ⟨off, kd, sa, rs, fm, til, y, m, k, wd, d, t, r⟩ := x
    simp only at ht hc o1 o2 y1 y2
    subst ht
    unfold Rets
    rcases hc with ⟨rfl, E⟩ | ⟨rfl, E⟩ | ⟨rfl, E⟩
    all_goals
      go_enter Tryd.func24, Tryd.ntmps24
      go_wp2_with (first | (go_at_call 40; refine Rets.use (HL _).out ?_; intro _) | (go_at_call 41; refine Rets.use (HA _ (Hs.out.ext isext)).out ?_; intro _))
      go_ret2
      exact ⟨by rw [E.out]; first | done | rfl, done⟩
  · have E : Hid (endV l x = .tuple #[.int .i64 0, .bool false]) := by show _ = _; unfold endV; rw [if_neg (by rw [ht]; simp)]
    rw [E.out]
    clear E hs hx o1 o2
    obtain ⟨off, kd, sa, rs, fm, til, y, m, k, wd, d, t, r⟩ := x
    simp only at ht
    subst ht
    unfold Rets
    go_enter Tryd.func24, Tryd.ntmps24
    go_wp2
    go_ret2
    exact ⟨rfl, done⟩
end Go.Proofs.YtcjnficcggjeiaaDoor
