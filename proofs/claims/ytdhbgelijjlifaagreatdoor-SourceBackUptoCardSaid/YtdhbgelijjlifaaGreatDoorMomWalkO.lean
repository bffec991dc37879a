/- Walks of moments: the document's moment out of texts. -/
import Derived.Test.YtdhbgelijjlifaaGreatDoorMomWalkN
set_option linter.unusedVariables false
set_option linter.unusedSimpArgs false
namespace Go.Proofs.YtdhbgelijjlifaaGreatDoor
open Go.RowKit
theorem list_shape {ws : List (List UInt8)} {n : Nat} (hn : ws.length = n) (h3 : n ≤ 3) : (n = 0 ∧ ws = []) ∨ (∃ a, n = 1 ∧ ws = [a]) ∨ (∃ a b, n = 2 ∧ ws = [a, b]) ∨ (∃ a b c, n = 3 ∧ ws = [a, b, c]) := by
 subst hn
 rcases ws with _ | ⟨a, _ | ⟨b, _ | ⟨c, _ | ⟨d, r⟩⟩⟩⟩
 · exact .inl ⟨rfl, rfl⟩
 · exact .inr (.inl ⟨a, rfl, rfl⟩)
 · exact .inr (.inr (.inl ⟨a, b, rfl, rfl⟩))
 · exact .inr (.inr (.inr ⟨a, b, c, rfl, rfl⟩))
 · simp at h3
set_option maxRecDepth 100000 in
set_option maxHeartbeats 4000000 in
theorem rparse_month (a : List UInt8) (ws : List (List UInt8)) (n : Nat) (n1 : 0 < n) (n3 : n ≤ 3) (b o c : Nat) (w : World) (hb : b < w.heap.size) (k1 : n ≤ c) (k2 : c ≤ maxLen) (f0 : w.cell? ⟨b, o, none⟩ = some (.string ⟨a.toArray⟩)) (ha : a.length ≤ 2000) (hm : Mom.monthI a = 0) (E : Hid (parseV (parseR ws) = .tuple #[.agg #[.int .i64 0, .int .i64 0, .int .i64 0, .int .i64 0, .int .i64 0, .int .i64 0], .int .i64 0, .int .i64 6])) :
 Rets Tryz.prog 114 #[.slice (some ⟨b, o, none⟩) n c] w (parseV (parseR ws)) := by
 haveI : InW b w := ⟨hb⟩
 have HM := fun w => Lib.hid (rmonth_any a w (by unfold maxLen; omega))
 rw [hm] at HM
 have n3' : decide ((3 : Int) < n) = false := decide_eq_false (by omega)
 have n3'' : decide (3 < n) = false := decide_eq_false (by omega)
 clear hm
 unfold Rets
 go_enter Tryz.func114, Tryz.ntmps114
 go_wp2_with (go_at_call 129; refine Rets.use (HM _).out ?_; intro y1)
 exact bodyPost_ret (v := .tuple #[.agg #[.int .i64 0, .int .i64 0, .int .i64 0, .int .i64 0, .int .i64 0, .int .i64 0], .int .i64 0, .int .i64 6]) (by simp [results, Tryz.results114, go_sem]) rfl ⟨by rw [E.out], done⟩
set_option maxRecDepth 100000 in
set_option maxHeartbeats 4000000 in
theorem rparse_day (a d : List UInt8) (ws : List (List UInt8)) (n : Nat) (n1 : 1 < n) (n3 : n ≤ 3) (b o c : Nat) (w : World) (hb : b < w.heap.size) (k1 : n ≤ c) (k2 : c ≤ maxLen) (f0 : w.cell? ⟨b, o, none⟩ = some (.string ⟨a.toArray⟩)) (f1 : w.cell? ⟨b, o + 1, none⟩ = some (.string ⟨d.toArray⟩))
 (ha : a.length ≤ 2000) (hd : d.length ≤ 2000) (hm : Mom.monthI a ≠ 0) (h2 : Mom.dayR d = none) (E : Hid (parseV (parseR ws) = .tuple #[.agg #[.int .i64 0, .int .i64 0, .int .i64 0, .int .i64 0, .int .i64 0, .int .i64 0], .int .i64 1, .int .i64 6])) :
 Rets Tryz.prog 114 #[.slice (some ⟨b, o, none⟩) n c] w (parseV (parseR ws)) := by
 haveI : InW b w := ⟨hb⟩
 have HM := fun w => Lib.hid (rmonth_any a w (by unfold maxLen; omega))
 have HD := fun w => Lib.hid (rDay_any d w hd)
 rw [h2] at HD
 have n3' : decide ((3 : Int) < n) = false := decide_eq_false (by omega)
 have n3'' : decide (3 < n) = false := decide_eq_false (by omega)
 generalize Mom.monthI a = q at *
 have m1 : ((q : Int) == 0) = false := beq_eq_false_iff_ne.2 (by omega)
 have m2 : decide (q = 0) = false := decide_eq_false hm
 have m3 : (q == 0) = false := beq_eq_false_iff_ne.2 hm
 clear hm h2
 unfold Rets
 go_enter Tryz.func114, Tryz.ntmps114
 go_wp2_with (go_at_call 129; refine Rets.use (HM _).out ?_; intro y1)
 refine (HD _).out.mono ?_
 rintro _ _ ⟨v1, v2, v3, y2, rfl, _, rfl⟩
 go_wp2
 exact bodyPost_ret (v := .tuple #[.agg #[.int .i64 0, .int .i64 0, .int .i64 0, .int .i64 0, .int .i64 0, .int .i64 0], .int .i64 1, .int .i64 6]) (by simp [results, Tryz.results114, go_sem]) rfl ⟨by rw [E.out], done⟩
set_option maxRecDepth 100000 in
set_option maxHeartbeats 4000000 in
theorem rparse_one (a : List UInt8) (ws : List (List UInt8)) (b o c : Nat) (w : World) (hb : b < w.heap.size) (k1 : 1 ≤ c) (k2 : c ≤ maxLen) (f0 : w.cell? ⟨b, o, none⟩ = some (.string ⟨a.toArray⟩))
 (ha : a.length ≤ 2000) (hm : Mom.monthI a ≠ 0) (E : Hid (parseV (parseR ws) = .tuple #[.agg #[.int .i64 (Mom.monthI a : Nat), .int .i64 0, .int .i64 0, .int .i64 1, .int .i64 0, .int .i64 0], .int .i64 0, .int .i64 0])) :
 Rets Tryz.prog 114 #[.slice (some ⟨b, o, none⟩) 1 c] w (parseV (parseR ws)) := by
 haveI : InW b w := ⟨hb⟩
 have HM := fun w => Lib.hid (rmonth_any a w (by unfold maxLen; omega))
 generalize Mom.monthI a = q at *
 have m1 : ((q : Int) == 0) = false := beq_eq_false_iff_ne.2 (by omega)
 have m2 : decide (q = 0) = false := decide_eq_false hm
 have m3 : (q == 0) = false := beq_eq_false_iff_ne.2 hm
 clear hm
 unfold Rets
 go_enter Tryz.func114, Tryz.ntmps114
 go_wp2_with (go_at_call 129; refine Rets.use (HM _).out ?_; intro y1)
 exact bodyPost_ret (v := .tuple #[.agg #[.int .i64 (q : Int), .int .i64 0, .int .i64 0, .int .i64 1, .int .i64 0, .int .i64 0], .int .i64 0, .int .i64 0]) (by simp [results, Tryz.results114, go_sem]) rfl ⟨by rw [E.out], done⟩
set_option maxRecDepth 100000 in
set_option maxHeartbeats 4000000 in
theorem rparse_two (a d : List UInt8) (x1 x2 x3 : Int) (ws : List (List UInt8)) (b o c : Nat) (w : World) (hb : b < w.heap.size) (k1 : 2 ≤ c) (k2 : c ≤ maxLen) (f0 : w.cell? ⟨b, o, none⟩ = some (.string ⟨a.toArray⟩)) (f1 : w.cell? ⟨b, o + 1, none⟩ = some (.string ⟨d.toArray⟩))
 (ha : a.length ≤ 2000) (hd : d.length ≤ 2000) (hm : Mom.monthI a ≠ 0) (h2 : Mom.dayR d = some (x1, x2, x3)) (E : Hid (parseV (parseR ws) = .tuple #[.agg #[.int .i64 (Mom.monthI a : Nat), .int .i64 x1, .int .i64 x2, .int .i64 x3, .int .i64 0, .int .i64 0], .int .i64 0, .int .i64 0])) :
 Rets Tryz.prog 114 #[.slice (some ⟨b, o, none⟩) 2 c] w (parseV (parseR ws)) := by
 haveI : InW b w := ⟨hb⟩
 have HM := fun w => Lib.hid (rmonth_any a w (by unfold maxLen; omega))
 have HD := fun w => Lib.hid (rDay_any d w hd)
 rw [h2] at HD
 generalize Mom.monthI a = q at *
 have m1 : ((q : Int) == 0) = false := beq_eq_false_iff_ne.2 (by omega)
 have m2 : decide (q = 0) = false := decide_eq_false hm
 have m3 : (q == 0) = false := beq_eq_false_iff_ne.2 hm
 clear hm h2
 unfold Rets
 go_enter Tryz.func114, Tryz.ntmps114
 go_wp2_with (go_at_call 129; refine Rets.use (HM _).out ?_; intro y1)
 refine (HD _).out.mono ?_
 rintro _ _ ⟨v1, v2, v3, y2, rfl, hv, rfl⟩
 have hv2 := hv _ rfl
 simp only [Prod.mk.injEq] at hv2
 obtain ⟨rfl, rfl, rfl⟩ := hv2
 clear hv
 go_wp2
 exact bodyPost_ret (v := .tuple #[.agg #[.int .i64 (q : Int), .int .i64 x1, .int .i64 x2, .int .i64 x3, .int .i64 0, .int .i64 0], .int .i64 0, .int .i64 0]) (by simp [results, Tryz.results114, go_sem]) rfl ⟨by rw [E.out], done⟩
set_option maxRecDepth 100000 in
set_option maxHeartbeats 4000000 in
theorem rparse_three (a d s : List UInt8) (x1 x2 x3 : Int) (ws : List (List UInt8)) (b o c : Nat) (w : World) (hb : b < w.heap.size) (k1 : 3 ≤ c) (k2 : c ≤ maxLen) (f0 : w.cell? ⟨b, o, none⟩ = some (.string ⟨a.toArray⟩)) (f1 : w.cell? ⟨b, o + 1, none⟩ = some (.string ⟨d.toArray⟩)) (f2 : w.cell? ⟨b, o + 2, none⟩ = some (.string ⟨s.toArray⟩))
 (ha : a.length ≤ 2000) (hd : d.length ≤ 2000) (hs : s.length ≤ 2000) (hm : Mom.monthI a ≠ 0) (h2 : Mom.dayR d = some (x1, x2, x3))
 (E1 : Hid (Mom.clockR s = none → parseV (parseR ws) = .tuple #[.agg #[.int .i64 0, .int .i64 0, .int .i64 0, .int .i64 0, .int .i64 0, .int .i64 0], .int .i64 2, .int .i64 6]))
 (E2 : Hid (∀ t r, Mom.clockR s = some (t, r) → parseV (parseR ws) = .tuple #[.agg #[.int .i64 (Mom.monthI a : Nat), .int .i64 x1, .int .i64 x2, .int .i64 x3, .int .i64 t, .int .i64 r], .int .i64 0, .int .i64 0])) :
 Rets Tryz.prog 114 #[.slice (some ⟨b, o, none⟩) 3 c] w (parseV (parseR ws)) := by
 haveI : InW b w := ⟨hb⟩
 have HM := fun w => Lib.hid (rmonth_any a w (by unfold maxLen; omega))
 have HD := fun w => Lib.hid (rDay_any d w hd)
 have HK := fun w => Lib.hid (rclock_any s w (by omega))
 rw [h2] at HD
 generalize Mom.monthI a = q at *
 have m1 : ((q : Int) == 0) = false := beq_eq_false_iff_ne.2 (by omega)
 have m2 : decide (q = 0) = false := decide_eq_false hm
 have m3 : (q == 0) = false := beq_eq_false_iff_ne.2 hm
 clear hm h2
 unfold Rets
 obtain ⟨o1, ho⟩ : ∃ o1, Mom.clockR s = o1 := ⟨_, rfl⟩
 rw [ho] at HK
 cases o1 with
 | none =>
   have E := Lib.hid (E1.out ho)
   unfold rclockV at HK
   clear E1 E2 ho
   go_enter Tryz.func114, Tryz.ntmps114
   go_wp2_with (go_at_call 129; refine Rets.use (HM _).out ?_; intro y1)
   refine (HD _).out.mono ?_
   rintro _ _ ⟨v1, v2, v3, y2, rfl, hv, rfl⟩
   have hv2 := hv _ rfl
   simp only [Prod.mk.injEq] at hv2
   obtain ⟨rfl, rfl, rfl⟩ := hv2
   clear hv
   go_wp2_with (go_at_call 131; refine Rets.use (HK _).out ?_; intro y3)
   exact bodyPost_ret (v := .tuple #[.agg #[.int .i64 0, .int .i64 0, .int .i64 0, .int .i64 0, .int .i64 0, .int .i64 0], .int .i64 2, .int .i64 6]) (by simp [results, Tryz.results114, go_sem]) rfl ⟨by rw [E.out], done⟩
 | some x =>
   obtain ⟨t, r⟩ := x
   have E := Lib.hid (E2.out t r ho)
   unfold rclockV at HK
   clear E1 E2 ho
   go_enter Tryz.func114, Tryz.ntmps114
   go_wp2_with (go_at_call 129; refine Rets.use (HM _).out ?_; intro y1)
   refine (HD _).out.mono ?_
   rintro _ _ ⟨v1, v2, v3, y2, rfl, hv, rfl⟩
   have hv2 := hv _ rfl
   simp only [Prod.mk.injEq] at hv2
   obtain ⟨rfl, rfl, rfl⟩ := hv2
   clear hv
   go_wp2_with (go_at_call 131; refine Rets.use (HK _).out ?_; intro y3)
   exact bodyPost_ret (v := .tuple #[.agg #[.int .i64 (q : Int), .int .i64 x1, .int .i64 x2, .int .i64 x3, .int .i64 t, .int .i64 r], .int .i64 0, .int .i64 0]) (by simp [results, Tryz.results114, go_sem]) rfl ⟨by rw [E.out], done⟩
set_option maxRecDepth 100000 in
set_option maxHeartbeats 4000000 in
theorem rparse_any (ws : List (List UInt8)) (n : Nat) (hn : ws.length = n) (v : Value) (w : World) (hr : Reads w v n (strs ws)) (hs : n ≤ 3 → ∀ s ∈ ws, s.length ≤ 2000) : Rets Tryz.prog 114 #[v] w (parseV (parseR ws)) := by
 by_cases h3 : n ≤ 3
 rotate_left
 · exact rparse_many ws n hn (by omega) v w hr
 by_cases hz : n = 0
 · subst hz
   obtain rfl : ws = [] := List.eq_nil_of_length_eq_zero hn
   have E : Hid (parseV (parseR []) = .tuple #[.agg #[.int .i64 1, .int .i64 0, .int .i64 0, .int .i64 1, .int .i64 0, .int .i64 0], .int .i64 0, .int .i64 0]) := rfl
   obtain ⟨a, c, rfl⟩ : ∃ a c, v = .slice a 0 c := by
    rcases hr with ⟨a, c, rfl, _⟩ | ⟨b, o, c, rfl, _⟩ <;> exact ⟨_, _, rfl⟩
   clear hr hn hs
   unfold Rets
   go_enter Tryz.func114, Tryz.ntmps114
   go_wp2
   exact bodyPost_ret (v := .tuple #[.agg #[.int .i64 1, .int .i64 0, .int .i64 0, .int .i64 1, .int .i64 0, .int .i64 0], .int .i64 0, .int .i64 0]) (by simp [results, Tryz.results114, go_sem]) rfl ⟨by rw [E.out], done⟩
 rcases hr with ⟨a9, c9, rfl, h0, _⟩ | ⟨b, o, c, rfl, k1, k2, hbw, hc⟩
 · exact absurd h0 hz
 have hs' := hs h3
 rcases list_shape hn h3 with ⟨h, _⟩ | ⟨a, rfl, rfl⟩ | ⟨a, d, rfl, rfl⟩ | ⟨a, d, s, rfl, rfl⟩
 · exact absurd h hz
 all_goals
  have f0 : w.cell? ⟨b, o, none⟩ = some (.string ⟨a.toArray⟩) := strs_at hc 0 (by simp)
  have ha := hs' a (by simp)
  by_cases hm : Mom.monthI a = 0
  · exact rparse_month a _ _ (by omega) (by omega) b o c w hbw k1 k2 f0 ha hm (by show _ = _; unfold parseR; rw [if_neg (by simp)]; simp only [contR]; rw [if_pos hm]; rfl)
 · exact rparse_one a _ b o c w hbw k1 k2 f0 ha hm (by show _ = _; unfold parseR; rw [if_neg (by simp)]; simp only [contR]; rw [if_neg hm]; rfl)
 all_goals
  have f1 : w.cell? ⟨b, o + 1, none⟩ = some (.string ⟨d.toArray⟩) := strs_at hc 1 (by simp)
  have hd := hs' d (by simp)
  obtain ⟨o1, ho⟩ : ∃ o1, Mom.dayR d = o1 := ⟨_, rfl⟩
 · cases o1 with
   | none => exact rparse_day a d _ _ (by omega) (by omega) b o c w hbw k1 k2 f0 f1 ha hd hm ho (by show _ = _; unfold parseR; rw [if_neg (by simp)]; simp only [contR]; rw [if_neg hm]; simp only [contR, ho]; rfl)
   | some x =>
     obtain ⟨x1, x2, x3⟩ := x
     exact rparse_two a d x1 x2 x3 _ b o c w hbw k1 k2 f0 f1 ha hd hm ho (by show _ = _; unfold parseR; rw [if_neg (by simp)]; simp only [contR]; rw [if_neg hm]; simp only [contR, ho]; rfl)
 · cases o1 with
   | none => exact rparse_day a d _ _ (by omega) (by omega) b o c w hbw k1 k2 f0 f1 ha hd hm ho (by show _ = _; unfold parseR; rw [if_neg (by simp)]; simp only [contR]; rw [if_neg hm]; simp only [contR, ho]; rfl)
   | some x =>
     obtain ⟨x1, x2, x3⟩ := x
     have f2 : w.cell? ⟨b, o + 2, none⟩ = some (.string ⟨s.toArray⟩) := strs_at hc 2 (by simp)
     exact rparse_three a d s x1 x2 x3 _ b o c w hbw k1 k2 f0 f1 f2 ha hd (hs' s (by simp)) hm ho
      (fun h => by unfold parseR; rw [if_neg (by simp)]; simp only [contR]; rw [if_neg hm]; simp only [contR, ho, h]; rfl)
      (fun t r h => by unfold parseR; rw [if_neg (by simp)]; simp only [contR]; rw [if_neg hm]; simp only [contR, ho, h]; rfl)
end Go.Proofs.YtdhbgelijjlifaaGreatDoor
