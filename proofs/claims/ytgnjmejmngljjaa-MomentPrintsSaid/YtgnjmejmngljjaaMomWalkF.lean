/- Walks of moments: which of some names. -/
import Derived.Test.YtgnjmejmngljjaaMomWalkE
set_option linter.unusedVariables false
set_option linter.unusedSimpArgs false
namespace Go.Proofs.Ytgnjmejmngljjaa
open Go.RowKit

theorem reads_new (w : World) (ws : List (List UInt8)) (t : TypeId) (n : Nat) (hn : ws.length = n) (h : n ≤ 100) : Reads (w.alloc (.cells (strs ws).toArray t)) (.slice (some ⟨w.heap.size, 0, none⟩) n n) n (strs ws) := by
  refine .inr ⟨_, 0, n, rfl, Nat.le_refl _, by unfold maxLen; omega, by simp, fun i u hu => ?_⟩
  have := new_cells w (strs ws) t i u hu
  rw [show (⟨w.heap.size, 0, none⟩ : Addr).add i = ⟨w.heap.size, 0 + i, none⟩ by unfold Addr.add; split <;> simp_all] at this
  exact this
theorem small_mem {ws : List (List UInt8)} (h : ws.all (fun w => Mom.small w && decide (w.length ≤ 100)) = true) {v : List UInt8} (hv : v ∈ ws) : Mom.small v = true ∧ v.length ≤ 100 := by
  have := List.all_eq_true.1 h v hv
  simp at this; exact this
set_option maxRecDepth 100000 in
set_option maxHeartbeats 2000000 in
theorem which_any (s : List UInt8) (ws : List (List UInt8)) (n : Nat) (hn : ws.length = n) (v : Value) (w : World) (hs : s.length ≤ maxLen) (hsm : ws.all (fun w => Mom.small w && decide (w.length ≤ 100)) = true) (n0 : 0 < n) (hr : Reads w v n (strs ws)) :
    Rets Try.prog 38 #[.string ⟨s.toArray⟩, v] w (.int .i64 (Mom.whichP s ws 1 : Nat)) := by
  rcases hr with ⟨a9, c9, rfl, h0, h3⟩ | ⟨b, o, c, rfl, h1, h2, hb, hc⟩
  · omega
  haveI : InW b w := ⟨hb⟩
  have HC := Lib.hid hc
  have HN := Lib.hid hn
  have HS := Lib.hid hsm
  have hl : n ≤ 9223372036854775807 := by unfold maxLen at h2; omega
  have HNA := fun v hv => Lib.hid (fun w => name_any s v w hs (by have := (small_mem HS.out hv).2; unfold maxLen; omega) (small_mem HS.out hv).1)
  clear hc hn hsm hs
  unfold Rets
  go_enter Try.func38, Try.ntmps38
  go_wp2
  go_loopw [5] (fun i wr => ∃ j : Nat, j ≤ n ∧ i = .int .i64 j ∧ Hid (Mom.whichP s ws 1 = Mom.whichP s (ws.drop j) (j + 1)) ∧ Ext w wr) (fun i _ => n - (intOf i).toNat)
  case atStart => exact ⟨0, by omega, rfl, rfl, isext⟩
  case round =>
    obtain ⟨j, j1, rfl, hw, hx⟩ := hrel
    obtain ⟨yr, rfl⟩ := fin hx
    clear hx
    by_cases hlt : j < n
    · have hj : j < ws.length := by rw [HN.out]; exact hlt
      have f1 := strs_at HC.out j hj
      have HA := HNA _ (List.getElem_mem hj)
      have W := Lib.hid (hw.out.trans (by rw [List.drop_eq_getElem_cons hj]))
      generalize ws[j] = v at *
      cases hb : Mom.nameB s v
      · have E := Lib.hid (W.out.trans (Mom.which_no hb))
        rw [hb] at HA
        clear hb hj
        go_wp2_with (go_at_call 59; refine Rets.use (HA.out _) ?_; intro _)
        go_roundw
        case rel => exact ⟨j + 1, by omega, by go_num, E, isext⟩
        case measure => simp [intOf]; omega
      · have E := Lib.hid (W.out.trans (Mom.which_yes hb))
        rw [hb] at HA
        clear hb hj
        go_wp2_with (go_at_call 59; refine Rets.use (HA.out _) ?_; intro _)
        go_ret
        exact ⟨by rw [E.out]; first | done | rfl | simp, done⟩
    · have E := Lib.hid (hw.out.trans (by rw [List.drop_eq_nil_of_le (by rw [HN.out]; omega)]; rfl : _ = 0))
      go_wp2
      go_ret
      exact ⟨by rw [E.out]; first | done | rfl, done⟩

set_option maxRecDepth 100000 in
set_option maxHeartbeats 2000000 in
theorem rmonth_any (s : List UInt8) (w : World) (hs : s.length ≤ maxLen) : Rets Try.prog 12 #[.string ⟨s.toArray⟩] w (.int .i64 (Mom.monthI s : Nat)) := by
  have K := fun w0 : World => Lib.hid (which_any s Mom.monthsL 12 rfl _ _ hs (by decide) (by omega) (reads_new w0 Mom.monthsL 9 12 rfl (by omega)))
  clear hs
  unfold Rets
  go_enter Try.func12, Try.ntmps12
  go_wp2_with fail
  refine Rets.use (K _).out ?_
  intro _
  go_wp2
  go_ret
  exact ⟨rfl, done⟩
set_option maxRecDepth 100000 in
set_option maxHeartbeats 2000000 in
theorem rweekday_any (s : List UInt8) (w : World) (hs : s.length ≤ maxLen) : Rets Try.prog 13 #[.string ⟨s.toArray⟩] w (.int .i64 (Mom.dayI s : Nat)) := by
  have K := fun w0 : World => Lib.hid (which_any s Mom.daysL 7 rfl _ _ hs (by decide) (by omega) (reads_new w0 Mom.daysL 9 7 rfl (by omega)))
  clear hs
  unfold Rets
  go_enter Try.func13, Try.ntmps13
  go_wp2_with fail
  refine Rets.use (K _).out ?_
  intro _
  go_wp2
  go_ret
  exact ⟨rfl, done⟩

/-- A call that returns a list of texts. -/
def TextsRet (f : FuncId) (w : World) (ws : List (List UInt8)) (n : Nat) : Prop := Calls Try.prog f #[] w fun e w' => ∃ v, ∃ y : Past w, e = .returned v ∧ Reads y.x v n (strs ws) ∧ w' = y.x
set_option maxRecDepth 100000 in
set_option maxHeartbeats 2000000 in
theorem months_any (w : World) : TextsRet 36 w (Mom.monthsL.map Mom.great) 12 := by
  have K := Lib.hid (reads_new w (Mom.monthsL.map Mom.great) 9 12 rfl (by omega))
  unfold TextsRet
  go_enter Try.func36, Try.ntmps36
  go_wp2
  go_ret
  exact ⟨_, ⟨w.alloc (.cells (strs (Mom.monthsL.map Mom.great)).toArray 9), (Ext.refl w).alloc _⟩, rfl, K.out, rfl⟩
set_option maxRecDepth 100000 in
set_option maxHeartbeats 2000000 in
theorem weekdays_any (w : World) : TextsRet 37 w (Mom.daysL.map Mom.great) 7 := by
  have K := Lib.hid (reads_new w (Mom.daysL.map Mom.great) 9 7 rfl (by omega))
  unfold TextsRet
  go_enter Try.func37, Try.ntmps37
  go_wp2
  go_ret
  exact ⟨_, ⟨w.alloc (.cells (strs (Mom.daysL.map Mom.great)).toArray 9), (Ext.refl w).alloc _⟩, rfl, K.out, rfl⟩

def foundN (k : Nat) : Value := .tuple #[.int .i64 (k : Int), .bool (decide (k ≠ 0))]
set_option maxRecDepth 100000 in
set_option maxHeartbeats 2000000 in
theorem named_any (s : List UInt8) (ws : List (List UInt8)) (n : Nat) (hn : ws.length = n) (v : Value) (w : World) (hs : s.length ≤ maxLen) (hsm : ws.all (fun w => decide (w.length ≤ 100)) = true) (n0 : 0 < n) (n1 : n ≤ 100) (hr : Reads w v n (strs ws)) :
    Rets Try.prog 35 #[.string ⟨s.toArray⟩, v] w (foundN (Mom.whichP s (ws.map Mom.low) 1)) := by
  rcases hr with ⟨a9, c9, rfl, h0, h3⟩ | ⟨b, o, c, rfl, h1, h2, hb, hc⟩
  · omega
  haveI : InW b w := ⟨hb⟩
  have HC := Lib.hid hc
  have HN := Lib.hid hn
  have hl : n ≤ 9223372036854775807 := by unfold maxLen at h2; omega
  have HW := fun v (hv : v ∈ ws) => Lib.hid (fun w => lower_any v w (by have := of_decide_eq_true (List.all_eq_true.1 hsm v hv); unfold maxLen; omega))
  have HSl := Lib.hid (fun w => lower_any s w hs)
  have hz : Hid ((⟨s.toArray⟩ : ByteArray).size = s.length) := lsz s
  have hs1 : s.length ≤ 9223372036854775807 := by unfold maxLen at hs; omega
  have HP : Hid (∀ (p q : List UInt8) w, Rets Try.prog 57 #[.string ⟨p.toArray⟩, .string ⟨q.toArray⟩] w (.bool (q.isPrefixOf p))) := fun p q w => by
    refine Calls.mono (Try.strings_HasPrefix ⟨p.toArray⟩ ⟨q.toArray⟩ w) ?_
    rintro _ _ ⟨rfl, rfl⟩
    exact ⟨by simp [Lib.hasPrefix], done⟩
  clear hc hn hsm hs
  unfold Rets
  go_enter Try.func35, Try.ntmps35
  go_wp2
  go_loopw [10] (fun i wr => ∃ j : Nat, j ≤ n ∧ i = .int .i64 j ∧ Hid (Mom.whichP s (ws.map Mom.low) 1 = Mom.whichP s ((ws.drop j).map Mom.low) (j + 1)) ∧ Ext w wr) (fun i _ => n - (intOf i).toNat)
  case atStart => exact ⟨0, by omega, rfl, rfl, isext⟩
  case round =>
    obtain ⟨j, j1, rfl, hw, hx⟩ := hrel
    obtain ⟨yr, rfl⟩ := fin hx
    clear hx
    by_cases hlt : j < n
    · have hj : j < ws.length := by rw [HN.out]; exact hlt
      have f1 := strs_at HC.out j hj
      have HA := HW _ (List.getElem_mem hj)
      have W := Lib.hid (hw.out.trans (by rw [List.drop_eq_getElem_cons hj, List.map_cons]))
      generalize ws[j] = v at *
      by_cases c0 : s.length < 3
      · have E := Lib.hid (W.out.trans (Mom.which_no (Mom.name_short c0)))
        have c1 : decide (3 ≤ s.length) = false := decide_eq_false (by omega)
        have c2 : decide ((3 : Int) ≤ s.length) = false := decide_eq_false (by omega)
        clear hj
        go_wp2
        go_roundw
        case rel => exact ⟨j + 1, by omega, by go_num, E, isext⟩
        case measure => simp [intOf]; omega
      · have c1 : 3 ≤ s.length := by omega
        have ND : Hid (Mom.nameB s (Mom.low v) = (Mom.low s).isPrefixOf (Mom.low v)) := by show _ = _; unfold Mom.nameB; rw [decide_eq_true c1, Bool.true_and]
        cases hb : (Mom.low s).isPrefixOf (Mom.low v)
        · have E := Lib.hid (W.out.trans (Mom.which_no (ND.out.trans hb)))
          have HP2 := Lib.hid (fun w => HP.out (Mom.low v) (Mom.low s) w)
          rw [hb] at HP2
          clear hb hj c0
          go_wp2_with fail
          refine Rets.use (HA.out _) ?_
          intro _
          go_wp2_with fail
          refine Rets.use (HSl.out _) ?_
          intro _
          go_wp2_with fail
          refine Rets.use (HP2.out _) ?_
          intro _
          go_wp2
          go_roundw
          case rel => exact ⟨j + 1, by omega, by go_num, E, isext⟩
          case measure => simp [intOf]; omega
        · have E := Lib.hid (W.out.trans (Mom.which_yes (ND.out.trans hb)))
          have HP2 := Lib.hid (fun w => HP.out (Mom.low v) (Mom.low s) w)
          rw [hb] at HP2
          clear hb hj c0
          go_wp2_with fail
          refine Rets.use (HA.out _) ?_
          intro _
          go_wp2_with fail
          refine Rets.use (HSl.out _) ?_
          intro _
          go_wp2_with fail
          refine Rets.use (HP2.out _) ?_
          intro _
          go_wp2
          go_ret2
          exact ⟨by rw [E.out]; simp [foundN], done⟩
    · have E := Lib.hid (hw.out.trans (by rw [List.drop_eq_nil_of_le (by rw [HN.out]; omega)]; rfl : _ = 0))
      go_wp2
      go_ret2
      exact ⟨by rw [E.out]; first | done | rfl, done⟩
theorem low_months : (Mom.monthsL.map Mom.great).map Mom.low = Mom.monthsL := by decide
theorem low_days : (Mom.daysL.map Mom.great).map Mom.low = Mom.daysL := by decide
set_option maxHeartbeats 1000000 in
theorem month_any (s : List UInt8) (w : World) (hs : s.length ≤ maxLen) : Rets Try.prog 10 #[.string ⟨s.toArray⟩] w (foundN (Mom.monthI s)) := by
  have K := fun (y : Past w) v hr => Lib.hid (named_any s (Mom.monthsL.map Mom.great) 12 rfl v y.x hs (by decide) (by omega) (by omega) hr)
  rw [low_months] at K
  clear hs
  unfold Rets
  go_enter Try.func10, Try.ntmps10
  go_wp2_with fail
  refine (months_any _).mono ?_
  rintro _ _ ⟨v, y, rfl, hr, rfl⟩
  go_wp2_with fail
  refine Rets.use1 (K y v hr).out ?_
  intro _
  unfold foundN
  go_wp2
  go_ret2
  exact ⟨by unfold foundN Mom.monthI; by_cases k0 : Mom.whichP s Mom.monthsL 1 = 0 <;> simp [k0], done⟩
set_option maxHeartbeats 1000000 in
theorem weekday_any (s : List UInt8) (w : World) (hs : s.length ≤ maxLen) : Rets Try.prog 11 #[.string ⟨s.toArray⟩] w (foundN (Mom.dayI s)) := by
  have K := fun (y : Past w) v hr => Lib.hid (named_any s (Mom.daysL.map Mom.great) 7 rfl v y.x hs (by decide) (by omega) (by omega) hr)
  rw [low_days] at K
  clear hs
  unfold Rets
  go_enter Try.func11, Try.ntmps11
  go_wp2_with fail
  refine (weekdays_any _).mono ?_
  rintro _ _ ⟨v, y, rfl, hr, rfl⟩
  go_wp2_with fail
  refine Rets.use1 (K y v hr).out ?_
  intro _
  unfold foundN
  go_wp2
  go_ret2
  exact ⟨by unfold foundN Mom.dayI; by_cases k0 : Mom.whichP s Mom.daysL 1 = 0 <;> simp [k0], done⟩
end Go.Proofs.Ytgnjmejmngljjaa
