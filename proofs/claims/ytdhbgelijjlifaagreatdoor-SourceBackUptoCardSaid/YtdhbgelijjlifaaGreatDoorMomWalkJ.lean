/- Walks of moments: which of some names. -/
import Derived.Test.YtdhbgelijjlifaaGreatDoorMomWalkE
import Derived.Lib.IndexMore
set_option linter.unusedVariables false
set_option linter.unusedSimpArgs false
namespace Go.Proofs.YtdhbgelijjlifaaGreatDoor
open Go.RowKit
theorem reads_new (w : World) (ws : List (List UInt8)) (t : TypeId) (n : Nat) (hn : ws.length = n) (h : n ≤ 100) : Reads (w.alloc (.cells (strs ws).toArray t)) (.slice (some ⟨w.heap.size, 0, none⟩) n n) n (strs ws) := by
 refine .inr ⟨_, 0, n, rfl, Nat.le_refl _, by unfold maxLen; omega, by simp, fun i u hu => ?_⟩
 have := new_cells w (strs ws) t i u hu
 rw [show (⟨w.heap.size, 0, none⟩ : Addr).add i = ⟨w.heap.size, 0 + i, none⟩ by unfold Addr.add; split <;> simp_all] at this
 exact this
theorem small_mem {ws : List (List UInt8)} (h : ws.all (fun w => Mom.small w && decide (w.length ≤ 100)) = true) {v : List UInt8} (hv : v ∈ ws) : Mom.small v = true ∧ v.length ≤ 100 := by
 have := List.all_eq_true.1 h v hv
 simp at this; exact this
set_option maxRecDepth 100000 in
set_option maxHeartbeats 2000000 in
theorem which_any (s : List UInt8) (ws : List (List UInt8)) (n : Nat) (hn : ws.length = n) (v : Value) (w : World) (hs : s.length ≤ maxLen) (hsm : ws.all (fun w => Mom.small w && decide (w.length ≤ 100)) = true) (n0 : 0 < n) (hr : Reads w v n (strs ws)) :
 Rets Tryz.prog 154 #[.string ⟨s.toArray⟩, v] w (.int .i64 (Mom.whichP s ws 1 : Nat)) := by
 rcases hr with ⟨a9, c9, rfl, h0, h3⟩ | ⟨b, o, c, rfl, h1, h2, hb, hc⟩
 · omega
 haveI : InW b w := ⟨hb⟩
 have HC := Lib.hid hc
 have HN := Lib.hid hn
 have HS := Lib.hid hsm
 have hl : n ≤ 9223372036854775807 := by unfold maxLen at h2; omega
 have HNA := fun v hv => Lib.hid (fun w => name_any s v w hs (by have := (small_mem HS.out hv).2; unfold maxLen; omega) (small_mem HS.out hv).1)
 clear hc hn hsm hs
 unfold Rets
 go_enter Tryz.func154, Tryz.ntmps154
 go_wp2
 go_loopw [5] (fun i wr => ∃ j : Nat, j ≤ n ∧ i = .int .i64 j ∧ Hid (Mom.whichP s ws 1 = Mom.whichP s (ws.drop j) (j + 1)) ∧ Ext w wr) (fun i _ => n - (intOf i).toNat)
 case atStart => exact ⟨0, by omega, rfl, rfl, isext⟩
 case round =>
  obtain ⟨j, j1, rfl, hw, hx⟩ := hrel
  obtain ⟨yr, rfl⟩ := fin hx
  clear hx
  by_cases hlt : j < n
  · have hj : j < ws.length := by rw [HN.out]; exact hlt
    have f1 := strs_at HC.out j hj
    have HA := HNA _ (List.getElem_mem hj)
    have W := Lib.hid (hw.out.trans (by rw [List.drop_eq_getElem_cons hj]))
    generalize ws[j] = v at *
    cases hb : Mom.nameB s v
    · have E := Lib.hid (W.out.trans (Mom.which_no hb))
      rw [hb] at HA
      clear hb hj
      go_wp2_with (go_at_call 169; refine Rets.use (HA.out _) ?_; intro _)
      go_roundw
      case rel => exact ⟨j + 1, by omega, by go_num, E, isext⟩
      case measure => simp [intOf]; omega
    · have E := Lib.hid (W.out.trans (Mom.which_yes hb))
      rw [hb] at HA
      clear hb hj
      go_wp2_with (go_at_call 169; refine Rets.use (HA.out _) ?_; intro _)
      go_ret
      exact ⟨by rw [E.out]; first | done | rfl | simp, done⟩
  · have E := Lib.hid (hw.out.trans (by rw [List.drop_eq_nil_of_le (by rw [HN.out]; omega)]; rfl : _ = 0))
    go_wp2
    go_ret
    exact ⟨by rw [E.out]; first | done | rfl, done⟩
set_option maxRecDepth 100000 in
set_option maxHeartbeats 2000000 in
theorem rmonth_any (s : List UInt8) (w : World) (hs : s.length ≤ maxLen) : Rets Tryz.prog 129 #[.string ⟨s.toArray⟩] w (.int .i64 (Mom.monthI s : Nat)) := by
 have K := fun w0 : World => Lib.hid (which_any s Mom.monthsL 12 rfl _ _ hs (by decide) (by omega) (reads_new w0 Mom.monthsL 9 12 rfl (by omega)))
 clear hs
 unfold Rets
 go_enter Tryz.func129, Tryz.ntmps129
 go_wp2_with fail
 refine Rets.use (K _).out ?_
 intro _
 go_wp2
 go_ret
 exact ⟨rfl, done⟩
set_option maxRecDepth 100000 in
set_option maxHeartbeats 2000000 in
theorem rweekday_any (s : List UInt8) (w : World) (hs : s.length ≤ maxLen) : Rets Tryz.prog 155 #[.string ⟨s.toArray⟩] w (.int .i64 (Mom.dayI s : Nat)) := by
 have K := fun w0 : World => Lib.hid (which_any s Mom.daysL 7 rfl _ _ hs (by decide) (by omega) (reads_new w0 Mom.daysL 9 7 rfl (by omega)))
 clear hs
 unfold Rets
 go_enter Tryz.func155, Tryz.ntmps155
 go_wp2_with fail
 refine Rets.use (K _).out ?_
 intro _
 go_wp2
 go_ret
 exact ⟨rfl, done⟩
def TextsRet (f : FuncId) (w : World) (ws : List (List UInt8)) (n : Nat) : Prop := Calls Tryz.prog f #[] w fun e w' => ∃ v, ∃ y : Past w, e = .returned v ∧ Reads y.x v n (strs ws) ∧ w' = y.x
set_option maxRecDepth 100000 in
set_option maxHeartbeats 2000000 in
theorem months_any (w : World) : TextsRet 102 w (Mom.monthsL.map Mom.great) 12 := by
 have K := Lib.hid (reads_new w (Mom.monthsL.map Mom.great) 9 12 rfl (by omega))
 unfold TextsRet
 go_enter Tryz.func102, Tryz.ntmps102
 go_wp2
 go_ret
 exact ⟨_, ⟨w.alloc (.cells (strs (Mom.monthsL.map Mom.great)).toArray 9), (Ext.refl w).alloc _⟩, rfl, K.out, rfl⟩
set_option maxRecDepth 100000 in
set_option maxHeartbeats 2000000 in
theorem weekdays_any (w : World) : TextsRet 101 w (Mom.daysL.map Mom.great) 7 := by
 have K := Lib.hid (reads_new w (Mom.daysL.map Mom.great) 9 7 rfl (by omega))
 unfold TextsRet
 go_enter Tryz.func101, Tryz.ntmps101
 go_wp2
 go_ret
 exact ⟨_, ⟨w.alloc (.cells (strs (Mom.daysL.map Mom.great)).toArray 9), (Ext.refl w).alloc _⟩, rfl, K.out, rfl⟩
def foundN (k : Nat) : Value := .tuple #[.int .i64 (k : Int), .bool (decide (k ≠ 0))]
set_option maxRecDepth 100000 in
set_option maxHeartbeats 2000000 in
theorem named_any (s : List UInt8) (ws : List (List UInt8)) (n : Nat) (hn : ws.length = n) (v : Value) (w : World) (hs : s.length ≤ maxLen) (hsm : ws.all (fun w => decide (w.length ≤ 100)) = true) (n0 : 0 < n) (n1 : n ≤ 100) (hr : Reads w v n (strs ws)) :
 Rets Tryz.prog 147 #[.string ⟨s.toArray⟩, v] w (foundN (Mom.whichP s (ws.map Mom.low) 1)) := by
 rcases hr with ⟨a9, c9, rfl, h0, h3⟩ | ⟨b, o, c, rfl, h1, h2, hb, hc⟩
 · omega
 haveI : InW b w := ⟨hb⟩
 have HC := Lib.hid hc
 have HN := Lib.hid hn
 have hl : n ≤ 9223372036854775807 := by unfold maxLen at h2; omega
 have HW := fun v (hv : v ∈ ws) => Lib.hid (fun w => lower_any v w (by have := of_decide_eq_true (List.all_eq_true.1 hsm v hv); unfold maxLen; omega))
 have HSl := Lib.hid (fun w => lower_any s w hs)
 have hz : Hid ((⟨s.toArray⟩ : ByteArray).size = s.length) := lsz s
 have hs1 : s.length ≤ 9223372036854775807 := by unfold maxLen at hs; omega
 have HP : Hid (∀ (p q : List UInt8) w, Rets Tryz.prog 166 #[.string ⟨p.toArray⟩, .string ⟨q.toArray⟩] w (.bool (q.isPrefixOf p))) := fun p q w => by
  refine Calls.mono (Tryz.strings_HasPrefix ⟨p.toArray⟩ ⟨q.toArray⟩ w) ?_
  rintro _ _ ⟨rfl, rfl⟩
  exact ⟨by simp [Lib.hasPrefix], done⟩
 clear hc hn hsm hs
 unfold Rets
 go_enter Tryz.func147, Tryz.ntmps147
 go_wp2
 go_loopw [10] (fun i wr => ∃ j : Nat, j ≤ n ∧ i = .int .i64 j ∧ Hid (Mom.whichP s (ws.map Mom.low) 1 = Mom.whichP s ((ws.drop j).map Mom.low) (j + 1)) ∧ Ext w wr) (fun i _ => n - (intOf i).toNat)
 case atStart => exact ⟨0, by omega, rfl, rfl, isext⟩
 case round =>
  obtain ⟨j, j1, rfl, hw, hx⟩ := hrel
  obtain ⟨yr, rfl⟩ := fin hx
  clear hx
  by_cases hlt : j < n
  · have hj : j < ws.length := by rw [HN.out]; exact hlt
    have f1 := strs_at HC.out j hj
    have HA := HW _ (List.getElem_mem hj)
    have W := Lib.hid (hw.out.trans (by rw [List.drop_eq_getElem_cons hj, List.map_cons]))
    generalize ws[j] = v at *
    by_cases c0 : s.length < 3
    · have E := Lib.hid (W.out.trans (Mom.which_no (Mom.name_short c0)))
      have c1 : decide (3 ≤ s.length) = false := decide_eq_false (by omega)
      have c2 : decide ((3 : Int) ≤ s.length) = false := decide_eq_false (by omega)
      clear hj
      go_wp2
      go_roundw
      case rel => exact ⟨j + 1, by omega, by go_num, E, isext⟩
      case measure => simp [intOf]; omega
    · have c1 : 3 ≤ s.length := by omega
      have ND : Hid (Mom.nameB s (Mom.low v) = (Mom.low s).isPrefixOf (Mom.low v)) := by show _ = _; unfold Mom.nameB; rw [decide_eq_true c1, Bool.true_and]
      cases hb : (Mom.low s).isPrefixOf (Mom.low v)
      · have E := Lib.hid (W.out.trans (Mom.which_no (ND.out.trans hb)))
        have HP2 := Lib.hid (fun w => HP.out (Mom.low v) (Mom.low s) w)
        rw [hb] at HP2
        clear hb hj c0
        go_wp2_with fail
        refine Rets.use (HA.out _) ?_
        intro _
        go_wp2_with fail
        refine Rets.use (HSl.out _) ?_
        intro _
        go_wp2_with fail
        refine Rets.use (HP2.out _) ?_
        intro _
        go_wp2
        go_roundw
        case rel => exact ⟨j + 1, by omega, by go_num, E, isext⟩
        case measure => simp [intOf]; omega
      · have E := Lib.hid (W.out.trans (Mom.which_yes (ND.out.trans hb)))
        have HP2 := Lib.hid (fun w => HP.out (Mom.low v) (Mom.low s) w)
        rw [hb] at HP2
        clear hb hj c0
        go_wp2_with fail
        refine Rets.use (HA.out _) ?_
        intro _
        go_wp2_with fail
        refine Rets.use (HSl.out _) ?_
        intro _
        go_wp2_with fail
        refine Rets.use (HP2.out _) ?_
        intro _
        go_wp2
        go_ret2
        exact ⟨by rw [E.out]; simp [foundN], done⟩
  · have E := Lib.hid (hw.out.trans (by rw [List.drop_eq_nil_of_le (by rw [HN.out]; omega)]; rfl : _ = 0))
    go_wp2
    go_ret2
    exact ⟨by rw [E.out]; first | done | rfl, done⟩
theorem low_months : (Mom.monthsL.map Mom.great).map Mom.low = Mom.monthsL := by decide
theorem low_days : (Mom.daysL.map Mom.great).map Mom.low = Mom.daysL := by decide
set_option maxHeartbeats 1000000 in
theorem month_any (s : List UInt8) (w : World) (hs : s.length ≤ maxLen) : Rets Tryz.prog 124 #[.string ⟨s.toArray⟩] w (foundN (Mom.monthI s)) := by
 have K := fun (y : Past w) v hr => Lib.hid (named_any s (Mom.monthsL.map Mom.great) 12 rfl v y.x hs (by decide) (by omega) (by omega) hr)
 rw [low_months] at K
 clear hs
 unfold Rets
 go_enter Tryz.func124, Tryz.ntmps124
 go_wp2_with fail
 refine (months_any _).mono ?_
 rintro _ _ ⟨v, y, rfl, hr, rfl⟩
 go_wp2_with fail
 refine Rets.use1 (K y v hr).out ?_
 intro _
 unfold foundN
 go_wp2
 go_ret2
 exact ⟨by unfold foundN Mom.monthI; by_cases k0 : Mom.whichP s Mom.monthsL 1 = 0 <;> simp [k0], done⟩
set_option maxHeartbeats 1000000 in
theorem weekday_any (s : List UInt8) (w : World) (hs : s.length ≤ maxLen) : Rets Tryz.prog 149 #[.string ⟨s.toArray⟩] w (foundN (Mom.dayI s)) := by
 have K := fun (y : Past w) v hr => Lib.hid (named_any s (Mom.daysL.map Mom.great) 7 rfl v y.x hs (by decide) (by omega) (by omega) hr)
 rw [low_days] at K
 clear hs
 unfold Rets
 go_enter Tryz.func149, Tryz.ntmps149
 go_wp2_with fail
 refine (weekdays_any _).mono ?_
 rintro _ _ ⟨v, y, rfl, hr, rfl⟩
 go_wp2_with fail
 refine Rets.use1 (K y v hr).out ?_
 intro _
 unfold foundN
 go_wp2
 go_ret2
 exact ⟨by unfold foundN Mom.dayI; by_cases k0 : Mom.whichP s Mom.daysL 1 = 0 <;> simp [k0], done⟩
end Go.Proofs.YtdhbgelijjlifaaGreatDoor
namespace Go.Proofs.YtdhbgelijjlifaaGreatDoor
namespace Mom
theorem sum_bd : ∀ (ps : List (List UInt8)) (u n m : Int), 0 ≤ u → u ≤ 60 → 0 ≤ n → sumR ps u n = some m → n ≤ m ∧ m ≤ n + 3540 * ps.length
 | [], u, n, m, _, _, _, h => by cases h; simp
 | p :: ps, u, n, m, h1, h2, h3, h => by
   unfold sumR at h
   split at h
   · cases h
   · rename_i c
     have hk0 : 0 ≤ numR p 2 2 := by omega
     have hk1 : numR p 2 2 ≤ 59 := by omega
     generalize numR p 2 2 = k at *
     have m1 : 0 ≤ k * u := Int.mul_nonneg hk0 h1
     have m2 : k * u ≤ 59 * 60 := Int.mul_le_mul hk1 h2 h1 (by omega)
     have := sum_bd ps 1 (n + k * u) m (by omega) (by omega) (by omega) h
     simp; omega
theorem bare_bd {l : List UInt8} {n : Int} (h : bareR l = some n) : 0 ≤ n ∧ n ≤ 1000000 := by
 unfold bareR at h
 split at h
 · cases h
 · rename_i p ps e
   split at h
   · cases h
   · rename_i c
     have hh : 0 ≤ numR p 1 3 := by omega
     have hh2 : numR p 1 3 ≤ 167 := by omega
     generalize numR p 1 3 = k at *
     have := sum_bd ps 60 (3600 * k) n (by omega) (by omega) (by omega) h
     have hl : (p :: ps).length ≤ 3 := by omega
     simp at hl
     omega
def dnum (l : List UInt8) : Int := if 1 ≤ numR l 1 2 ∧ numR l 1 2 ≤ 31 then numR l 1 2 else 0
theorem dnum_bd (l : List UInt8) : 0 ≤ dnum l ∧ dnum l ≤ 31 := by unfold dnum; split <;> omega
theorem days_ok (l : List UInt8) (k : Nat) (hk : nD 2 l = k) (h : 1 ≤ k ∧ l.drop k = [] ∧ 1 ≤ numOf (l.take k) ∧ numOf (l.take k) ≤ 31) : dnum l = (numOf (l.take k) : Nat) := by
 subst hk
 have := part_num (a := l) (least := 1) (most := 2) h.1 h.2.1
 unfold dnum; rw [this, if_pos (by omega)]
theorem days_no (l : List UInt8) (k : Nat) (hk : nD 2 l = k) (h : ¬ (1 ≤ k ∧ l.drop k = [] ∧ 1 ≤ numOf (l.take k) ∧ numOf (l.take k) ≤ 31)) : dnum l = 0 := by
 unfold dnum
 by_cases c : 1 ≤ numR l 1 2 ∧ numR l 1 2 ≤ 31
 · exfalso
   have hp := part_num' (a := l) (least := 1) (most := 2) (by omega)
   rw [hp.1] at hk
   subst hk
   exact h ⟨hp.2.1, List.drop_length, by rw [List.take_length]; omega, by rw [List.take_length]; omega⟩
 · rw [if_neg c]
def signL (c : UInt8) : List UInt8 → Option Nat
 | [] => none
 | [_] => none
 | a :: b :: l => if a = c ∧ b = 61 then some 0 else (signL c (b :: l)).map (· + 1)
theorem index_sign (c : UInt8) : ∀ l : List UInt8, Lib.index l [c, 61] = match signL c l with | some i => (i : Int) | none => -1
 | [] => rfl
 | [a] => by
   unfold Lib.index
   rw [if_neg (by simp [List.isPrefixOf])]
   rfl
 | a :: b :: l => by
   have ih := index_sign c (b :: l)
   unfold Lib.index signL
   by_cases h : a = c ∧ b = 61
   · rw [if_pos h, if_pos (by simp [List.isPrefixOf, h.1, h.2])]; rfl
   · rw [if_neg h, if_neg (by simp [List.isPrefixOf]; intro e1 e2; exact h ⟨e1.symm, e2.symm⟩), ih]
     cases hs : signL c (b :: l) with
     | none => rfl
     | some i => simp
theorem sign_lt (c : UInt8) : ∀ (l : List UInt8) (i : Nat), signL c l = some i → i + 2 ≤ l.length
 | [], i, h => by cases h
 | [a], i, h => by cases h
 | a :: b :: l, i, h => by
   unfold signL at h
   by_cases e : a = c ∧ b = 61
   · rw [if_pos e] at h; cases h; simp
   · rw [if_neg e] at h
     cases hs : signL c (b :: l) with
     | none => rw [hs] at h; cases h
     | some k =>
       rw [hs] at h; cases h
       have := sign_lt c (b :: l) k hs
       simp at this ⊢; omega
theorem cut_sign (c : UInt8) (l : List UInt8) : Lib.cut l [c, 61] = match signL c l with | some i => (l.take i, l.drop (i + 2), true) | none => (l, [], false) := by
 unfold Lib.cut
 rw [index_sign]
 cases hs : signL c l with
 | none => simp
 | some i => simp
theorem sign_drop (c : UInt8) (l : List UInt8) (k : Nat) (h : k + 1 < l.length) : signL c (l.drop k) = if l[k] = c ∧ l[k + 1] = 61 then some 0 else (signL c (l.drop (k + 1))).map (· + 1) := by
 rw [List.drop_eq_getElem_cons (by omega), List.drop_eq_getElem_cons (by omega)]
 rfl
theorem sign_end (c : UInt8) (l : List UInt8) (k : Nat) (h : l.length ≤ k + 1) : signL c (l.drop k) = none := by
 rcases hd : l.drop k with _ | ⟨a, _ | ⟨b, r⟩⟩
 · rfl
 · rfl
 · have := congrArg List.length hd
   simp at this; omega
def dayAt (kind : Int) (a b : List UInt8) : Option (Int × Int × Int) := if dayI a ≠ 0 ∧ dnum b ≠ 0 then some (kind, (dayI a : Int), dnum b) else none
def dayN (l : List UInt8) : Option (Int × Int × Int) := match signL 62 l with
 | some i => dayAt 2 (l.take i) (l.drop (i + 2))
 | none => match signL 60 l with
   | some i => dayAt 3 (l.take i) (l.drop (i + 2))
   | none => if dnum l ≠ 0 then some (0, 0, dnum l) else none
def dayL (r : List UInt8) : Option (Int × Int × Int) := if dayI r ≠ 0 then some (1, (dayI r : Int), 0) else none
def dayR (l : List UInt8) : Option (Int × Int × Int) := if l.take 4 = [108, 97, 115, 116] then dayL (l.drop 4) else dayN l
/-! Parts, one by one. -/
def glue (cur : List UInt8) : List (List UInt8) → List (List UInt8)
 | [] => [cur]
 | p :: ps => (cur ++ p) :: ps
theorem glue_end (cur : List UInt8) : glue cur (splitC []) = [cur] := by simp [splitC, glue]
theorem glue_colon (cur r : List UInt8) : glue cur (splitC (58 :: r)) = cur :: splitC r := by simp [splitC, glue]
theorem glue_other (cur r : List UInt8) (c : UInt8) (h : c ≠ 58) : glue cur (splitC (c :: r)) = glue (cur ++ [c]) (splitC r) := by
 simp only [splitC, if_neg h]
 cases hs : splitC r with
 | nil => exact absurd hs (splitC_ne r)
 | cons p ps => simp [glue]
theorem glue_nil (r : List UInt8) : glue [] (splitC r) = splitC r := by
 cases hs : splitC r with
 | nil => exact absurd hs (splitC_ne r)
 | cons p ps => rfl
theorem split_len : ∀ l : List UInt8, (splitC l).length ≤ l.length + 1
 | [] => by simp [splitC]
 | c :: l => by
   have := split_len l
   unfold splitC
   split
   · simp; omega
   · cases hs : splitC l with
     | nil => simp
     | cons p ps => rw [hs] at this; simp at this ⊢; omega
theorem split_each : ∀ (l : List UInt8), ∀ p ∈ splitC l, p.length ≤ l.length
 | [], p, h => by simp [splitC] at h; subst h; simp
 | c :: l, p, h => by
   have ih := split_each l
   unfold splitC at h
   split at h
   · rcases List.mem_cons.1 h with rfl | h
     · simp
     · have := ih p h; simp; omega
   · cases hs : splitC l with
     | nil => exact absurd hs (splitC_ne l)
     | cons q qs =>
       rw [hs] at h ih
       rcases List.mem_cons.1 h with rfl | h
       · have := ih q (by simp); simp; omega
       · have := ih p (by simp [h]); simp; omega
end Mom
end Go.Proofs.YtdhbgelijjlifaaGreatDoor
namespace Go.Proofs.YtdhbgelijjlifaaGreatDoor
open Go.RowKit
theorem not_empty {l : List UInt8} (h : l ≠ []) : (⟨l.toArray⟩ : ByteArray).toList.isEmpty = false ∧ ¬ (⟨l.toArray⟩ : ByteArray).toList = [] ∧ l.isEmpty = false ∧ ¬ l = [] := by
 rw [ByteArray.toList_eq]; simp [h]
set_option maxHeartbeats 2000000 in
theorem days_txt (l : List UInt8) (hs : l.length ≤ maxLen) : ∃ n : Int, (Mom.dnum l ≠ 0 → n = Mom.dnum l) ∧ ∀ w : World, Rets Tryz.prog 150 #[.string ⟨l.toArray⟩] w (.tuple #[.int .i64 n, .bool (decide (Mom.dnum l ≠ 0))]) := by
 obtain ⟨k, hk⟩ : ∃ k, Mom.nD 2 l = k := ⟨_, rfl⟩
 have HD := fun w => Lib.hid (digits_list l 1 2 k w (by omega) (by omega) hs hk)
 have OK := Lib.hid (Mom.days_ok l k hk)
 have NO := Lib.hid (Mom.days_no l k hk)
 have hn2 := num_2 l
 rw [hk] at hn2
 unfold digV at HD
 refine ⟨(Mom.numOf (l.take k) : Nat), fun h => ?_, fun w => ?_⟩
 · by_cases c : 1 ≤ k ∧ l.drop k = [] ∧ 1 ≤ Mom.numOf (l.take k) ∧ Mom.numOf (l.take k) ≤ 31
   · exact (OK.out c).symm
   · exact absurd (NO.out c) h
 generalize Mom.numOf (l.take k) = n at *
 generalize l.drop k = r at *
 clear hk hs
 unfold Rets
 by_cases c : 1 ≤ k ∧ r = [] ∧ 1 ≤ n ∧ n ≤ 31
 · have E : Hid (decide (Mom.dnum l ≠ 0) = true) := decide_eq_true (by rw [OK.out c]; omega)
   obtain ⟨c1, c2, c3, c4⟩ := c
   subst c2
   have d1 : decide (1 ≤ k) = true := decide_eq_true c1
   have d2 : (1 : Int) ≤ n := by omega
   have d3 : (n : Int) ≤ 31 := by omega
   go_enter Tryz.func150, Tryz.ntmps150
   go_wp2_with (first | (go_at_call 151; refine Rets.use (HD _).out ?_; intro _))
   go_ret2
   exact ⟨by rw [E.out]; first | done | rfl | simp, done⟩
 · have E : Hid (decide (Mom.dnum l ≠ 0) = false) := decide_eq_false (by rw [NO.out c]; simp)
   have c' : decide (1 ≤ k) = false ∨ decide (1 ≤ k) = true ∧ r ≠ [] ∨ decide (1 ≤ k) = true ∧ r = [] ∧ decide ((1 : Int) ≤ n) = false ∨ decide (1 ≤ k) = true ∧ r = [] ∧ (1 : Int) ≤ n ∧ decide ((n : Int) ≤ 31) = false := by
    by_cases e1 : 1 ≤ k
    · by_cases e2 : r = []
      · by_cases e3 : 1 ≤ n
        · exact .inr (.inr (.inr ⟨decide_eq_true e1, e2, by omega, decide_eq_false (fun h => c ⟨e1, e2, e3, by omega⟩)⟩))
        · exact .inr (.inr (.inl ⟨decide_eq_true e1, e2, decide_eq_false (by omega)⟩))
      · exact .inr (.inl ⟨decide_eq_true e1, e2⟩)
    · exact .inl (decide_eq_false e1)
   clear c
   rcases c' with d1 | ⟨d1, d2⟩ | ⟨d1, rfl, d3⟩ | ⟨d1, rfl, d3, d4⟩
   · go_enter Tryz.func150, Tryz.ntmps150
     go_wp2_with (first | (go_at_call 151; refine Rets.use (HD _).out ?_; intro _))
     go_ret2
     exact ⟨by rw [E.out]; first | done | rfl | simp, done⟩
   · obtain ⟨g1, g2, g3, g4⟩ := not_empty d2
     go_enter Tryz.func150, Tryz.ntmps150
     go_wp2_with (first | (go_at_call 151; refine Rets.use (HD _).out ?_; intro _))
     go_ret2
     exact ⟨by rw [E.out]; first | done | rfl | simp, done⟩
   · go_enter Tryz.func150, Tryz.ntmps150
     go_wp2_with (first | (go_at_call 151; refine Rets.use (HD _).out ?_; intro _))
     go_ret2
     exact ⟨by rw [E.out]; first | done | rfl | simp, done⟩
   · go_enter Tryz.func150, Tryz.ntmps150
     go_wp2_with (first | (go_at_call 151; refine Rets.use (HD _).out ?_; intro _))
     go_ret2
     exact ⟨by rw [E.out]; first | done | rfl | simp, done⟩
theorem all_take (s : ByteArray) (k : Nat) (h : k < s.size) (ha : (s.data.toList.take k).all Mom.isD = true) : (s.data.toList.take (k + 1)).all Mom.isD = Mom.isD s[k] := by
 rw [take_byte s k h, List.all_append, ha]; simp
theorem not_all {s : ByteArray} {k : Nat} (h : k < s.size) (hd : Mom.isD s[k] = false) : s.data.toList.all Mom.isD = false := by
 rw [List.all_eq_false]
 exact ⟨s[k], by
  have : s[k] = s.data.toList[k]'(by simpa using h) := rfl
  rw [this]; exact List.getElem_mem _, by rw [hd]; simp⟩
theorem isD_no' {c : UInt8} (h : Mom.isD c = false) : (c.toNat : Int) < 48 ∨ (decide ((c.toNat : Int) < 48) = false ∧ 57 < (c.toNat : Int)) := by
 have := of_decide_eq_false h
 by_cases g : (c.toNat : Int) < 48
 · exact .inl g
 · exact .inr ⟨decide_eq_false g, by omega⟩
set_option maxRecDepth 100000 in
set_option maxHeartbeats 2000000 in
theorem rnumber_any (s : ByteArray) (least most : Nat) (w : World) (hl : least ≤ 3) (hm : most ≤ 3) (hs : s.size ≤ maxLen) : Rets Tryz.prog 153 #[.string s, .int .i64 least, .int .i64 most] w (.int .i64 (Mom.numR s.data.toList least most)) := by
 unfold maxLen at hs
 have hz : Hid (s.data.toList.length = s.size) := by show _ = _; simp
 unfold Rets
 by_cases c : s.size < least ∨ most < s.size
 · have E : Hid (Mom.numR s.data.toList least most = -1) := by show _ = _; unfold Mom.numR; rw [hz.out, if_pos c]
   have c' : (s.size : Int) < least ∨ decide ((s.size : Int) < least) = false ∧ decide (s.size < least) = false ∧ (most : Int) < s.size := by
    by_cases d : s.size < least
    · exact .inl (by omega)
    · exact .inr ⟨decide_eq_false (by omega), decide_eq_false d, by omega⟩
   clear c
   rcases c' with c | ⟨c, c1, c2⟩
   all_goals
    go_enter Tryz.func153, Tryz.ntmps153
    go_wp2
    go_ret
    exact ⟨by rw [E.out]; first | done | rfl | simp, done⟩
 have c1 : decide ((s.size : Int) < least) = false := decide_eq_false (by omega)
 have c2 : decide (s.size < least) = false := decide_eq_false (by omega)
 have c3 : decide ((most : Int) < s.size) = false := decide_eq_false (by omega)
 have c4 : decide (most < s.size) = false := decide_eq_false (by omega)
 have EN : Hid (Mom.numR s.data.toList least most = if s.data.toList.all Mom.isD = true then ((Mom.numOf s.data.toList : Nat) : Int) else -1) := by show _ = _; unfold Mom.numR; rw [hz.out, if_neg c]
 have s3 : s.size ≤ 3 := by omega
 clear c
 go_enter Tryz.func153, Tryz.ntmps153
 go_wp2
 go_loopw [7, 8] (fun n i wr => ∃ j : Nat, j ≤ s.size ∧ i = .int .i64 j ∧ n = .int .i64 (Mom.numOf (s.data.toList.take j) : Nat) ∧ Hid ((s.data.toList.take j).all Mom.isD = true) ∧ Ext w wr) (fun _ i _ => s.size - (intOf i).toNat)
 case atStart => exact ⟨0, by omega, rfl, rfl, rfl, isext⟩
 case round =>
  obtain ⟨j, j1, rfl, rfl, ha, hx⟩ := hrel
  obtain ⟨yr, rfl⟩ := fin hx
  clear hx
  have hnb : Mom.numOf (s.data.toList.take j) ≤ 999 := by
   have h := Mom.numOf_bd (s.data.toList.take j) 0 (fun c hc => List.all_eq_true.1 ha.out c hc)
   have h2 : (s.data.toList.take j).length ≤ 3 := by rw [List.length_take, hz.out]; omega
   have h3 : (10 : Nat) ^ (s.data.toList.take j).length ≤ 10 ^ 3 := Nat.pow_le_pow_right (by omega) h2
   unfold Mom.numOf; omega
  by_cases c0 : j < s.size
  · cases d : Mom.isD s[j]
    · have E := Lib.hid (EN.out.trans (if_neg (by rw [not_all c0 d]; simp)))
      have d' := isD_no' d
      clear d
      rcases d' with d' | ⟨d', d2⟩
      all_goals
       go_wp2
       go_ret
       exact ⟨by rw [E.out]; first | done | rfl | simp, done⟩
    · have A := Lib.hid ((all_take s j c0 ha.out).trans d)
      obtain ⟨d1, d2⟩ := isD_yes d
      have E : Hid (((Mom.numOf (s.data.toList.take (j + 1)) : Nat) : Int) = (Mom.numOf (s.data.toList.take j) : Nat) * 10 + ((s[j].toNat : Int) - 48)) := by
       show _ = _
       rw [take_byte s j c0, Mom.numOf_snoc]; omega
      generalize Mom.numOf (s.data.toList.take j) = nn at *
      have g1 : decide ((s[j].toNat : Int) < 48) = false := decide_eq_false (by omega)
      have g2 : decide ((57 : Int) < s[j].toNat) = false := decide_eq_false (by omega)
      clear d
      go_wp2
      go_roundw
      case rel => exact ⟨j + 1, by omega, by go_num, by rw [E.out], A, isext⟩
      case measure => simp [intOf]; omega
  · have e : s.data.toList.take j = s.data.toList := List.take_of_length_le (by rw [hz.out]; omega)
    rw [e] at ha hnb ⊢
    have E := Lib.hid (EN.out.trans (if_pos ha.out))
    generalize Mom.numOf s.data.toList = nn at *
    go_wp2
    go_ret
    exact ⟨by rw [E.out]; first | done | rfl | simp, done⟩
theorem rnumber_list (l : List UInt8) (least most : Nat) (w : World) (hl : least ≤ 3) (hm : most ≤ 3) (hs : l.length ≤ maxLen) : Rets Tryz.prog 153 #[.string ⟨l.toArray⟩, .int .i64 least, .int .i64 most] w (.int .i64 (Mom.numR l least most)) :=
 rnumber_any ⟨l.toArray⟩ least most w hl hm (by rw [lsz]; exact hs)
theorem numR_le (l : List UInt8) (least most : Nat) (hm : most ≤ 3) : -1 ≤ Mom.numR l least most ∧ Mom.numR l least most ≤ 999 := by
 refine ⟨Mom.numR_ge l least most, ?_⟩
 by_cases h : 0 ≤ Mom.numR l least most
 · obtain ⟨h1, h2, h3, h4⟩ := Mom.numR_yes h
   have h5 := Mom.numOf_bd l 0 h3
   have h6 : (10 : Nat) ^ l.length ≤ 10 ^ 3 := Nat.pow_le_pow_right (by omega) (by omega)
   rw [h4]; unfold Mom.numOf; omega
 · omega
set_option maxHeartbeats 2000000 in
theorem rday_any (l : List UInt8) (w : World) (hs : l.length ≤ maxLen) : Rets Tryz.prog 157 #[.string ⟨l.toArray⟩] w (.int .i64 (Mom.dnum l)) := by
 have HN := fun w => Lib.hid (rnumber_list l 1 2 w (by omega) (by omega) hs)
 have hb := numR_le l 1 2 (by omega)
 have hd : Hid (Mom.dnum l = if 1 ≤ Mom.numR l 1 2 ∧ Mom.numR l 1 2 ≤ 31 then Mom.numR l 1 2 else 0) := rfl
 generalize Mom.numR l 1 2 = n at *
 clear hs
 unfold Rets
 by_cases c : n < 1
 · have E := Lib.hid (hd.out.trans (if_neg (by omega)))
   go_enter Tryz.func157, Tryz.ntmps157
   go_wp2_with (first | (go_at_call 153; refine Rets.use (HN _).out ?_; intro _))
   go_ret
   exact ⟨by rw [E.out]; first | done | rfl | simp, done⟩
 · have c' : decide (n < 1) = false := decide_eq_false c
   by_cases c2 : 31 < n
   · have E := Lib.hid (hd.out.trans (if_neg (by omega)))
     go_enter Tryz.func157, Tryz.ntmps157
     go_wp2_with (first | (go_at_call 153; refine Rets.use (HN _).out ?_; intro _))
     go_ret
     exact ⟨by rw [E.out]; first | done | rfl | simp, done⟩
   · have E := Lib.hid (hd.out.trans (if_pos (by omega)))
     have c3 : decide (31 < n) = false := decide_eq_false c2
     go_enter Tryz.func157, Tryz.ntmps157
     go_wp2_with (first | (go_at_call 153; refine Rets.use (HN _).out ?_; intro _))
     go_ret
     exact ⟨by rw [E.out]; first | done | rfl | simp, done⟩
end Go.Proofs.YtdhbgelijjlifaaGreatDoor
namespace Go.Proofs.YtdhbgelijjlifaaGreatDoor
open Go.RowKit
theorem Tryz.infoTextM : (Tryz.prog.info? 9).map (fun i => (i.zero, i.size, i.bytes)) = some (some (.string ByteArray.empty), 1, 16) := by kernel_rfl
theorem strs_snoc (ws : List (List UInt8)) (x : List UInt8) : strs (ws ++ [x]) = strs ws ++ [.string ⟨x.toArray⟩] := by simp [strs]
theorem mdrop_byte (s : ByteArray) (j : Nat) (h : j < s.size) : s.data.toList.drop j = s[j] :: s.data.toList.drop (j + 1) := by
 rw [List.drop_eq_getElem_cons (by simpa using h)]; rfl
theorem one_byte (s : ByteArray) (j : Nat) (h : j < s.size) : s.extract j (j + 1) = ⟨#[s[j]]⟩ := by
 apply ba_list
 rw [Lib.extract_data, mdrop_byte s j h, show j + 1 - j = 1 by omega]; rfl
theorem app_byte (cur : List UInt8) (c : UInt8) : (⟨cur.toArray⟩ : ByteArray) ++ ⟨#[c]⟩ = ⟨(cur ++ [c]).toArray⟩ := by
 apply ba_list; simp [ByteArray.data_append]
def PartsEnd (w : World) (ws : List (List UInt8)) (e : Ending) (w' : World) : Prop := ∃ v, ∃ y : Past w, e = .returned v ∧ Reads y.x v ws.length (strs ws) ∧ w' = y.x
theorem parts_end {w w' : World} [h : ExtC w w'] {l ls : List (List UInt8)} {v : Value} {n : Nat} (hn : ls.length = n) [k : OwnsC w' w.heap.size 9 1 v n (strs ls)] (he : l = ls) : PartsEnd w l (.returned v) w' := by
 subst he; subst hn
 exact ⟨_, ⟨w', h.ext⟩, rfl, owns_reads k.own (by omega), rfl⟩
set_option maxRecDepth 100000 in
set_option maxHeartbeats 4000000 in
theorem parts_any (s : ByteArray) (w : World) (hs : s.size ≤ 5000) : Calls Tryz.prog 152 #[.string s] w (PartsEnd w (Mom.splitC s.data.toList)) := by
 obtain ⟨i0, hi, hz0, hz1, hz2⟩ := info_parts Tryz.infoTextM
 go_enter Tryz.func152, Tryz.ntmps152
 go_wp2
 go_loopw [3, 4, 5] (fun v cv i wr => ∃ (k n : Nat) (dn : List (List UInt8)) (cur : List UInt8), k ≤ s.size ∧ n ≤ k ∧ cur.length ≤ k ∧ i = .int .i64 k ∧ cv = .string ⟨cur.toArray⟩ ∧ Hid (dn.length = n) ∧ Hid (Mom.splitC s.data.toList = dn ++ Mom.glue cur (Mom.splitC (s.data.toList.drop k))) ∧ OwnsC wr w.heap.size 9 1 v n (strs dn) ∧ Ext w wr) (fun _ _ i _ => s.size - (intOf i).toNat)
 case atStart => exact ⟨0, 0, [], [], by omega, by omega, by simp, rfl, rfl, rfl, by show _ = _; rw [List.drop_zero, Mom.glue_nil]; rfl, ⟨World.ownsRow_nil _ _ _ _⟩, isext⟩
 case round =>
  obtain ⟨k, n, dn, cur, k1, n1, cl, rfl, rfl, Hn, Hl, hown, hx⟩ := hrel
  obtain ⟨yr, rfl⟩ := fin hx
  clear hx
  obtain ⟨av, cap, rfl⟩ := owns_shape hown.own
  by_cases c0 : k < s.size
  · by_cases c1 : s[k] = 58
    · have q1 : ((s[k].toNat : Int) == 58) = true := by rw [c1]; rfl
      have E : Hid (Mom.splitC s.data.toList = (dn ++ [cur]) ++ Mom.glue [] (Mom.splitC (s.data.toList.drop (k + 1)))) := by
       show _ = _
       rw [Hl.out, mdrop_byte s k c0, c1, Mom.glue_colon, Mom.glue_nil]; simp
      clear c1
      go_wp2_with (first | (at_builtin; refine wpList_append_own _ rfl _ _ 35 rfl w.heap.size 9 i0 (.string ByteArray.empty) 1 16 Tryz.underlying35 hi hz0 hz1 hz2 rfl (by decide) (.slice av n cap) n (strs dn) rfl (OwnsC.own) _ 1 1 [.string ⟨cur.toArray⟩] rfl rfl (new_cells' _ _ _ _ (by simp)) (by simp [Value.oneCell']) (by unfold maxLen; omega) (by omega) (GeW.ge) ?_; intro v' w1 hown1 hgrow1 _; obtain ⟨av', cap', rfl⟩ := owns_shape hown1; obtain ⟨y1, rfl⟩ := fin (Ext.grown (a := w) isext (OwnsC.own (e := 9) (size := 1) (n := n) (xs := strs dn)) hgrow1); clear hgrow1; have hO : OwnsC y1.x w.heap.size 9 1 (.slice av' (n + 1) cap') (n + 1) (strs (dn ++ [cur])) := ⟨by rw [strs_snoc]; exact hown1⟩))
      go_roundw
      case rel => exact ⟨k + 1, n + 1, dn ++ [cur], [], by omega, by omega, by simp, by go_num, rfl, by show _ = _; rw [List.length_append, Hn.out]; rfl, E, hO, isext⟩
      case measure => simp [intOf]; omega
    · have q1 : ((s[k].toNat : Int) == 58) = false := by
       rw [beq_eq_false_iff_ne]; intro e; exact c1 (UInt8.toNat_inj.1 (by show s[k].toNat = 58; omega))
      have E : Hid (Mom.splitC s.data.toList = dn ++ Mom.glue (cur ++ [s[k]]) (Mom.splitC (s.data.toList.drop (k + 1)))) := by
       show _ = _
       rw [Hl.out, mdrop_byte s k c0, Mom.glue_other _ _ _ c1]
      have e1 := one_byte s k c0
      have e2 := Lib.hid (app_byte cur s[k])
      have z1 : (⟨cur.toArray⟩ : ByteArray).size ≤ 5000 := by rw [lsz]; omega
      have z2 : (⟨#[s[k]]⟩ : ByteArray).size ≤ 1 := Nat.le_refl _
      have e1' := Lib.hid e1
      clear c1 e1
      go_wp2
      go_roundw
      case rel => exact ⟨k + 1, n, dn, cur ++ [s[k]], by omega, by omega, by simp; omega, by go_num, by first | (rw [← e2.out, ← e1'.out]) | (rw [← e2.out]), Hn, E, hown, isext⟩
      case measure => simp [intOf]; omega
  · have E : Hid (Mom.splitC s.data.toList = dn ++ [cur]) := by
     show _ = _
     rw [Hl.out, List.drop_eq_nil_of_le (by simp; omega), Mom.glue_end]
    go_wp2_with (first | (at_builtin; refine wpList_append_own _ rfl _ _ 35 rfl w.heap.size 9 i0 (.string ByteArray.empty) 1 16 Tryz.underlying35 hi hz0 hz1 hz2 rfl (by decide) (.slice av n cap) n (strs dn) rfl (OwnsC.own) _ 1 1 [.string ⟨cur.toArray⟩] rfl rfl (new_cells' _ _ _ _ (by simp)) (by simp [Value.oneCell']) (by unfold maxLen; omega) (by omega) (GeW.ge) ?_; intro v' w1 hown1 hgrow1 _; obtain ⟨av', cap', rfl⟩ := owns_shape hown1; obtain ⟨y1, rfl⟩ := fin (Ext.grown (a := w) isext (OwnsC.own (e := 9) (size := 1) (n := n) (xs := strs dn)) hgrow1); clear hgrow1; have hO : OwnsC y1.x w.heap.size 9 1 (.slice av' (n + 1) cap') (n + 1) (strs (dn ++ [cur])) := ⟨by rw [strs_snoc]; exact hown1⟩))
    go_ret
    exact parts_end (v := .slice av' (n + 1) cap') (n := n + 1) (ls := dn ++ [cur]) (by rw [List.length_append, Hn.out]; rfl) E.out
end Go.Proofs.YtdhbgelijjlifaaGreatDoor
namespace Go.Proofs.YtdhbgelijjlifaaGreatDoor
open Go.RowKit
def optV : Option Int → Value
 | none => .tuple #[.int .i64 0, .bool false]
 | some n => .tuple #[.int .i64 n, .bool true]
theorem sum_no {p : List UInt8} {ps : List (List UInt8)} {u n k : Int} (hk : Mom.numR p 2 2 = k) (h : k < 0 ∨ 59 < k) : Mom.sumR (p :: ps) u n = none := by subst hk; exact if_pos h
theorem sum_yes {p : List UInt8} {ps : List (List UInt8)} {u n k : Int} (hk : Mom.numR p 2 2 = k) (h : ¬ (k < 0 ∨ 59 < k)) : Mom.sumR (p :: ps) u n = Mom.sumR ps 1 (n + k * u) := by subst hk; exact if_neg h
set_option maxRecDepth 100000 in
set_option maxHeartbeats 4000000 in
theorem rbare_any (l : List UInt8) (w : World) (hs : l.length ≤ 4000) : Rets Tryz.prog 128 #[.string ⟨l.toArray⟩] w (optV (Mom.bareR l)) := by
 have HP := fun w => Lib.hid (parts_any ⟨l.toArray⟩ w (by rw [lsz]; omega))
 have hne := Mom.splitC_ne l
 have hlen := Mom.split_len l
 have heach := Mom.split_each l
 obtain ⟨ws, hws⟩ : ∃ ws, Mom.splitC l = ws := ⟨_, rfl⟩
 obtain ⟨N, hN⟩ : ∃ N, ws.length = N := ⟨_, rfl⟩
 simp only [hws] at HP hne hlen heach
 have hN1 : 1 ≤ N := by
  rcases Nat.eq_zero_or_pos N with h | h
  · exact absurd (List.eq_nil_of_length_eq_zero (hN.trans h)) hne
  · exact h
 have hN2 : N ≤ 4001 := by omega
 have h0 : 0 < ws.length := by omega
 obtain ⟨h, hh⟩ : ∃ h, Mom.numR ws[0] 1 3 = h := ⟨_, rfl⟩
 have hb := numR_le ws[0] 1 3 (by omega)
 rw [hh] at hb
 have HN1 := fun w => Lib.hid (hh ▸ rnumber_list ws[0] 1 3 w (by omega) (by omega) (by have := heach _ (List.getElem_mem h0); unfold maxLen; omega))
 have HN2 := Lib.hid (fun p (hp : p ∈ ws) w => rnumber_list p 2 2 w (by omega) (by omega) (by have := heach p hp; unfold maxLen; omega))
 have EB : Hid (Mom.bareR l = if 3 < N ∨ h < 0 ∨ 167 < h then none else Mom.sumR (ws.drop 1) 60 (3600 * h)) := by
  show _ = _
  unfold Mom.bareR
  rw [hws]
  obtain ⟨p, ps, e⟩ : ∃ p ps, ws = p :: ps := by
   cases hw : ws with
   | nil => exact absurd hw hne
   | cons p ps => exact ⟨p, ps, rfl⟩
  subst e
  simp only [List.getElem_cons_zero] at hh
  simp only [hh, hN, List.drop_succ_cons, List.drop_zero]
 have HL := Lib.hid hN
 clear hws hne hlen heach hN hs
 generalize hw0 : ws[0] = p0 at *
 have HW0 := Lib.hid hw0
 clear hh hw0
 unfold Rets
 by_cases c : 3 < N ∨ h < 0 ∨ 167 < h
 · have E : Hid (optV (Mom.bareR l) = .tuple #[.int .i64 0, .bool false]) := by show _ = _; rw [EB.out, if_pos c]; rfl
   have c' : (3 : Int) < N ∨ decide ((3 : Int) < N) = false ∧ decide (3 < N) = false ∧ h < 0 ∨ decide ((3 : Int) < N) = false ∧ decide (3 < N) = false ∧ decide (h < 0) = false ∧ 167 < h := by
    by_cases d1 : 3 < N
    · exact .inl (by omega)
    · by_cases d2 : h < 0
      · exact .inr (.inl ⟨decide_eq_false (by omega), decide_eq_false d1, d2⟩)
      · exact .inr (.inr ⟨decide_eq_false (by omega), decide_eq_false d1, decide_eq_false d2, by omega⟩)
   clear c EB
   go_enter Tryz.func128, Tryz.ntmps128
   go_wp2_with fail
   refine (HP _).out.mono ?_
   rintro _ _ ⟨v, y, rfl, hr, rfl⟩
   simp only [HL.out] at hr
   rcases hr with ⟨a9, c9, rfl, hz, _⟩ | ⟨b, o, cp, rfl, k1, k2, hbk, hc⟩
   · omega
   haveI : InW b y.x := ⟨hbk⟩
   have f0 : y.x.cell? ⟨b, o, none⟩ = some (.string ⟨p0.toArray⟩) := by have := strs_at hc 0 h0; rw [HW0.out] at this; exact this
   clear hc
   rcases c' with d1 | ⟨d1, d2, d3⟩ | ⟨d1, d2, d3, d4⟩
   all_goals
    go_wp2_with (go_at_call 153; refine Rets.use (HN1 _).out ?_; intro _)
    go_ret2
    exact ⟨by rw [E.out]; first | done | rfl | simp, done⟩
 · have B : Hid (Mom.bareR l = Mom.sumR (ws.drop 1) 60 (3600 * h)) := by show _ = _; rw [EB.out, if_neg c]
   have d1 : decide ((3 : Int) < N) = false := decide_eq_false (by omega)
   have d2 : decide (3 < N) = false := decide_eq_false (by omega)
   have d3 : decide (h < 0) = false := decide_eq_false (by omega)
   have d4 : decide (167 < h) = false := decide_eq_false (by omega)
   have d5 : 0 ≤ h ∧ h ≤ 167 ∧ N ≤ 3 := by omega
   obtain ⟨d5, d6, d7⟩ := d5
   clear c EB
   go_enter Tryz.func128, Tryz.ntmps128
   go_wp2_with fail
   refine (HP _).out.mono ?_
   rintro _ _ ⟨v, y, rfl, hr, rfl⟩
   simp only [HL.out] at hr
   rcases hr with ⟨a9, c9, rfl, hz, _⟩ | ⟨b, o, cp, rfl, k1, k2, hbk, hc⟩
   · omega
   haveI : InW b y.x := ⟨hbk⟩
   have f0 : y.x.cell? ⟨b, o, none⟩ = some (.string ⟨p0.toArray⟩) := by have := strs_at hc 0 h0; rw [HW0.out] at this; exact this
   have HC := Lib.hid hc
   clear hc
   go_wp2_with fail
   refine Rets.use (HN1 _).out ?_
   intro y2
   go_wp2
   go_loopw [6, 7, 8] (fun nv uv iv wr => ∃ (j : Nat) (n U : Int), 1 ≤ j ∧ j ≤ N ∧ iv = .int .i64 j ∧ nv = .int .i64 n ∧ uv = .int .i64 U ∧ 1 ≤ U ∧ U ≤ 60 ∧ 0 ≤ n ∧ n ≤ 601200 + 3600 * (j : Int) ∧ Hid (Mom.bareR l = Mom.sumR (ws.drop j) U n) ∧ Ext y.x wr) (fun _ _ iv _ => N - (intOf iv).toNat)
   case atStart => exact ⟨1, _, 60, by omega, by omega, rfl, rfl, rfl, by omega, by omega, by omega, by omega, B, isext⟩
   case round =>
    obtain ⟨j, n, U, j1, j2, rfl, rfl, rfl, u1, u2, n1, n2, hB, hx⟩ := hrel
    obtain ⟨yr, rfl⟩ := fin hx
    clear hx
    by_cases hlt : j < N
    · have hj : j < ws.length := by rw [HL.out]; exact hlt
      have f1 := strs_at HC.out j hj
      obtain ⟨k, hk⟩ : ∃ k, Mom.numR ws[j] 2 2 = k := ⟨_, rfl⟩
      have kb := numR_le ws[j] 2 2 (by omega)
      rw [hk] at kb
      have HNj := fun w => Lib.hid (hk ▸ HN2.out ws[j] (List.getElem_mem hj) w)
      have W := Lib.hid (hB.out.trans (by rw [List.drop_eq_getElem_cons hj]))
      have NO := Lib.hid (fun h2 => W.out.trans (sum_no hk h2))
      have YES := Lib.hid (fun h2 => W.out.trans (sum_yes hk h2))
      generalize ws[j] = p at *
      clear hk hj W
      by_cases c : k < 0 ∨ 59 < k
      · have E : Hid (optV (Mom.bareR l) = .tuple #[.int .i64 0, .bool false]) := by show _ = _; rw [NO.out c]; rfl
        have c' : k < 0 ∨ decide (k < 0) = false ∧ 59 < k := by
         by_cases g : k < 0
         · exact .inl g
         · exact .inr ⟨decide_eq_false g, by omega⟩
        clear c
        rcases c' with g1 | ⟨g1, g2⟩
        all_goals
         go_wp2_with (go_at_call 153; refine Rets.use (HNj _).out ?_; intro _)
         go_ret2
         exact ⟨by rw [E.out]; first | done | rfl | simp, done⟩
      · have E := Lib.hid (YES.out c)
        have g1 : decide (k < 0) = false := decide_eq_false (by omega)
        have g2 : decide (59 < k) = false := decide_eq_false (by omega)
        have k0 : 0 ≤ k ∧ k ≤ 59 := by omega
        obtain ⟨k0, k5⟩ := k0
        have hmul : 0 ≤ k * U ∧ k * U ≤ 3540 := ⟨Int.mul_nonneg k0 (by omega), by
         have : k * U ≤ 59 * 60 := Int.mul_le_mul k5 u2 (by omega) (by omega)
         omega⟩
        obtain ⟨m1, m2⟩ := hmul
        clear c
        go_wp2_with (go_at_call 153; refine Rets.use (HNj _).out ?_; intro _)
        go_roundw
        case rel => exact ⟨j + 1, n + k * U, 1, by omega, by omega, by go_num, by first | rfl | go_num, rfl, by omega, by omega, by omega, by omega, E, isext⟩
        case measure => simp [intOf]; omega
    · have E : Hid (optV (Mom.bareR l) = .tuple #[.int .i64 n, .bool true]) := by
       show _ = _
       rw [hB.out, List.drop_eq_nil_of_le (by rw [HL.out]; omega)]; rfl
      go_wp2
      go_ret2
      exact ⟨by rw [E.out]; first | done | rfl | simp, done⟩
end Go.Proofs.YtdhbgelijjlifaaGreatDoor
namespace Go.Proofs.YtdhbgelijjlifaaGreatDoor
open Go.RowKit
theorem head_byte {S : ByteArray} {c : UInt8} {r : List UInt8} (h : S.data.toList = c :: r) : ∃ hl : 0 < S.size, S[0] = c := by
 have hz : S.size = S.data.toList.length := by simp
 have hl : 0 < S.size := by rw [hz, h]; simp
 refine ⟨hl, ?_⟩
 have e : S[0] = S.data.toList[0]'(by rw [← hz]; exact hl) := rfl
 rw [e]; simp only [h]; simp
theorem last_byte {S : ByteArray} {c : UInt8} {l' : List UInt8} (h : S.data.toList = l' ++ [c]) : ∃ hl : l'.length < S.size, S[l'.length] = c := by
 have hz : S.size = S.data.toList.length := by simp
 have hl : l'.length < S.size := by rw [hz, h]; simp
 refine ⟨hl, ?_⟩
 have e : S[l'.length] = S.data.toList[l'.length]'(by rw [← hz]; exact hl) := rfl
 rw [e]; simp only [h]; simp
theorem last_byte' {S : ByteArray} {c : UInt8} {l' : List UInt8} {M : Nat} (h : S.data.toList = l' ++ [c]) (hM : l'.length = M) : ∃ hl : M < S.size, S[M] = c := by
 subst hM; exact last_byte h
set_option maxRecDepth 100000 in
set_option maxHeartbeats 2000000 in
theorem rspan_any (l : List UInt8) (w : World) (hs : l.length ≤ 4000) : Rets Tryz.prog 113 #[.string ⟨l.toArray⟩] w (optV (Mom.spanR l)) := by
 obtain ⟨S, hS⟩ : ∃ S : ByteArray, S = ⟨l.toArray⟩ := ⟨_, rfl⟩
 have hl : S.data.toList = l := by rw [hS]
 have hz : S.size = l.length := by rw [hS, lsz]
 by_cases h : ∃ r, l = 45 :: r
 · obtain ⟨r, rfl⟩ := h
   by_cases h0 : r = []
   · subst h0
     have E : Hid (optV (Mom.spanR [45]) = .tuple #[.int .i64 0, .bool true]) := rfl
     clear hS hl hz
     unfold Rets
     go_enter Tryz.func113, Tryz.ntmps113
     go_wp2
     go_ret2
     exact ⟨by rw [E.out]; first | done | rfl, done⟩
   · have HB := fun w => Lib.hid (rbare_any r w (by simp at hs; omega))
     have E : Hid (Mom.spanR (45 :: r) = (Mom.bareR r).map (fun n => -n)) := by show (if r = [] then _ else _) = _; rw [if_neg h0]
     have e1 : (S.toList == [45]) = false := by
      rw [Lib.toList_data, hl, beq_eq_false_iff_ne]; intro e; exact h0 (List.cons.inj e).2
     have e2 : (S == ⟨#[45]⟩) = false := by rw [beq_toListBytes, Lib.toList_data, Lib.toList_data, hl, beq_eq_false_iff_ne]; intro e; exact h0 (List.cons.inj e).2
     obtain ⟨s0, b0⟩ := head_byte hl
     have T : Hid (S.extract 1 S.size = ⟨r.toArray⟩) := by show _ = _; rw [ext_drop, hl]; rfl
     have b1 : ((S[0].toNat : Int) == 45) = true := by rw [b0]; rfl
     have hz2 : S.size ≤ 4000 := by omega
     rw [← hS]
     cases hb : Mom.bareR r with
     | none =>
       have E2 : Hid (optV (Mom.spanR (45 :: r)) = .tuple #[.int .i64 0, .bool false]) := by show _ = _; rw [E.out, hb]; rfl
       rw [hb] at HB
       unfold optV at HB
       clear hS hl hz hb h0 b0 hs
       unfold Rets
       go_enter Tryz.func113, Tryz.ntmps113
       go_wp2_with fail
       rw [T.out]
       refine Rets.use (HB _).out ?_
       intro _
       go_wp2
       go_ret2
       exact ⟨by rw [E2.out]; first | done | rfl, done⟩
     | some n =>
       have E2 : Hid (optV (Mom.spanR (45 :: r)) = .tuple #[.int .i64 (-n), .bool true]) := by show _ = _; rw [E.out, hb]; rfl
       rw [hb] at HB
       unfold optV at HB
       have nb : 0 ≤ n ∧ n ≤ 1000000 := Mom.bare_bd hb
       obtain ⟨nb1, nb2⟩ := nb
       clear hS hl hz hb h0 b0 hs
       unfold Rets
       go_enter Tryz.func113, Tryz.ntmps113
       go_wp2_with fail
       rw [T.out]
       refine Rets.use (HB _).out ?_
       intro _
       go_wp2
       go_ret2
       exact ⟨by rw [E2.out]; first | done | rfl, done⟩
 · have h' : ∀ r, l ≠ 45 :: r := fun r e => h ⟨r, e⟩
   have E : Hid (Mom.spanR l = Mom.bareR l) := by
    show _ = _; unfold Mom.spanR; split
    · rename_i r; exact absurd rfl (h' r)
    · rfl
   have HB := fun w => Lib.hid (rbare_any l w hs)
   have e1 : (S.toList == [45]) = false := by
    rw [Lib.toList_data, hl, beq_eq_false_iff_ne]; exact h' []
   have e2 : (S == ⟨#[45]⟩) = false := by rw [beq_toListBytes, Lib.toList_data, Lib.toList_data, hl, beq_eq_false_iff_ne]; exact h' []
   have hz2 : S.size ≤ 4000 := by omega
   rw [← hS] at HB ⊢
   cases l with
   | nil =>
     have s0 : decide (0 < S.size) = false := decide_eq_false (by rw [hz]; simp)
     have s1 : decide ((0 : Int) < S.size) = false := decide_eq_false (by rw [hz]; simp)
     clear hS hl hz h h' hs
     rw [E.out]
     unfold Rets
     cases hb : Mom.bareR ([] : List UInt8) with
     | none =>
       rw [hb] at HB
       unfold optV at HB ⊢
       go_enter Tryz.func113, Tryz.ntmps113
       go_wp2_with fail
       refine Rets.use (HB _).out ?_
       intro _
       go_wp2
       go_ret2
       exact ⟨rfl, done⟩
     | some n =>
       rw [hb] at HB
       unfold optV at HB ⊢
       go_enter Tryz.func113, Tryz.ntmps113
       go_wp2_with fail
       refine Rets.use (HB _).out ?_
       intro _
       go_wp2
       go_ret2
       exact ⟨rfl, done⟩
   | cons c r =>
     obtain ⟨s0, b0⟩ := head_byte hl
     have hc : c ≠ 45 := fun e => h' r (by rw [e])
     have b1 : ((S[0].toNat : Int) == 45) = false := by
      rw [b0, beq_eq_false_iff_ne]; intro e; exact hc (UInt8.toNat_inj.1 (by show c.toNat = 45; omega))
     clear hS hl hz h h' hs b0 hc
     rw [E.out]
     unfold Rets
     cases hb : Mom.bareR (c :: r) with
     | none =>
       rw [hb] at HB
       unfold optV at HB ⊢
       go_enter Tryz.func113, Tryz.ntmps113
       go_wp2_with fail
       refine Rets.use (HB _).out ?_
       intro _
       go_wp2
       go_ret2
       exact ⟨rfl, done⟩
     | some n =>
       rw [hb] at HB
       unfold optV at HB ⊢
       go_enter Tryz.func113, Tryz.ntmps113
       go_wp2_with fail
       refine Rets.use (HB _).out ?_
       intro _
       go_wp2
       go_ret2
       exact ⟨rfl, done⟩
end Go.Proofs.YtdhbgelijjlifaaGreatDoor
