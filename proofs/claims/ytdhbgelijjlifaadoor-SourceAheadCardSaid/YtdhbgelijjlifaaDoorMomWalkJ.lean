/- Walks of moments: which of some names. -/
import Derived.Test.YtdhbgelijjlifaaDoorMomWalkE
import Derived.Lib.IndexMore
set_option linter.unusedVariables false
set_option linter.unusedSimpArgs false
namespace Go.Proofs.YtdhbgelijjlifaaDoor
open Go.RowKit

theorem reads_new (w : World) (ws : List (List UInt8)) (t : TypeId) (n : Nat) (hn : ws.length = n) (h : n ≤ 100) : Reads (w.alloc (.cells (strs ws).toArray t)) (.slice (some ⟨w.heap.size, 0, none⟩) n n) n (strs ws) := by
  refine .inr ⟨_, 0, n, rfl, Nat.le_refl _, by unfold maxLen; omega, by simp, fun i u hu => ?_⟩
  have := new_cells w (strs ws) t i u hu
  rw [show (⟨w.heap.size, 0, none⟩ : Addr).add i = ⟨w.heap.size, 0 + i, none⟩ by unfold Addr.add; split <;> simp_all] at this
  exact this
theorem small_mem {ws : List (List UInt8)} (h : ws.all (fun w => Mom.small w && decide (w.length ≤ 100)) = true) {v : List UInt8} (hv : v ∈ ws) : Mom.small v = true ∧ v.length ≤ 100 := by
  have := List.all_eq_true.1 h v hv
  simp at this; exact this
/-- A call that returns a list of texts. -/
def TextsRet (f : FuncId) (w : World) (ws : List (List UInt8)) (n : Nat) : Prop := Calls Tryd.prog f #[] w fun e w' => ∃ v, ∃ y : Past w, e = .returned v ∧ Reads y.x v n (strs ws) ∧ w' = y.x
set_option maxRecDepth 100000 in
set_option maxHeartbeats 2000000 in
theorem months_any (w : World) : TextsRet 71 w (Mom.monthsL.map Mom.great) 12 := by
  have K := Lib.hid (reads_new w (Mom.monthsL.map Mom.great) 9 12 rfl (by omega))
  unfold TextsRet
  go_enter Tryd.func71, Tryd.ntmps71
  go_wp2
  go_ret
  exact ⟨_, ⟨w.alloc (.cells (strs (Mom.monthsL.map Mom.great)).toArray 9), (Ext.refl w).alloc _⟩, rfl, K.out, rfl⟩
set_option maxRecDepth 100000 in
set_option maxHeartbeats 2000000 in
theorem weekdays_any (w : World) : TextsRet 83 w (Mom.daysL.map Mom.great) 7 := by
  have K := Lib.hid (reads_new w (Mom.daysL.map Mom.great) 9 7 rfl (by omega))
  unfold TextsRet
  go_enter Tryd.func83, Tryd.ntmps83
  go_wp2
  go_ret
  exact ⟨_, ⟨w.alloc (.cells (strs (Mom.daysL.map Mom.great)).toArray 9), (Ext.refl w).alloc _⟩, rfl, K.out, rfl⟩

def foundN (k : Nat) : Value := .tuple #[.int .i64 (k : Int), .bool (decide (k ≠ 0))]
set_option maxRecDepth 100000 in
set_option maxHeartbeats 2000000 in
theorem named_any (s : List UInt8) (ws : List (List UInt8)) (n : Nat) (hn : ws.length = n) (v : Value) (w : World) (hs : s.length ≤ maxLen) (hsm : ws.all (fun w => decide (w.length ≤ 100)) = true) (n0 : 0 < n) (n1 : n ≤ 100) (hr : Reads w v n (strs ws)) :
    Rets Tryd.prog 70 #[.string ⟨s.toArray⟩, v] w (foundN (Mom.whichP s (ws.map Mom.low) 1)) := by
  rcases hr with ⟨a9, c9, rfl, h0, h3⟩ | ⟨b, o, c, rfl, h1, h2, hb, hc⟩
  · omega
  haveI : InW b w := ⟨hb⟩
  have HC := Lib.hid hc
  have HN := Lib.hid hn
  have hl : n ≤ 9223372036854775807 := by unfold maxLen at h2; omega
  have HW := fun v (hv : v ∈ ws) => Lib.hid (fun w => lower_any v w (by have := of_decide_eq_true (List.all_eq_true.1 hsm v hv); unfold maxLen; omega))
  have HSl := Lib.hid (fun w => lower_any s w hs)
  have hz : Hid ((⟨s.toArray⟩ : ByteArray).size = s.length) := lsz s
  have hs1 : s.length ≤ 9223372036854775807 := by unfold maxLen at hs; omega
  have HP : Hid (∀ (p q : List UInt8) w, Rets Tryd.prog 80 #[.string ⟨p.toArray⟩, .string ⟨q.toArray⟩] w (.bool (q.isPrefixOf p))) := fun p q w => by
    refine Calls.mono (Tryd.strings_HasPrefix ⟨p.toArray⟩ ⟨q.toArray⟩ w) ?_
    rintro _ _ ⟨rfl, rfl⟩
    exact ⟨by simp [Lib.hasPrefix], done⟩
  clear hc hn hsm hs
  unfold Rets
  go_enter Tryd.func70, Tryd.ntmps70
  go_wp2
  go_loopw [10] (fun i wr => ∃ j : Nat, j ≤ n ∧ i = .int .i64 j ∧ Hid (Mom.whichP s (ws.map Mom.low) 1 = Mom.whichP s ((ws.drop j).map Mom.low) (j + 1)) ∧ Ext w wr) (fun i _ => n - (intOf i).toNat)
  case atStart => exact ⟨0, by omega, rfl, rfl, isext⟩
  case round =>
    obtain ⟨j, j1, rfl, hw, hx⟩ := hrel
    obtain ⟨yr, rfl⟩ := fin hx
    clear hx
    by_cases hlt : j < n
    · have hj : j < ws.length := by rw [HN.out]; exact hlt
      have f1 := strs_at HC.out j hj
      have HA := HW _ (List.getElem_mem hj)
      have W := Lib.hid (hw.out.trans (by rw [List.drop_eq_getElem_cons hj, List.map_cons]))
      generalize ws[j] = v at *
      by_cases c0 : s.length < 3
      · have E := Lib.hid (W.out.trans (Mom.which_no (Mom.name_short c0)))
        have c1 : decide (3 ≤ s.length) = false := decide_eq_false (by omega)
        have c2 : decide ((3 : Int) ≤ s.length) = false := decide_eq_false (by omega)
        clear hj
        go_wp2
        go_roundw
        case rel => exact ⟨j + 1, by omega, by go_num, E, isext⟩
        case measure => simp [intOf]; omega
      · have c1 : 3 ≤ s.length := by omega
        have ND : Hid (Mom.nameB s (Mom.low v) = (Mom.low s).isPrefixOf (Mom.low v)) := by show _ = _; unfold Mom.nameB; rw [decide_eq_true c1, Bool.true_and]
        cases hb : (Mom.low s).isPrefixOf (Mom.low v)
        · have E := Lib.hid (W.out.trans (Mom.which_no (ND.out.trans hb)))
          have HP2 := Lib.hid (fun w => HP.out (Mom.low v) (Mom.low s) w)
          rw [hb] at HP2
          clear hb hj c0
          go_wp2_with fail
          refine Rets.use (HA.out _) ?_
          intro _
          go_wp2_with fail
          refine Rets.use (HSl.out _) ?_
          intro _
          go_wp2_with fail
          refine Rets.use (HP2.out _) ?_
          intro _
          go_wp2
          go_roundw
          case rel => exact ⟨j + 1, by omega, by go_num, E, isext⟩
          case measure => simp [intOf]; omega
        · have E := Lib.hid (W.out.trans (Mom.which_yes (ND.out.trans hb)))
          have HP2 := Lib.hid (fun w => HP.out (Mom.low v) (Mom.low s) w)
          rw [hb] at HP2
          clear hb hj c0
          go_wp2_with fail
          refine Rets.use (HA.out _) ?_
          intro _
          go_wp2_with fail
          refine Rets.use (HSl.out _) ?_
          intro _
          go_wp2_with fail
          refine Rets.use (HP2.out _) ?_
          intro _
          go_wp2
          go_ret2
          exact ⟨by rw [E.out]; simp [foundN], done⟩
    · have E := Lib.hid (hw.out.trans (by rw [List.drop_eq_nil_of_le (by rw [HN.out]; omega)]; rfl : _ = 0))
      go_wp2
      go_ret2
      exact ⟨by rw [E.out]; first | done | rfl, done⟩
theorem low_months : (Mom.monthsL.map Mom.great).map Mom.low = Mom.monthsL := by decide
theorem low_days : (Mom.daysL.map Mom.great).map Mom.low = Mom.daysL := by decide
set_option maxHeartbeats 1000000 in
theorem month_any (s : List UInt8) (w : World) (hs : s.length ≤ maxLen) : Rets Tryd.prog 56 #[.string ⟨s.toArray⟩] w (foundN (Mom.monthI s)) := by
  have K := fun (y : Past w) v hr => Lib.hid (named_any s (Mom.monthsL.map Mom.great) 12 rfl v y.x hs (by decide) (by omega) (by omega) hr)
  rw [low_months] at K
  clear hs
  unfold Rets
  go_enter Tryd.func56, Tryd.ntmps56
  go_wp2_with fail
  refine (months_any _).mono ?_
  rintro _ _ ⟨v, y, rfl, hr, rfl⟩
  go_wp2_with fail
  refine Rets.use1 (K y v hr).out ?_
  intro _
  unfold foundN
  go_wp2
  go_ret2
  exact ⟨by unfold foundN Mom.monthI; by_cases k0 : Mom.whichP s Mom.monthsL 1 = 0 <;> simp [k0], done⟩
set_option maxHeartbeats 1000000 in
theorem weekday_any (s : List UInt8) (w : World) (hs : s.length ≤ maxLen) : Rets Tryd.prog 73 #[.string ⟨s.toArray⟩] w (foundN (Mom.dayI s)) := by
  have K := fun (y : Past w) v hr => Lib.hid (named_any s (Mom.daysL.map Mom.great) 7 rfl v y.x hs (by decide) (by omega) (by omega) hr)
  rw [low_days] at K
  clear hs
  unfold Rets
  go_enter Tryd.func73, Tryd.ntmps73
  go_wp2_with fail
  refine (weekdays_any _).mono ?_
  rintro _ _ ⟨v, y, rfl, hr, rfl⟩
  go_wp2_with fail
  refine Rets.use1 (K y v hr).out ?_
  intro _
  unfold foundN
  go_wp2
  go_ret2
  exact ⟨by unfold foundN Mom.dayI; by_cases k0 : Mom.whichP s Mom.daysL 1 = 0 <;> simp [k0], done⟩
end Go.Proofs.YtdhbgelijjlifaaDoor
set_option linter.unusedVariables false
set_option linter.unusedSimpArgs false
namespace Go.Proofs.YtdhbgelijjlifaaDoor
namespace Mom
theorem numR_ub (l : List UInt8) (least most : Nat) (hm : most ≤ 3) : numR l least most ≤ 999 := by
  by_cases h : 0 ≤ numR l least most
  · obtain ⟨h1, h2, h3, h4⟩ := numR_yes h
    have h5 := numOf_bd l 0 h3
    have h6 : (10 : Nat) ^ l.length ≤ 10 ^ 3 := Nat.pow_le_pow_right (by omega) (by omega)
    rw [h4]; unfold numOf; omega
  · omega
theorem sum_bd : ∀ (ps : List (List UInt8)) (u n m : Int), 0 ≤ u → u ≤ 60 → 0 ≤ n → sumR ps u n = some m → n ≤ m ∧ m ≤ n + 3540 * ps.length
  | [], u, n, m, _, _, _, h => by cases h; simp
  | p :: ps, u, n, m, h1, h2, h3, h => by
    unfold sumR at h
    split at h
    · cases h
    · rename_i c
      have hk0 : 0 ≤ numR p 2 2 := by omega
      have hk1 : numR p 2 2 ≤ 59 := by omega
      generalize numR p 2 2 = k at *
      have m1 : 0 ≤ k * u := Int.mul_nonneg hk0 h1
      have m2 : k * u ≤ 59 * 60 := Int.mul_le_mul hk1 h2 h1 (by omega)
      have := sum_bd ps 1 (n + k * u) m (by omega) (by omega) (by omega) h
      simp; omega
theorem bare_bd {l : List UInt8} {n : Int} (h : bareR l = some n) : 0 ≤ n ∧ n ≤ 1000000 := by
  unfold bareR at h
  split at h
  · cases h
  · rename_i p ps e
    split at h
    · cases h
    · rename_i c
      have hh : 0 ≤ numR p 1 3 := by omega
      have hh2 : numR p 1 3 ≤ 167 := by omega
      generalize numR p 1 3 = k at *
      have := sum_bd ps 60 (3600 * k) n (by omega) (by omega) (by omega) h
      have hl : (p :: ps).length ≤ 3 := by omega
      simp at hl
      omega
/-- A day's number; 0: it is none. -/
def dnum (l : List UInt8) : Int := if 1 ≤ numR l 1 2 ∧ numR l 1 2 ≤ 31 then numR l 1 2 else 0
theorem dnum_bd (l : List UInt8) : 0 ≤ dnum l ∧ dnum l ≤ 31 := by unfold dnum; split <;> omega
theorem days_ok (l : List UInt8) (k : Nat) (hk : nD 2 l = k) (h : 1 ≤ k ∧ l.drop k = [] ∧ 1 ≤ numOf (l.take k) ∧ numOf (l.take k) ≤ 31) : dnum l = (numOf (l.take k) : Nat) := by
  subst hk
  have := part_num (a := l) (least := 1) (most := 2) h.1 h.2.1
  unfold dnum; rw [this, if_pos (by omega)]
theorem days_no (l : List UInt8) (k : Nat) (hk : nD 2 l = k) (h : ¬ (1 ≤ k ∧ l.drop k = [] ∧ 1 ≤ numOf (l.take k) ∧ numOf (l.take k) ≤ 31)) : dnum l = 0 := by
  unfold dnum
  by_cases c : 1 ≤ numR l 1 2 ∧ numR l 1 2 ≤ 31
  · exfalso
    have hp := part_num' (a := l) (least := 1) (most := 2) (by omega)
    rw [hp.1] at hk
    subst hk
    exact h ⟨hp.2.1, List.drop_length, by rw [List.take_length]; omega, by rw [List.take_length]; omega⟩
  · rw [if_neg c]
/-- Where such a sign with an equals sign behind it stands first. -/
def signL (c : UInt8) : List UInt8 → Option Nat
  | [] => none
  | [_] => none
  | a :: b :: l => if a = c ∧ b = 61 then some 0 else (signL c (b :: l)).map (· + 1)
theorem index_sign (c : UInt8) : ∀ l : List UInt8, Lib.index l [c, 61] = match signL c l with | some i => (i : Int) | none => -1
  | [] => rfl
  | [a] => by
    unfold Lib.index
    rw [if_neg (by simp [List.isPrefixOf])]
    rfl
  | a :: b :: l => by
    have ih := index_sign c (b :: l)
    unfold Lib.index signL
    by_cases h : a = c ∧ b = 61
    · rw [if_pos h, if_pos (by simp [List.isPrefixOf, h.1, h.2])]; rfl
    · rw [if_neg h, if_neg (by simp [List.isPrefixOf]; intro e1 e2; exact h ⟨e1.symm, e2.symm⟩), ih]
      cases hs : signL c (b :: l) with
      | none => rfl
      | some i => simp
theorem sign_lt (c : UInt8) : ∀ (l : List UInt8) (i : Nat), signL c l = some i → i + 2 ≤ l.length
  | [], i, h => by cases h
  | [a], i, h => by cases h
  | a :: b :: l, i, h => by
    unfold signL at h
    by_cases e : a = c ∧ b = 61
    · rw [if_pos e] at h; cases h; simp
    · rw [if_neg e] at h
      cases hs : signL c (b :: l) with
      | none => rw [hs] at h; cases h
      | some k =>
        rw [hs] at h; cases h
        have := sign_lt c (b :: l) k hs
        simp at this ⊢; omega
theorem cut_sign (c : UInt8) (l : List UInt8) : Lib.cut l [c, 61] = match signL c l with | some i => (l.take i, l.drop (i + 2), true) | none => (l, [], false) := by
  unfold Lib.cut
  rw [index_sign]
  cases hs : signL c l with
  | none => simp
  | some i => simp
/-- The search from a place on. -/
theorem sign_drop (c : UInt8) (l : List UInt8) (k : Nat) (h : k + 1 < l.length) : signL c (l.drop k) = if l[k] = c ∧ l[k + 1] = 61 then some 0 else (signL c (l.drop (k + 1))).map (· + 1) := by
  rw [List.drop_eq_getElem_cons (by omega), List.drop_eq_getElem_cons (by omega)]
  rfl
theorem sign_end (c : UInt8) (l : List UInt8) (k : Nat) (h : l.length ≤ k + 1) : signL c (l.drop k) = none := by
  rcases hd : l.drop k with _ | ⟨a, _ | ⟨b, r⟩⟩
  · rfl
  · rfl
  · have := congrArg List.length hd
    simp at this; omega
/-- A day: its kind, the weekday, the number. -/
def dayAt (kind : Int) (a b : List UInt8) : Option (Int × Int × Int) := if dayI a ≠ 0 ∧ dnum b ≠ 0 then some (kind, (dayI a : Int), dnum b) else none
def dayN (l : List UInt8) : Option (Int × Int × Int) := match signL 62 l with
  | some i => dayAt 2 (l.take i) (l.drop (i + 2))
  | none => match signL 60 l with
    | some i => dayAt 3 (l.take i) (l.drop (i + 2))
    | none => if dnum l ≠ 0 then some (0, 0, dnum l) else none
def dayL (r : List UInt8) : Option (Int × Int × Int) := if dayI r ≠ 0 then some (1, (dayI r : Int), 0) else none
def dayR (l : List UInt8) : Option (Int × Int × Int) := if l.take 4 = [108, 97, 115, 116] then dayL (l.drop 4) else dayN l
/-! Parts, one by one. -/
def glue (cur : List UInt8) : List (List UInt8) → List (List UInt8)
  | [] => [cur]
  | p :: ps => (cur ++ p) :: ps
theorem glue_end (cur : List UInt8) : glue cur (splitC []) = [cur] := by simp [splitC, glue]
theorem glue_colon (cur r : List UInt8) : glue cur (splitC (58 :: r)) = cur :: splitC r := by simp [splitC, glue]
theorem glue_other (cur r : List UInt8) (c : UInt8) (h : c ≠ 58) : glue cur (splitC (c :: r)) = glue (cur ++ [c]) (splitC r) := by
  simp only [splitC, if_neg h]
  cases hs : splitC r with
  | nil => exact absurd hs (splitC_ne r)
  | cons p ps => simp [glue]
theorem glue_nil (r : List UInt8) : glue [] (splitC r) = splitC r := by
  cases hs : splitC r with
  | nil => exact absurd hs (splitC_ne r)
  | cons p ps => rfl
theorem split_len : ∀ l : List UInt8, (splitC l).length ≤ l.length + 1
  | [] => by simp [splitC]
  | c :: l => by
    have := split_len l
    unfold splitC
    split
    · simp; omega
    · cases hs : splitC l with
      | nil => simp
      | cons p ps => rw [hs] at this; simp at this ⊢; omega
theorem split_each : ∀ (l : List UInt8), ∀ p ∈ splitC l, p.length ≤ l.length
  | [], p, h => by simp [splitC] at h; subst h; simp
  | c :: l, p, h => by
    have ih := split_each l
    unfold splitC at h
    split at h
    · rcases List.mem_cons.1 h with rfl | h
      · simp
      · have := ih p h; simp; omega
    · cases hs : splitC l with
      | nil => exact absurd hs (splitC_ne l)
      | cons q qs =>
        rw [hs] at h ih
        rcases List.mem_cons.1 h with rfl | h
        · have := ih q (by simp); simp; omega
        · have := ih p (by simp [h]); simp; omega
end Mom
end Go.Proofs.YtdhbgelijjlifaaDoor
set_option linter.unusedVariables false
set_option linter.unusedSimpArgs false
namespace Go.Proofs.YtdhbgelijjlifaaDoor
open Go.RowKit

theorem ltd (l : List UInt8) : ((⟨l.toArray⟩ : ByteArray)).data.toList = l := rfl
/-- A text that is none, as the walk asks it. -/
theorem is_empty {l : List UInt8} (h : l = []) : (⟨l.toArray⟩ : ByteArray).toList.isEmpty = true ∧ (⟨l.toArray⟩ : ByteArray).toList = [] ∧ l.isEmpty = true := by
  rw [ByteArray.toList_eq]; subst h; exact ⟨rfl, rfl, rfl⟩
theorem not_empty {l : List UInt8} (h : l ≠ []) : (⟨l.toArray⟩ : ByteArray).toList.isEmpty = false ∧ ¬ (⟨l.toArray⟩ : ByteArray).toList = [] ∧ l.isEmpty = false ∧ ¬ l = [] := by
  rw [ByteArray.toList_eq]; simp [h]
def daysV (l : List UInt8) (e w' : Value) : Prop := ∃ n : Int, e = .tuple #[.int .i64 n, w'] ∧ w' = .bool (decide (Mom.dnum l ≠ 0)) ∧ (Mom.dnum l ≠ 0 → n = Mom.dnum l)
set_option maxHeartbeats 2000000 in
/-- The program's number of a day. -/
theorem days_txt (l : List UInt8) (hs : l.length ≤ maxLen) : ∃ n : Int, (Mom.dnum l ≠ 0 → n = Mom.dnum l) ∧ ∀ w : World, Rets Tryd.prog 74 #[.string ⟨l.toArray⟩] w (.tuple #[.int .i64 n, .bool (decide (Mom.dnum l ≠ 0))]) := by
  obtain ⟨k, hk⟩ : ∃ k, Mom.nD 2 l = k := ⟨_, rfl⟩
  have HD := fun w => Lib.hid (digits_list l 1 2 k w (by omega) (by omega) hs hk)
  have OK := Lib.hid (Mom.days_ok l k hk)
  have NO := Lib.hid (Mom.days_no l k hk)
  have hn2 := num_2 l
  rw [hk] at hn2
  unfold digV at HD
  refine ⟨(Mom.numOf (l.take k) : Nat), fun h => ?_, fun w => ?_⟩
  · by_cases c : 1 ≤ k ∧ l.drop k = [] ∧ 1 ≤ Mom.numOf (l.take k) ∧ Mom.numOf (l.take k) ≤ 31
    · exact (OK.out c).symm
    · exact absurd (NO.out c) h
  generalize Mom.numOf (l.take k) = n at *
  generalize l.drop k = r at *
  clear hk hs
  unfold Rets
  by_cases c : 1 ≤ k ∧ r = [] ∧ 1 ≤ n ∧ n ≤ 31
  · have E : Hid (decide (Mom.dnum l ≠ 0) = true) := decide_eq_true (by rw [OK.out c]; omega)
    obtain ⟨c1, c2, c3, c4⟩ := c
    subst c2
    have d1 : decide (1 ≤ k) = true := decide_eq_true c1
    have d2 : (1 : Int) ≤ n := by omega
    have d3 : (n : Int) ≤ 31 := by omega
    go_enter Tryd.func74, Tryd.ntmps74
    go_wp2_with (first | (go_at_call 75; refine Rets.use (HD _).out ?_; intro _))
    go_ret2
    exact ⟨by rw [E.out]; first | done | rfl | simp, done⟩
  · have E : Hid (decide (Mom.dnum l ≠ 0) = false) := decide_eq_false (by rw [NO.out c]; simp)
    have c' : decide (1 ≤ k) = false ∨ decide (1 ≤ k) = true ∧ r ≠ [] ∨ decide (1 ≤ k) = true ∧ r = [] ∧ decide ((1 : Int) ≤ n) = false ∨ decide (1 ≤ k) = true ∧ r = [] ∧ (1 : Int) ≤ n ∧ decide ((n : Int) ≤ 31) = false := by
      by_cases e1 : 1 ≤ k
      · by_cases e2 : r = []
        · by_cases e3 : 1 ≤ n
          · exact .inr (.inr (.inr ⟨decide_eq_true e1, e2, by omega, decide_eq_false (fun h => c ⟨e1, e2, e3, by omega⟩)⟩))
          · exact .inr (.inr (.inl ⟨decide_eq_true e1, e2, decide_eq_false (by omega)⟩))
        · exact .inr (.inl ⟨decide_eq_true e1, e2⟩)
      · exact .inl (decide_eq_false e1)
    clear c
    rcases c' with d1 | ⟨d1, d2⟩ | ⟨d1, rfl, d3⟩ | ⟨d1, rfl, d3, d4⟩
    · go_enter Tryd.func74, Tryd.ntmps74
      go_wp2_with (first | (go_at_call 75; refine Rets.use (HD _).out ?_; intro _))
      go_ret2
      exact ⟨by rw [E.out]; first | done | rfl | simp, done⟩
    · obtain ⟨g1, g2, g3, g4⟩ := not_empty d2
      go_enter Tryd.func74, Tryd.ntmps74
      go_wp2_with (first | (go_at_call 75; refine Rets.use (HD _).out ?_; intro _))
      go_ret2
      exact ⟨by rw [E.out]; first | done | rfl | simp, done⟩
    · go_enter Tryd.func74, Tryd.ntmps74
      go_wp2_with (first | (go_at_call 75; refine Rets.use (HD _).out ?_; intro _))
      go_ret2
      exact ⟨by rw [E.out]; first | done | rfl | simp, done⟩
    · go_enter Tryd.func74, Tryd.ntmps74
      go_wp2_with (first | (go_at_call 75; refine Rets.use (HD _).out ?_; intro _))
      go_ret2
      exact ⟨by rw [E.out]; first | done | rfl | simp, done⟩

theorem all_take (s : ByteArray) (k : Nat) (h : k < s.size) (ha : (s.data.toList.take k).all Mom.isD = true) : (s.data.toList.take (k + 1)).all Mom.isD = Mom.isD s[k] := by
  rw [take_byte s k h, List.all_append, ha]; simp
theorem not_all {s : ByteArray} {k : Nat} (h : k < s.size) (hd : Mom.isD s[k] = false) : s.data.toList.all Mom.isD = false := by
  rw [List.all_eq_false]
  exact ⟨s[k], by
    have : s[k] = s.data.toList[k]'(by simpa using h) := rfl
    rw [this]; exact List.getElem_mem _, by rw [hd]; simp⟩
theorem isD_no' {c : UInt8} (h : Mom.isD c = false) : (c.toNat : Int) < 48 ∨ (decide ((c.toNat : Int) < 48) = false ∧ 57 < (c.toNat : Int)) := by
  have := of_decide_eq_false h
  by_cases g : (c.toNat : Int) < 48
  · exact .inl g
  · exact .inr ⟨decide_eq_false g, by omega⟩
theorem numR_le (l : List UInt8) (least most : Nat) (hm : most ≤ 3) : -1 ≤ Mom.numR l least most ∧ Mom.numR l least most ≤ 999 := by
  refine ⟨Mom.numR_ge l least most, ?_⟩
  by_cases h : 0 ≤ Mom.numR l least most
  · obtain ⟨h1, h2, h3, h4⟩ := Mom.numR_yes h
    have h5 := Mom.numOf_bd l 0 h3
    have h6 : (10 : Nat) ^ l.length ≤ 10 ^ 3 := Nat.pow_le_pow_right (by omega) (by omega)
    rw [h4]; unfold Mom.numOf; omega
  · omega
end Go.Proofs.YtdhbgelijjlifaaDoor
set_option linter.unusedVariables false
set_option linter.unusedSimpArgs false
namespace Go.Proofs.YtdhbgelijjlifaaDoor
open Go.RowKit

theorem Tryd.infoTextM : (Tryd.prog.info? 9).map (fun i => (i.zero, i.size, i.bytes)) = some (some (.string ByteArray.empty), 1, 16) := by kernel_rfl
theorem strs_snoc (ws : List (List UInt8)) (x : List UInt8) : strs (ws ++ [x]) = strs ws ++ [.string ⟨x.toArray⟩] := by simp [strs]
theorem mdrop_byte (s : ByteArray) (j : Nat) (h : j < s.size) : s.data.toList.drop j = s[j] :: s.data.toList.drop (j + 1) := by
  rw [List.drop_eq_getElem_cons (by simpa using h)]; rfl
theorem one_byte (s : ByteArray) (j : Nat) (h : j < s.size) : s.extract j (j + 1) = ⟨#[s[j]]⟩ := by
  apply ba_list
  rw [Lib.extract_data, mdrop_byte s j h, show j + 1 - j = 1 by omega]; rfl
theorem app_byte (cur : List UInt8) (c : UInt8) : (⟨cur.toArray⟩ : ByteArray) ++ ⟨#[c]⟩ = ⟨(cur ++ [c]).toArray⟩ := by
  apply ba_list; simp [ByteArray.data_append]
def PartsEnd (w : World) (ws : List (List UInt8)) (e : Ending) (w' : World) : Prop := ∃ v, ∃ y : Past w, e = .returned v ∧ Reads y.x v ws.length (strs ws) ∧ w' = y.x
theorem parts_end {w w' : World} [h : ExtC w w'] {l ls : List (List UInt8)} {v : Value} {n : Nat} (hn : ls.length = n) [k : OwnsC w' w.heap.size 9 1 v n (strs ls)] (he : l = ls) : PartsEnd w l (.returned v) w' := by
  subst he; subst hn
  exact ⟨_, ⟨w', h.ext⟩, rfl, owns_reads k.own (by omega), rfl⟩
end Go.Proofs.YtdhbgelijjlifaaDoor
set_option linter.unusedVariables false
set_option linter.unusedSimpArgs false
namespace Go.Proofs.YtdhbgelijjlifaaDoor
open Go.RowKit

def optV : Option Int → Value
  | none => .tuple #[.int .i64 0, .bool false]
  | some n => .tuple #[.int .i64 n, .bool true]
theorem sum_nil (u n : Int) : Mom.sumR [] u n = some n := rfl
theorem sum_no {p : List UInt8} {ps : List (List UInt8)} {u n k : Int} (hk : Mom.numR p 2 2 = k) (h : k < 0 ∨ 59 < k) : Mom.sumR (p :: ps) u n = none := by subst hk; exact if_pos h
theorem sum_yes {p : List UInt8} {ps : List (List UInt8)} {u n k : Int} (hk : Mom.numR p 2 2 = k) (h : ¬ (k < 0 ∨ 59 < k)) : Mom.sumR (p :: ps) u n = Mom.sumR ps 1 (n + k * u) := by subst hk; exact if_neg h
end Go.Proofs.YtdhbgelijjlifaaDoor
set_option linter.unusedVariables false
set_option linter.unusedSimpArgs false
namespace Go.Proofs.YtdhbgelijjlifaaDoor
open Go.RowKit

theorem head_byte {S : ByteArray} {c : UInt8} {r : List UInt8} (h : S.data.toList = c :: r) : ∃ hl : 0 < S.size, S[0] = c := by
  have hz : S.size = S.data.toList.length := by simp
  have hl : 0 < S.size := by rw [hz, h]; simp
  refine ⟨hl, ?_⟩
  have e : S[0] = S.data.toList[0]'(by rw [← hz]; exact hl) := rfl
  rw [e]; simp only [h]; simp
theorem last_byte {S : ByteArray} {c : UInt8} {l' : List UInt8} (h : S.data.toList = l' ++ [c]) : ∃ hl : l'.length < S.size, S[l'.length] = c := by
  have hz : S.size = S.data.toList.length := by simp
  have hl : l'.length < S.size := by rw [hz, h]; simp
  refine ⟨hl, ?_⟩
  have e : S[l'.length] = S.data.toList[l'.length]'(by rw [← hz]; exact hl) := rfl
  rw [e]; simp only [h]; simp
theorem last_byte' {S : ByteArray} {c : UInt8} {l' : List UInt8} {M : Nat} (h : S.data.toList = l' ++ [c]) (hM : l'.length = M) : ∃ hl : M < S.size, S[M] = c := by
  subst hM; exact last_byte h
end Go.Proofs.YtdhbgelijjlifaaDoor
