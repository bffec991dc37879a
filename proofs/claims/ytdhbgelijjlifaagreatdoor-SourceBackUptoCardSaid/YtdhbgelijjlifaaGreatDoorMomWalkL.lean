/- Walks of moments: the document's clocks; where a sign stands. -/
import Derived.Test.YtdhbgelijjlifaaGreatDoorMomWalkJ
set_option linter.unusedVariables false
set_option linter.unusedSimpArgs false
namespace Go.Proofs.YtdhbgelijjlifaaGreatDoor
open Go.RowKit
def rclockV : Option (Int × Int) → Value
 | none => .tuple #[.int .i64 0, .int .i64 0, .bool false]
 | some (n, r) => .tuple #[.int .i64 n, .int .i64 r, .bool true]
set_option maxRecDepth 100000 in
set_option maxHeartbeats 4000000 in
theorem rclock_letter (l' : List UInt8) (c : UInt8) (r : Int) (w : World) (hs : l'.length ≤ 3000) (hc : c = 119 ∧ r = 0 ∨ c = 115 ∧ r = 1 ∨ c = 117 ∧ r = 2 ∨ c = 103 ∧ r = 2 ∨ c = 122 ∧ r = 2) :
 Rets Tryz.prog 131 #[.string ⟨(l' ++ [c]).toArray⟩] w (rclockV (Mom.clockR (l' ++ [c]))) := by
 obtain ⟨S, hS⟩ : ∃ S : ByteArray, S = ⟨(l' ++ [c]).toArray⟩ := ⟨_, rfl⟩
 have hl : S.data.toList = l' ++ [c] := by rw [hS]
 obtain ⟨M, hM⟩ : ∃ M, l'.length = M := ⟨_, rfl⟩
 have hz : S.size = M + 1 := by rw [hS, lsz]; simp [hM]
 obtain ⟨s0, b0⟩ := last_byte' hl hM
 have T : Hid (S.extract 0 M = ⟨l'.toArray⟩) := by show _ = _; rw [ext_take, hl, ← hM, List.take_left]
 have HS := fun w => Lib.hid (rspan_any l' w (by omega))
 have hr : Mom.letterRef c = some r := by
  rcases hc with ⟨rfl, rfl⟩ | ⟨rfl, rfl⟩ | ⟨rfl, rfl⟩ | ⟨rfl, rfl⟩ | ⟨rfl, rfl⟩ <;> rfl
 have EC : Hid (Mom.clockR (l' ++ [c]) = if l' = [45] then none else (Mom.spanR l').map (fun k => (k, r))) := by
  show _ = _
  unfold Mom.clockR
  rw [if_neg (by simp)]
  have e1 : (l' ++ [c]).getLastD 0 = c := by simp
  have e2 : (l' ++ [c]).dropLast = l' := by simp
  rw [e1, e2, hr]
 have e45 : l' ≠ [45] → ((⟨l'.toArray⟩ : ByteArray) == ⟨#[45]⟩) = false ∧ ((⟨l'.toArray⟩ : ByteArray).toList == [45]) = false ∧ (l' == [45]) = false := fun h => by
  rw [beq_toListBytes, Lib.toList_data, Lib.toList_data]
  refine ⟨?_, ?_, ?_⟩ <;> (rw [beq_eq_false_iff_ne]; exact h)
 rw [← hS]
 have hM3 : M ≤ 3000 := by omega
 clear hS hl hM hr
 unfold Rets
 by_cases h45 : l' = [45]
 · subst h45
   have E : Hid (rclockV (Mom.clockR ([45] ++ [c])) = .tuple #[.int .i64 0, .int .i64 0, .bool false]) := by show _ = _; rw [EC.out, if_pos rfl]; rfl
   have hsp : Mom.spanR [45] = some 0 := rfl
   rw [hsp] at HS
   unfold optV at HS
   clear EC e45 hs
   rcases hc with ⟨rfl, rfl⟩ | ⟨rfl, rfl⟩ | ⟨rfl, rfl⟩ | ⟨rfl, rfl⟩ | ⟨rfl, rfl⟩
   all_goals
    go_enter Tryz.func131, Tryz.ntmps131
    go_wp2_with fail
    rw [T.out]
    refine Rets.use (HS _).out ?_
    intro _
    have TT := T.out
    go_wp2
    go_ret3
    exact ⟨(congrArg Ending.returned E.out).symm, done⟩
 · obtain ⟨f1, f2, f3⟩ := e45 h45
   cases hsp : Mom.spanR l' with
   | none =>
     have E : Hid (rclockV (Mom.clockR (l' ++ [c])) = .tuple #[.int .i64 0, .int .i64 0, .bool false]) := by show _ = _; rw [EC.out, if_neg h45, hsp]; rfl
     rw [hsp] at HS
     unfold optV at HS
     clear EC e45 hs h45 hsp
     rcases hc with ⟨rfl, rfl⟩ | ⟨rfl, rfl⟩ | ⟨rfl, rfl⟩ | ⟨rfl, rfl⟩ | ⟨rfl, rfl⟩
     all_goals
      go_enter Tryz.func131, Tryz.ntmps131
      go_wp2_with fail
      rw [T.out]
      refine Rets.use (HS _).out ?_
      intro _
      go_wp2
      go_ret3
      exact ⟨by rw [E.out]; first | done | rfl, done⟩
   | some n =>
     have E : Hid (rclockV (Mom.clockR (l' ++ [c])) = .tuple #[.int .i64 n, .int .i64 r, .bool true]) := by show _ = _; rw [EC.out, if_neg h45, hsp]; rfl
     rw [hsp] at HS
     unfold optV at HS
     clear EC e45 hs h45 hsp
     rcases hc with ⟨rfl, rfl⟩ | ⟨rfl, rfl⟩ | ⟨rfl, rfl⟩ | ⟨rfl, rfl⟩ | ⟨rfl, rfl⟩
     all_goals
      go_enter Tryz.func131, Tryz.ntmps131
      go_wp2_with fail
      rw [T.out]
      refine Rets.use (HS _).out ?_
      intro _
      have TT := T.out
      go_wp2
      go_ret3
      exact ⟨by rw [E.out]; first | done | rfl, done⟩
set_option maxRecDepth 100000 in
set_option maxHeartbeats 4000000 in
theorem rclock_other (l' : List UInt8) (c : UInt8) (w : World) (hs : l'.length ≤ 3000) (hc : c ≠ 119 ∧ c ≠ 115 ∧ c ≠ 117 ∧ c ≠ 103 ∧ c ≠ 122) :
 Rets Tryz.prog 131 #[.string ⟨(l' ++ [c]).toArray⟩] w (rclockV (Mom.clockR (l' ++ [c]))) := by
 obtain ⟨S, hS⟩ : ∃ S : ByteArray, S = ⟨(l' ++ [c]).toArray⟩ := ⟨_, rfl⟩
 have hl : S.data.toList = l' ++ [c] := by rw [hS]
 obtain ⟨M, hM⟩ : ∃ M, l'.length = M := ⟨_, rfl⟩
 have hz : S.size = M + 1 := by rw [hS, lsz]; simp [hM]
 obtain ⟨s0, b0⟩ := last_byte' hl hM
 have HS := fun w => Lib.hid (rspan_any (l' ++ [c]) w (by simp; omega))
 obtain ⟨c1, c2, c3, c4, c5⟩ := hc
 have EC : Hid (Mom.clockR (l' ++ [c]) = (Mom.spanR (l' ++ [c])).map (fun k => (k, 0))) := by
  show _ = _
  unfold Mom.clockR
  rw [if_neg (by simp)]
  have e1 : (l' ++ [c]).getLastD 0 = c := by simp
  have hr : Mom.letterRef c = none := by simp [Mom.letterRef, c1, c2, c3, c4, c5]
  rw [e1, hr]
 have ne : ∀ d : UInt8, c ≠ d → ((c.toNat : Int) == (d.toNat : Int)) = false := fun d h => by
  rw [beq_eq_false_iff_ne]; intro e; exact h (UInt8.toNat_inj.1 (by omega))
 have g1 : ((c.toNat : Int) == 119) = false := ne 119 c1
 have g2 : ((c.toNat : Int) == 115) = false := ne 115 c2
 have g3 : ((c.toNat : Int) == 117) = false := ne 117 c3
 have g4 : ((c.toNat : Int) == 103) = false := ne 103 c4
 have g5 : ((c.toNat : Int) == 122) = false := ne 122 c5
 rw [← hS] at HS ⊢
 have hM3 : M ≤ 3000 := by omega
 clear hS hl hM c1 c2 c3 c4 c5 ne
 unfold Rets
 cases hsp : Mom.spanR (l' ++ [c]) with
 | none =>
   have E : Hid (rclockV (Mom.clockR (l' ++ [c])) = .tuple #[.int .i64 0, .int .i64 0, .bool false]) := by show _ = _; rw [EC.out, hsp]; rfl
   rw [hsp] at HS
   unfold optV at HS
   clear EC hs hsp
   go_enter Tryz.func131, Tryz.ntmps131
   go_wp2_with (go_at_call 113; refine Rets.use (HS _).out ?_; intro _)
   go_ret3
   exact ⟨by rw [E.out]; first | done | rfl, done⟩
 | some n =>
   have E : Hid (rclockV (Mom.clockR (l' ++ [c])) = .tuple #[.int .i64 n, .int .i64 0, .bool true]) := by show _ = _; rw [EC.out, hsp]; rfl
   rw [hsp] at HS
   unfold optV at HS
   clear EC hs hsp
   go_enter Tryz.func131, Tryz.ntmps131
   go_wp2_with (go_at_call 113; refine Rets.use (HS _).out ?_; intro _)
   go_ret3
   exact ⟨by rw [E.out]; first | done | rfl, done⟩
set_option maxHeartbeats 1000000 in
theorem rclock_any (l : List UInt8) (w : World) (hs : l.length ≤ 3000) : Rets Tryz.prog 131 #[.string ⟨l.toArray⟩] w (rclockV (Mom.clockR l)) := by
 rcases List.eq_nil_or_concat l with rfl | ⟨l', c, rfl⟩
 · unfold Rets
   have E : Hid (rclockV (Mom.clockR []) = .tuple #[.int .i64 0, .int .i64 0, .bool false]) := rfl
   go_enter Tryz.func131, Tryz.ntmps131
   go_wp2
   go_ret3
   exact ⟨by rw [E.out]; first | done | rfl, done⟩
 · rw [List.concat_eq_append] at hs ⊢
   have hs' : l'.length ≤ 3000 := by simp at hs; omega
   by_cases h1 : c = 119
   · exact rclock_letter l' c 0 w hs' (.inl ⟨h1, rfl⟩)
   by_cases h2 : c = 115
   · exact rclock_letter l' c 1 w hs' (.inr (.inl ⟨h2, rfl⟩))
   by_cases h3 : c = 117
   · exact rclock_letter l' c 2 w hs' (.inr (.inr (.inl ⟨h3, rfl⟩)))
   by_cases h4 : c = 103
   · exact rclock_letter l' c 2 w hs' (.inr (.inr (.inr (.inl ⟨h4, rfl⟩))))
   by_cases h5 : c = 122
   · exact rclock_letter l' c 2 w hs' (.inr (.inr (.inr (.inr ⟨h5, rfl⟩))))
   · exact rclock_other l' c w hs' ⟨h1, h2, h3, h4, h5⟩
def signI (o : Option Nat) : Int := match o with | some i => i | none => -1
theorem map_add (o : Option Nat) (j : Nat) : ((o.map (· + 1)).map (· + j)) = o.map (· + (j + 1)) := by
 cases o <;> simp; omega
set_option maxRecDepth 100000 in
set_option maxHeartbeats 2000000 in
theorem sign_any (s : ByteArray) (c : UInt8) (w : World) (hs : s.size ≤ 5000) : Rets Tryz.prog 156 #[.string s, .int .u8 c.toNat] w (.int .i64 (signI (Mom.signL c s.data.toList))) := by
 have hat : ∀ j (h : j < s.size), s.data.toList[j]'(by simpa using h) = s[j] := fun j h => rfl
 unfold Rets
 go_enter Tryz.func156, Tryz.ntmps156
 go_wp2
 go_loopw [5] (fun i wr => ∃ j : Nat, j ≤ s.size ∧ i = .int .i64 j ∧ Hid (Mom.signL c s.data.toList = (Mom.signL c (s.data.toList.drop j)).map (· + j)) ∧ Ext w wr) (fun i _ => s.size - (intOf i).toNat)
 case atStart => exact ⟨0, by omega, rfl, by show _ = _; simp, isext⟩
 case round =>
  obtain ⟨j, j1, rfl, hw, hx⟩ := hrel
  obtain ⟨yr, rfl⟩ := fin hx
  clear hx
  by_cases h : j + 1 < s.size
  · have hj : j < s.size := by omega
    have W : Hid (Mom.signL c s.data.toList = (if s[j] = c ∧ s[j + 1] = 61 then some 0 else (Mom.signL c (s.data.toList.drop (j + 1))).map (· + 1)).map (· + j)) := hw.out.trans (by rw [Mom.sign_drop c _ j (by simpa using h)]; rfl)
    have NX : Hid (¬ (s[j] = c ∧ s[j + 1] = 61) → Mom.signL c s.data.toList = (Mom.signL c (s.data.toList.drop (j + 1))).map (· + (j + 1))) := fun hn => by
     rw [W.out, if_neg hn, map_add]
    have YS : Hid (s[j] = c ∧ s[j + 1] = 61 → Mom.signL c s.data.toList = some j) := fun hy => by
     rw [W.out, if_pos hy]; simp
    clear W
    by_cases d1 : s[j] = c
    · by_cases d2 : s[j + 1] = 61
      · have g1 : ((s[j].toNat : Int) == (c.toNat : Int)) = true := by rw [d1]; simp
        have g2 : ((s[j + 1].toNat : Int) == 61) = true := by rw [d2]; rfl
        have E := Lib.hid (YS.out ⟨d1, d2⟩)
        clear d1 d2 hat
        go_wp2
        go_ret
        exact ⟨by rw [E.out]; first | done | rfl, done⟩
      · have g1 : ((s[j].toNat : Int) == (c.toNat : Int)) = true := by rw [d1]; simp
        have g2 : ((s[j + 1].toNat : Int) == 61) = false := by rw [beq_eq_false_iff_ne]; intro e; exact d2 (UInt8.toNat_inj.1 (by show s[j + 1].toNat = 61; omega))
        have E := Lib.hid (NX.out (fun h => d2 h.2))
        clear d1 d2 hat
        go_wp2
        go_roundw
        case rel => exact ⟨j + 1, by omega, by go_num, E, isext⟩
        case measure => simp [intOf]; omega
    · have g1 : ((s[j].toNat : Int) == (c.toNat : Int)) = false := by rw [beq_eq_false_iff_ne]; intro e; exact d1 (UInt8.toNat_inj.1 (by omega))
      have E := Lib.hid (NX.out (fun h => d1 h.1))
      clear d1 hat
      go_wp2
      go_roundw
      case rel => exact ⟨j + 1, by omega, by go_num, E, isext⟩
      case measure => simp [intOf]; omega
  · have E : Hid (Mom.signL c s.data.toList = none) := by
     show _ = _; rw [hw.out, Mom.sign_end c _ j (by simp; omega)]; rfl
    clear hat
    go_wp2
    go_ret
    exact ⟨by rw [E.out]; first | done | rfl, done⟩
end Go.Proofs.YtdhbgelijjlifaaGreatDoor
namespace Go.Proofs.YtdhbgelijjlifaaGreatDoor
open Go.RowKit
def DayEnd (w : World) (o : Option (Int × Int × Int)) (e : Ending) (w' : World) : Prop :=
 ∃ k d n : Int, ∃ y : Past w, e = .returned (.tuple #[.int .i64 k, .int .i64 d, .int .i64 n, .bool o.isSome]) ∧ (∀ x, o = some x → x = (k, d, n)) ∧ w' = y.x
theorem day_end {w w' : World} [h : ExtC w w'] {o : Option (Int × Int × Int)} {k d n : Int} {b : Bool} (hb : o.isSome = b) (ho : ∀ x, o = some x → x = (k, d, n)) : DayEnd w o (.returned (.tuple #[.int .i64 k, .int .i64 d, .int .i64 n, .bool b])) w' := by
 subst hb; exact ⟨k, d, n, ⟨w', h.ext⟩, rfl, ho, rfl⟩
theorem day_bd (l : List UInt8) : 0 ≤ ((Mom.dayI l : Nat) : Int) ∧ ((Mom.dayI l : Nat) : Int) ≤ 7 := by
 have := Mom.which_bd l Mom.daysL 1 (by omega)
 have e : Mom.daysL.length = 7 := rfl
 unfold Mom.dayI; omega
set_option maxRecDepth 100000 in
set_option maxHeartbeats 4000000 in
theorem rDay_last (l : List UInt8) (w : World) (hs : l.length ≤ 2000) (h4 : l.take 4 = [108, 97, 115, 116]) : Calls Tryz.prog 130 #[.string ⟨l.toArray⟩] w (DayEnd w (Mom.dayR l)) := by
 obtain ⟨S, hS⟩ : ∃ S : ByteArray, S = ⟨l.toArray⟩ := ⟨_, rfl⟩
 have hl : S.data.toList = l := by rw [hS]
 have hz : S.size = l.length := by rw [hS, lsz]
 have h5 : 4 ≤ S.size := by
  have := congrArg List.length h4
  rw [List.length_take] at this; simp at this; omega
 have T4 : S.extract 0 4 = ⟨#[108, 97, 115, 116]⟩ := by rw [ext_take, hl, h4]
 have T : Hid (S.extract 4 S.size = ⟨(l.drop 4).toArray⟩) := by show _ = _; rw [ext_drop, hl]
 have HW := fun w => Lib.hid (rweekday_any (l.drop 4) w (by rw [List.length_drop]; unfold maxLen; omega))
 have hb := day_bd (l.drop 4)
 have E : Hid (Mom.dayR l = Mom.dayL (l.drop 4)) := by show _ = _; unfold Mom.dayR; rw [if_pos h4]
 have hz2 : S.size ≤ 2000 := by omega
 rw [← hS, E.out]
 clear hS hl hz h4 E
 unfold Mom.dayL
 generalize Mom.dayI (l.drop 4) = d at *
 by_cases c : d = 0
 · subst c
   go_enter Tryz.func130, Tryz.ntmps130
   go_wp2_with fail
   rw [T.out]
   refine Rets.use (HW _).out ?_
   intro _
   go_wp2
   exact bodyPost_ret (v := .tuple #[.int .i64 1, .int .i64 0, .int .i64 0, .bool false]) (by simp [results, Tryz.results130, go_sem]) rfl (day_end rfl (by intro x hx; cases hx))
 · have c1 : (0 : Int) < (d : Int) := by omega
   have c2 : 0 < d := by omega
   rw [if_pos c]
   go_enter Tryz.func130, Tryz.ntmps130
   go_wp2_with fail
   rw [T.out]
   refine Rets.use (HW _).out ?_
   intro _
   go_wp2
   exact bodyPost_ret (v := .tuple #[.int .i64 1, .int .i64 d, .int .i64 0, .bool true]) (by simp [results, Tryz.results130, go_sem]) rfl (day_end rfl (by intro x hx; cases hx; rfl))
set_option maxRecDepth 100000 in
set_option maxHeartbeats 4000000 in
theorem rDay_other (l : List UInt8) (w : World) (hs : l.length ≤ 2000) (h4 : ¬ l.take 4 = [108, 97, 115, 116]) : Calls Tryz.prog 130 #[.string ⟨l.toArray⟩] w (DayEnd w (Mom.dayR l)) := by
 obtain ⟨S, hS⟩ : ∃ S : ByteArray, S = ⟨l.toArray⟩ := ⟨_, rfl⟩
 have hl : S.data.toList = l := by rw [hS]
 have hz : S.size = l.length := by rw [hS, lsz]
 have hz2 : S.size ≤ 2000 := by omega
 have E : Hid (Mom.dayR l = Mom.dayN l) := by show _ = _; unfold Mom.dayR; rw [if_neg h4]
 have g4 : (decide (4 ≤ S.size) = false ∧ decide ((4 : Int) ≤ S.size) = false) ∨ (4 ≤ S.size ∧ ((S.extract 0 4).toList == [108, 97, 115, 116]) = false ∧ ((S.extract 0 4) == ⟨#[108, 97, 115, 116]⟩) = false) := by
  by_cases c : 4 ≤ S.size
  · refine .inr ⟨c, ?_, ?_⟩
    · rw [Lib.toList_data, ext_take, hl, beq_eq_false_iff_ne]; exact h4
    · rw [beq_toListBytes, Lib.toList_data, Lib.toList_data, ext_take, hl, beq_eq_false_iff_ne]; exact h4
  · exact .inl ⟨decide_eq_false c, decide_eq_false (by omega)⟩
 have HS := fun c w => Lib.hid (hl ▸ sign_any S c w (by omega))
 have HW := Lib.hid (fun (r : List UInt8) (hr : r.length ≤ 2000) w => rweekday_any r w (by unfold maxLen; omega))
 have HD := Lib.hid (fun (r : List UInt8) (hr : r.length ≤ 2000) w => rday_any r w (by unfold maxLen; omega))
 have T1 : Hid (∀ i, S.extract 0 i = ⟨(l.take i).toArray⟩) := fun i => by rw [ext_take, hl]
 have T2 : Hid (∀ i, S.extract i S.size = ⟨(l.drop i).toArray⟩) := fun i => by rw [ext_drop, hl]
 have SL := Lib.hid (fun c i h => Mom.sign_lt c l i h)
 have EN : Hid (Mom.dayN l = match Mom.signL 62 l with
  | some i => Mom.dayAt 2 (l.take i) (l.drop (i + 2))
  | none => match Mom.signL 60 l with
    | some i => Mom.dayAt 3 (l.take i) (l.drop (i + 2))
    | none => if Mom.dnum l ≠ 0 then some (0, 0, Mom.dnum l) else none) := rfl
 have LB := Lib.hid hz
 have HSS : Hid (S = ⟨l.toArray⟩) := hS
 rw [E.out, ← hS]
 clear hS hl hz h4 E
 rcases g4 with ⟨a1, a2⟩ | ⟨a1, a2, a3⟩
 all_goals
  go_enter Tryz.func130, Tryz.ntmps130
  go_wp2
  go_loopw [7] (fun kv wr => ∃ K : Int, (K = 2 ∨ K = 3 ∧ Hid (Mom.signL 62 l = none) ∨ K = 4 ∧ Hid (Mom.signL 62 l = none) ∧ Hid (Mom.signL 60 l = none)) ∧ kv = .int .i64 K ∧ Ext w wr) (fun kv _ => 4 - (intOf kv).toNat)
  case atStart => exact ⟨2, .inl rfl, rfl, isext⟩
  case round =>
   obtain ⟨K, hK, rfl, hx⟩ := hrel
   obtain ⟨yr, rfl⟩ := fin hx
   clear hx
   rcases hK with rfl | ⟨rfl, h2⟩ | ⟨rfl, h2, h3⟩
   · obtain ⟨o, hc⟩ : ∃ o, Mom.signL 62 l = o := ⟨_, rfl⟩
     cases o with
     | some i0 =>
       have hsig : ∃ i, Mom.signL 62 l = some i := ⟨i0, hc⟩
       clear hc
       obtain ⟨i, hi⟩ := hsig
       have hi2 := SL.out 62 i hi
       have E2 : Hid (Mom.dayN l = Mom.dayAt 2 (l.take i) (l.drop (i + 2))) := by show _ = _; rw [EN.out]; simp only [hi]
       have HSc : ∀ w, Hid (Rets Tryz.prog 156 #[.string S, .int .u8 62] w (.int .i64 (i : Int))) := fun w => by
        have := (HS 62 w).out; rw [hi] at this; exact this
       have HWi : ∀ w, Hid (Rets Tryz.prog 155 #[.string (S.extract 0 i)] w (.int .i64 (Mom.dayI (l.take i) : Nat))) := fun w => by
        show Rets _ _ _ _ _; rw [T1.out]; exact HW.out _ (by rw [List.length_take]; have := LB.out; omega) w
       have HDi : ∀ w, Hid (Rets Tryz.prog 157 #[.string (S.extract (i + 2) S.size)] w (.int .i64 (Mom.dnum (l.drop (i + 2))))) := fun w => by
        show Rets _ _ _ _ _; rw [T2.out]; exact HD.out _ (by rw [List.length_drop]; have := LB.out; omega) w
       have db := day_bd (l.take i)
       have nb := Mom.dnum_bd (l.drop (i + 2))
       have iz : i + 2 ≤ S.size := by have := LB.out; omega
       have iz' : (i : Int) + 2 ≤ S.size := by omega
       have w1 : IntKind.i64.wrap ((i : Int) + 2) = (i : Int) + 2 := by rw [IntKind.wrap_i64]; omega
       have w2 : (0 : Int) ≤ (i : Int) + 2 := by omega
       have w3 : ((i : Int) + 2).toNat = i + 2 := by omega
       unfold Mom.dayAt at E2
       generalize Mom.dayI (l.take i) = d at *
       generalize Mom.dnum (l.drop (i + 2)) = n at *
       clear hi hi2
       have cs : (d = 0 ∧ decide (0 < d) = false ∧ decide ((0 : Int) < (d : Int)) = false) ∨ (d ≠ 0 ∧ 0 < d ∧ (0 : Int) < (d : Int) ∧ n = 0) ∨ (d ≠ 0 ∧ 0 < d ∧ (0 : Int) < (d : Int) ∧ n ≠ 0 ∧ 0 < n) := by
        by_cases c1 : d = 0
        · exact .inl ⟨c1, decide_eq_false (by omega), decide_eq_false (by omega)⟩
        · by_cases c2 : n = 0
          · exact .inr (.inl ⟨c1, by omega, by omega, c2⟩)
          · exact .inr (.inr ⟨c1, by omega, by omega, c2, by omega⟩)
       rcases cs with ⟨c1, c2, c3⟩ | ⟨c1, c2, c3, c4⟩ | ⟨c1, c2, c3, c4, c5⟩
       · have F : Hid (Mom.dayN l = none) := by show _ = _; rw [E2.out, if_neg (fun h => h.1 c1)]
         subst c1
         clear E2 db c2 c3
         go_wp2_with (go_at_call 156; refine Rets.use (HSc _).out ?_; intro _)
         refine wp_region_past (by kernel_rfl) (by kernel_rfl) ?_
         repeat (go_big_quiet_step ((first | (go_at_call 155; exact Rets.quiet (HWi _).out) | (go_at_call 157; exact Rets.quiet (HDi _).out))))
         refine wpQuiet_nil ?_
         intro _
         clear w1 w2 w3
         go_wp2
         exact bodyPost_ret (v := .tuple #[.int .i64 2, .int .i64 0, .int .i64 n, .bool false]) (by simp [results, Tryz.results130, go_sem]) rfl (day_end (by rw [F.out]; rfl) (by rw [F.out]; intro x hx; cases hx))
       · have F : Hid (Mom.dayN l = none) := by show _ = _; rw [E2.out, if_neg (fun h => h.2 c4)]
         subst c4
         clear E2 c1
         go_wp2_with (go_at_call 156; refine Rets.use (HSc _).out ?_; intro _)
         refine wp_region_past (by kernel_rfl) (by kernel_rfl) ?_
         repeat (go_big_quiet_step ((first | (go_at_call 155; exact Rets.quiet (HWi _).out) | (go_at_call 157; exact Rets.quiet (HDi _).out))))
         refine wpQuiet_nil ?_
         intro _
         clear w1 w2 w3
         go_wp2
         exact bodyPost_ret (v := .tuple #[.int .i64 2, .int .i64 d, .int .i64 0, .bool false]) (by simp [results, Tryz.results130, go_sem]) rfl (day_end (by rw [F.out]; rfl) (by rw [F.out]; intro x hx; cases hx))
       · have F : Hid (Mom.dayN l = some (2, (d : Int), n)) := by show _ = _; rw [E2.out, if_pos ⟨c1, c4⟩]
         clear E2 c1 c4
         go_wp2_with (go_at_call 156; refine Rets.use (HSc _).out ?_; intro _)
         refine wp_region_past (by kernel_rfl) (by kernel_rfl) ?_
         repeat (go_big_quiet_step ((first | (go_at_call 155; exact Rets.quiet (HWi _).out) | (go_at_call 157; exact Rets.quiet (HDi _).out))))
         refine wpQuiet_nil ?_
         intro _
         clear w1 w2 w3
         go_wp2
         exact bodyPost_ret (v := .tuple #[.int .i64 2, .int .i64 d, .int .i64 n, .bool true]) (by simp [results, Tryz.results130, go_sem]) rfl (day_end (by rw [F.out]; rfl) (by rw [F.out]; intro x hx; cases hx; rfl))
     | none =>
       have HSc : ∀ w, Hid (Rets Tryz.prog 156 #[.string S, .int .u8 62] w (.int .i64 (-1))) := fun w => by
        have := (HS 62 w).out; rw [hc] at this; exact this
       have HC := Lib.hid hc
       clear hc
       go_wp2_with (go_at_call 156; refine Rets.use (HSc _).out ?_; intro _)
       go_roundw
       case rel => exact ⟨3, .inr (.inl ⟨rfl, HC⟩), rfl, isext⟩
       case measure => simp [intOf]
   · obtain ⟨o, hc⟩ : ∃ o, Mom.signL 60 l = o := ⟨_, rfl⟩
     cases o with
     | some i0 =>
       have hsig : ∃ i, Mom.signL 60 l = some i := ⟨i0, hc⟩
       clear hc
       obtain ⟨i, hi⟩ := hsig
       have hi2 := SL.out 60 i hi
       have E2 : Hid (Mom.dayN l = Mom.dayAt 3 (l.take i) (l.drop (i + 2))) := by show _ = _; rw [EN.out]; simp only [h2.out, hi]
       have HSc : ∀ w, Hid (Rets Tryz.prog 156 #[.string S, .int .u8 60] w (.int .i64 (i : Int))) := fun w => by
        have := (HS 60 w).out; rw [hi] at this; exact this
       have HWi : ∀ w, Hid (Rets Tryz.prog 155 #[.string (S.extract 0 i)] w (.int .i64 (Mom.dayI (l.take i) : Nat))) := fun w => by
        show Rets _ _ _ _ _; rw [T1.out]; exact HW.out _ (by rw [List.length_take]; have := LB.out; omega) w
       have HDi : ∀ w, Hid (Rets Tryz.prog 157 #[.string (S.extract (i + 2) S.size)] w (.int .i64 (Mom.dnum (l.drop (i + 2))))) := fun w => by
        show Rets _ _ _ _ _; rw [T2.out]; exact HD.out _ (by rw [List.length_drop]; have := LB.out; omega) w
       have db := day_bd (l.take i)
       have nb := Mom.dnum_bd (l.drop (i + 2))
       have iz : i + 2 ≤ S.size := by have := LB.out; omega
       have iz' : (i : Int) + 2 ≤ S.size := by omega
       have w1 : IntKind.i64.wrap ((i : Int) + 2) = (i : Int) + 2 := by rw [IntKind.wrap_i64]; omega
       have w2 : (0 : Int) ≤ (i : Int) + 2 := by omega
       have w3 : ((i : Int) + 2).toNat = i + 2 := by omega
       unfold Mom.dayAt at E2
       generalize Mom.dayI (l.take i) = d at *
       generalize Mom.dnum (l.drop (i + 2)) = n at *
       clear hi hi2
       have cs : (d = 0 ∧ decide (0 < d) = false ∧ decide ((0 : Int) < (d : Int)) = false) ∨ (d ≠ 0 ∧ 0 < d ∧ (0 : Int) < (d : Int) ∧ n = 0) ∨ (d ≠ 0 ∧ 0 < d ∧ (0 : Int) < (d : Int) ∧ n ≠ 0 ∧ 0 < n) := by
        by_cases c1 : d = 0
        · exact .inl ⟨c1, decide_eq_false (by omega), decide_eq_false (by omega)⟩
        · by_cases c2 : n = 0
          · exact .inr (.inl ⟨c1, by omega, by omega, c2⟩)
          · exact .inr (.inr ⟨c1, by omega, by omega, c2, by omega⟩)
       rcases cs with ⟨c1, c2, c3⟩ | ⟨c1, c2, c3, c4⟩ | ⟨c1, c2, c3, c4, c5⟩
       · have F : Hid (Mom.dayN l = none) := by show _ = _; rw [E2.out, if_neg (fun h => h.1 c1)]
         subst c1
         clear E2 db c2 c3
         go_wp2_with (go_at_call 156; refine Rets.use (HSc _).out ?_; intro _)
         refine wp_region_past (by kernel_rfl) (by kernel_rfl) ?_
         repeat (go_big_quiet_step ((first | (go_at_call 155; exact Rets.quiet (HWi _).out) | (go_at_call 157; exact Rets.quiet (HDi _).out))))
         refine wpQuiet_nil ?_
         intro _
         clear w1 w2 w3
         go_wp2
         exact bodyPost_ret (v := .tuple #[.int .i64 3, .int .i64 0, .int .i64 n, .bool false]) (by simp [results, Tryz.results130, go_sem]) rfl (day_end (by rw [F.out]; rfl) (by rw [F.out]; intro x hx; cases hx))
       · have F : Hid (Mom.dayN l = none) := by show _ = _; rw [E2.out, if_neg (fun h => h.2 c4)]
         subst c4
         clear E2 c1
         go_wp2_with (go_at_call 156; refine Rets.use (HSc _).out ?_; intro _)
         refine wp_region_past (by kernel_rfl) (by kernel_rfl) ?_
         repeat (go_big_quiet_step ((first | (go_at_call 155; exact Rets.quiet (HWi _).out) | (go_at_call 157; exact Rets.quiet (HDi _).out))))
         refine wpQuiet_nil ?_
         intro _
         clear w1 w2 w3
         go_wp2
         exact bodyPost_ret (v := .tuple #[.int .i64 3, .int .i64 d, .int .i64 0, .bool false]) (by simp [results, Tryz.results130, go_sem]) rfl (day_end (by rw [F.out]; rfl) (by rw [F.out]; intro x hx; cases hx))
       · have F : Hid (Mom.dayN l = some (3, (d : Int), n)) := by show _ = _; rw [E2.out, if_pos ⟨c1, c4⟩]
         clear E2 c1 c4
         go_wp2_with (go_at_call 156; refine Rets.use (HSc _).out ?_; intro _)
         refine wp_region_past (by kernel_rfl) (by kernel_rfl) ?_
         repeat (go_big_quiet_step ((first | (go_at_call 155; exact Rets.quiet (HWi _).out) | (go_at_call 157; exact Rets.quiet (HDi _).out))))
         refine wpQuiet_nil ?_
         intro _
         clear w1 w2 w3
         go_wp2
         exact bodyPost_ret (v := .tuple #[.int .i64 3, .int .i64 d, .int .i64 n, .bool true]) (by simp [results, Tryz.results130, go_sem]) rfl (day_end (by rw [F.out]; rfl) (by rw [F.out]; intro x hx; cases hx; rfl))
     | none =>
       have HSc : ∀ w, Hid (Rets Tryz.prog 156 #[.string S, .int .u8 60] w (.int .i64 (-1))) := fun w => by
        have := (HS 60 w).out; rw [hc] at this; exact this
       have HC := Lib.hid hc
       clear hc
       go_wp2_with (go_at_call 156; refine Rets.use (HSc _).out ?_; intro _)
       go_roundw
       case rel => exact ⟨4, .inr (.inr ⟨rfl, h2, HC⟩), rfl, isext⟩
       case measure => simp [intOf]
   · have E2 : Hid (Mom.dayN l = if Mom.dnum l ≠ 0 then some (0, 0, Mom.dnum l) else none) := by show _ = _; rw [EN.out]; simp only [h2.out, h3.out]
     have HDi : ∀ w, Hid (Rets Tryz.prog 157 #[.string S] w (.int .i64 (Mom.dnum l))) := fun w => by
      show Rets _ _ _ _ _; rw [HSS.out]; exact HD.out _ (by have := LB.out; omega) w
     have nb := Mom.dnum_bd l
     generalize Mom.dnum l = n at *
     by_cases c : n = 0
     · have F : Hid (Mom.dayN l = none) := by show _ = _; rw [E2.out, if_neg (by simp [c])]
       subst c
       clear E2
       go_wp2_with (go_at_call 157; refine Rets.use (HDi _).out ?_; intro _)
       exact bodyPost_ret (v := .tuple #[.int .i64 0, .int .i64 0, .int .i64 0, .bool false]) (by simp [results, Tryz.results130, go_sem]) rfl (day_end (by rw [F.out]; rfl) (by rw [F.out]; intro x hx; cases hx))
     · have F : Hid (Mom.dayN l = some (0, 0, n)) := by show _ = _; rw [E2.out, if_pos c]
       have c1 : 0 < n := by omega
       clear E2 c
       go_wp2_with (go_at_call 157; refine Rets.use (HDi _).out ?_; intro _)
       exact bodyPost_ret (v := .tuple #[.int .i64 0, .int .i64 0, .int .i64 n, .bool true]) (by simp [results, Tryz.results130, go_sem]) rfl (day_end (by rw [F.out]; rfl) (by rw [F.out]; intro x hx; cases hx; rfl))
theorem rDay_any (l : List UInt8) (w : World) (hs : l.length ≤ 2000) : Calls Tryz.prog 130 #[.string ⟨l.toArray⟩] w (DayEnd w (Mom.dayR l)) := by
 by_cases h : l.take 4 = [108, 97, 115, 116]
 · exact rDay_last l w hs h
 · exact rDay_other l w hs h
end Go.Proofs.YtdhbgelijjlifaaGreatDoor
