/- Walks of moments: the document's clocks; where a sign stands. -/
import Derived.Test.YtgnjmejmngljjaaMomWalkJ
set_option linter.unusedVariables false
set_option linter.unusedSimpArgs false
namespace Go.Proofs.Ytgnjmejmngljjaa
open Go.RowKit

def rclockV : Option (Int × Int) → Value
  | none => .tuple #[.int .i64 0, .int .i64 0, .bool false]
  | some (n, r) => .tuple #[.int .i64 n, .int .i64 r, .bool true]
theorem span_bd {l : List UInt8} {n : Int} (h : Mom.spanR l = some n) : -1000000 ≤ n ∧ n ≤ 1000000 := by
  unfold Mom.spanR at h
  split at h
  · split at h
    · cases h; omega
    · obtain ⟨m, hm, rfl⟩ := Option.map_eq_some_iff.1 h
      have := Mom.bare_bd hm; omega
  · have := Mom.bare_bd h; omega
set_option maxRecDepth 100000 in
set_option maxHeartbeats 4000000 in
/-- A last byte that tells a clock. -/
theorem rclock_letter (l' : List UInt8) (c : UInt8) (r : Int) (w : World) (hs : l'.length ≤ 3000) (hc : c = 119 ∧ r = 0 ∨ c = 115 ∧ r = 1 ∨ c = 117 ∧ r = 2 ∨ c = 103 ∧ r = 2 ∨ c = 122 ∧ r = 2) :
    Rets Try.prog 22 #[.string ⟨(l' ++ [c]).toArray⟩] w (rclockV (Mom.clockR (l' ++ [c]))) := by
  obtain ⟨S, hS⟩ : ∃ S : ByteArray, S = ⟨(l' ++ [c]).toArray⟩ := ⟨_, rfl⟩
  have hl : S.data.toList = l' ++ [c] := by rw [hS]
  obtain ⟨M, hM⟩ : ∃ M, l'.length = M := ⟨_, rfl⟩
  have hz : S.size = M + 1 := by rw [hS, lsz]; simp [hM]
  obtain ⟨s0, b0⟩ := last_byte' hl hM
  have T : Hid (S.extract 0 M = ⟨l'.toArray⟩) := by show _ = _; rw [ext_take, hl, ← hM, List.take_left]
  have HS := fun w => Lib.hid (rspan_any l' w (by omega))
  have hr : Mom.letterRef c = some r := by
    rcases hc with ⟨rfl, rfl⟩ | ⟨rfl, rfl⟩ | ⟨rfl, rfl⟩ | ⟨rfl, rfl⟩ | ⟨rfl, rfl⟩ <;> rfl
  have EC : Hid (Mom.clockR (l' ++ [c]) = if l' = [45] then none else (Mom.spanR l').map (fun k => (k, r))) := by
    show _ = _
    unfold Mom.clockR
    rw [if_neg (by simp)]
    have e1 : (l' ++ [c]).getLastD 0 = c := by simp
    have e2 : (l' ++ [c]).dropLast = l' := by simp
    rw [e1, e2, hr]
  have e45 : l' ≠ [45] → ((⟨l'.toArray⟩ : ByteArray) == ⟨#[45]⟩) = false ∧ ((⟨l'.toArray⟩ : ByteArray).toList == [45]) = false ∧ (l' == [45]) = false := fun h => by
    rw [beq_toListBytes, Lib.toList_data, Lib.toList_data]
    refine ⟨?_, ?_, ?_⟩ <;> (rw [beq_eq_false_iff_ne]; exact h)
  rw [← hS]
  have hM3 : M ≤ 3000 := by omega
  clear hS hl hM hr
  unfold Rets
  by_cases h45 : l' = [45]
  · subst h45
    have E : Hid (rclockV (Mom.clockR ([45] ++ [c])) = .tuple #[.int .i64 0, .int .i64 0, .bool false]) := by show _ = _; rw [EC.out, if_pos rfl]; rfl
    have hsp : Mom.spanR [45] = some 0 := rfl
    rw [hsp] at HS
    unfold optV at HS
    clear EC e45 hs
    rcases hc with ⟨rfl, rfl⟩ | ⟨rfl, rfl⟩ | ⟨rfl, rfl⟩ | ⟨rfl, rfl⟩ | ⟨rfl, rfl⟩
    all_goals
      go_enter Try.func22, Try.ntmps22
      go_wp2_with fail
      rw [T.out]
      refine Rets.use (HS _).out ?_
      intro _
      have TT := T.out
      go_wp2
      go_ret3
      exact ⟨(congrArg Ending.returned E.out).symm, done⟩
  · obtain ⟨f1, f2, f3⟩ := e45 h45
    cases hsp : Mom.spanR l' with
    | none =>
      have E : Hid (rclockV (Mom.clockR (l' ++ [c])) = .tuple #[.int .i64 0, .int .i64 0, .bool false]) := by show _ = _; rw [EC.out, if_neg h45, hsp]; rfl
      rw [hsp] at HS
      unfold optV at HS
      clear EC e45 hs h45 hsp
      rcases hc with ⟨rfl, rfl⟩ | ⟨rfl, rfl⟩ | ⟨rfl, rfl⟩ | ⟨rfl, rfl⟩ | ⟨rfl, rfl⟩
      all_goals
        go_enter Try.func22, Try.ntmps22
        go_wp2_with fail
        rw [T.out]
        refine Rets.use (HS _).out ?_
        intro _
        go_wp2
        go_ret3
        exact ⟨by rw [E.out]; first | done | rfl, done⟩
    | some n =>
      have E : Hid (rclockV (Mom.clockR (l' ++ [c])) = .tuple #[.int .i64 n, .int .i64 r, .bool true]) := by show _ = _; rw [EC.out, if_neg h45, hsp]; rfl
      rw [hsp] at HS
      unfold optV at HS
      clear EC e45 hs h45 hsp
      rcases hc with ⟨rfl, rfl⟩ | ⟨rfl, rfl⟩ | ⟨rfl, rfl⟩ | ⟨rfl, rfl⟩ | ⟨rfl, rfl⟩
      all_goals
        go_enter Try.func22, Try.ntmps22
        go_wp2_with fail
        rw [T.out]
        refine Rets.use (HS _).out ?_
        intro _
        have TT := T.out
        go_wp2
        go_ret3
        exact ⟨by rw [E.out]; first | done | rfl, done⟩
set_option maxRecDepth 100000 in
set_option maxHeartbeats 4000000 in
theorem rclock_other (l' : List UInt8) (c : UInt8) (w : World) (hs : l'.length ≤ 3000) (hc : c ≠ 119 ∧ c ≠ 115 ∧ c ≠ 117 ∧ c ≠ 103 ∧ c ≠ 122) :
    Rets Try.prog 22 #[.string ⟨(l' ++ [c]).toArray⟩] w (rclockV (Mom.clockR (l' ++ [c]))) := by
  obtain ⟨S, hS⟩ : ∃ S : ByteArray, S = ⟨(l' ++ [c]).toArray⟩ := ⟨_, rfl⟩
  have hl : S.data.toList = l' ++ [c] := by rw [hS]
  obtain ⟨M, hM⟩ : ∃ M, l'.length = M := ⟨_, rfl⟩
  have hz : S.size = M + 1 := by rw [hS, lsz]; simp [hM]
  obtain ⟨s0, b0⟩ := last_byte' hl hM
  have HS := fun w => Lib.hid (rspan_any (l' ++ [c]) w (by simp; omega))
  obtain ⟨c1, c2, c3, c4, c5⟩ := hc
  have EC : Hid (Mom.clockR (l' ++ [c]) = (Mom.spanR (l' ++ [c])).map (fun k => (k, 0))) := by
    show _ = _
    unfold Mom.clockR
    rw [if_neg (by simp)]
    have e1 : (l' ++ [c]).getLastD 0 = c := by simp
    have hr : Mom.letterRef c = none := by simp [Mom.letterRef, c1, c2, c3, c4, c5]
    rw [e1, hr]
  have ne : ∀ d : UInt8, c ≠ d → ((c.toNat : Int) == (d.toNat : Int)) = false := fun d h => by
    rw [beq_eq_false_iff_ne]; intro e; exact h (UInt8.toNat_inj.1 (by omega))
  have g1 : ((c.toNat : Int) == 119) = false := ne 119 c1
  have g2 : ((c.toNat : Int) == 115) = false := ne 115 c2
  have g3 : ((c.toNat : Int) == 117) = false := ne 117 c3
  have g4 : ((c.toNat : Int) == 103) = false := ne 103 c4
  have g5 : ((c.toNat : Int) == 122) = false := ne 122 c5
  rw [← hS] at HS ⊢
  have hM3 : M ≤ 3000 := by omega
  clear hS hl hM c1 c2 c3 c4 c5 ne
  unfold Rets
  cases hsp : Mom.spanR (l' ++ [c]) with
  | none =>
    have E : Hid (rclockV (Mom.clockR (l' ++ [c])) = .tuple #[.int .i64 0, .int .i64 0, .bool false]) := by show _ = _; rw [EC.out, hsp]; rfl
    rw [hsp] at HS
    unfold optV at HS
    clear EC hs hsp
    go_enter Try.func22, Try.ntmps22
    go_wp2_with (go_at_call 24; refine Rets.use (HS _).out ?_; intro _)
    go_ret3
    exact ⟨by rw [E.out]; first | done | rfl, done⟩
  | some n =>
    have E : Hid (rclockV (Mom.clockR (l' ++ [c])) = .tuple #[.int .i64 n, .int .i64 0, .bool true]) := by show _ = _; rw [EC.out, hsp]; rfl
    rw [hsp] at HS
    unfold optV at HS
    clear EC hs hsp
    go_enter Try.func22, Try.ntmps22
    go_wp2_with (go_at_call 24; refine Rets.use (HS _).out ?_; intro _)
    go_ret3
    exact ⟨by rw [E.out]; first | done | rfl, done⟩
set_option maxHeartbeats 1000000 in
theorem rclock_any (l : List UInt8) (w : World) (hs : l.length ≤ 3000) : Rets Try.prog 22 #[.string ⟨l.toArray⟩] w (rclockV (Mom.clockR l)) := by
  rcases List.eq_nil_or_concat l with rfl | ⟨l', c, rfl⟩
  · unfold Rets
    have E : Hid (rclockV (Mom.clockR []) = .tuple #[.int .i64 0, .int .i64 0, .bool false]) := rfl
    go_enter Try.func22, Try.ntmps22
    go_wp2
    go_ret3
    exact ⟨by rw [E.out]; first | done | rfl, done⟩
  · rw [List.concat_eq_append] at hs ⊢
    have hs' : l'.length ≤ 3000 := by simp at hs; omega
    by_cases h1 : c = 119
    · exact rclock_letter l' c 0 w hs' (.inl ⟨h1, rfl⟩)
    by_cases h2 : c = 115
    · exact rclock_letter l' c 1 w hs' (.inr (.inl ⟨h2, rfl⟩))
    by_cases h3 : c = 117
    · exact rclock_letter l' c 2 w hs' (.inr (.inr (.inl ⟨h3, rfl⟩)))
    by_cases h4 : c = 103
    · exact rclock_letter l' c 2 w hs' (.inr (.inr (.inr (.inl ⟨h4, rfl⟩))))
    by_cases h5 : c = 122
    · exact rclock_letter l' c 2 w hs' (.inr (.inr (.inr (.inr ⟨h5, rfl⟩))))
    · exact rclock_other l' c w hs' ⟨h1, h2, h3, h4, h5⟩

def signI (o : Option Nat) : Int := match o with | some i => i | none => -1
theorem map_add (o : Option Nat) (j : Nat) : ((o.map (· + 1)).map (· + j)) = o.map (· + (j + 1)) := by
  cases o <;> simp; omega
set_option maxRecDepth 100000 in
set_option maxHeartbeats 2000000 in
theorem sign_any (s : ByteArray) (c : UInt8) (w : World) (hs : s.size ≤ 5000) : Rets Try.prog 63 #[.string s, .int .u8 c.toNat] w (.int .i64 (signI (Mom.signL c s.data.toList))) := by
  have hat : ∀ j (h : j < s.size), s.data.toList[j]'(by simpa using h) = s[j] := fun j h => rfl
  unfold Rets
  go_enter Try.func63, Try.ntmps63
  go_wp2
  go_loopw [5] (fun i wr => ∃ j : Nat, j ≤ s.size ∧ i = .int .i64 j ∧ Hid (Mom.signL c s.data.toList = (Mom.signL c (s.data.toList.drop j)).map (· + j)) ∧ Ext w wr) (fun i _ => s.size - (intOf i).toNat)
  case atStart => exact ⟨0, by omega, rfl, by show _ = _; simp, isext⟩
  case round =>
    obtain ⟨j, j1, rfl, hw, hx⟩ := hrel
    obtain ⟨yr, rfl⟩ := fin hx
    clear hx
    by_cases h : j + 1 < s.size
    · have hj : j < s.size := by omega
      have W : Hid (Mom.signL c s.data.toList = (if s[j] = c ∧ s[j + 1] = 61 then some 0 else (Mom.signL c (s.data.toList.drop (j + 1))).map (· + 1)).map (· + j)) := hw.out.trans (by rw [Mom.sign_drop c _ j (by simpa using h)]; rfl)
      have NX : Hid (¬ (s[j] = c ∧ s[j + 1] = 61) → Mom.signL c s.data.toList = (Mom.signL c (s.data.toList.drop (j + 1))).map (· + (j + 1))) := fun hn => by
        rw [W.out, if_neg hn, map_add]
      have YS : Hid (s[j] = c ∧ s[j + 1] = 61 → Mom.signL c s.data.toList = some j) := fun hy => by
        rw [W.out, if_pos hy]; simp
      clear W
      by_cases d1 : s[j] = c
      · by_cases d2 : s[j + 1] = 61
        · have g1 : ((s[j].toNat : Int) == (c.toNat : Int)) = true := by rw [d1]; simp
          have g2 : ((s[j + 1].toNat : Int) == 61) = true := by rw [d2]; rfl
          have E := Lib.hid (YS.out ⟨d1, d2⟩)
          clear d1 d2 hat
          go_wp2
          go_ret
          exact ⟨by rw [E.out]; first | done | rfl, done⟩
        · have g1 : ((s[j].toNat : Int) == (c.toNat : Int)) = true := by rw [d1]; simp
          have g2 : ((s[j + 1].toNat : Int) == 61) = false := by rw [beq_eq_false_iff_ne]; intro e; exact d2 (UInt8.toNat_inj.1 (by show s[j + 1].toNat = 61; omega))
          have E := Lib.hid (NX.out (fun h => d2 h.2))
          clear d1 d2 hat
          go_wp2
          go_roundw
          case rel => exact ⟨j + 1, by omega, by go_num, E, isext⟩
          case measure => simp [intOf]; omega
      · have g1 : ((s[j].toNat : Int) == (c.toNat : Int)) = false := by rw [beq_eq_false_iff_ne]; intro e; exact d1 (UInt8.toNat_inj.1 (by omega))
        have E := Lib.hid (NX.out (fun h => d1 h.1))
        clear d1 hat
        go_wp2
        go_roundw
        case rel => exact ⟨j + 1, by omega, by go_num, E, isext⟩
        case measure => simp [intOf]; omega
    · have E : Hid (Mom.signL c s.data.toList = none) := by
        show _ = _; rw [hw.out, Mom.sign_end c _ j (by simp; omega)]; rfl
      clear hat
      go_wp2
      go_ret
      exact ⟨by rw [E.out]; first | done | rfl, done⟩
end Go.Proofs.Ytgnjmejmngljjaa
