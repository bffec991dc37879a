/- Walks of moments: a clock's time at the beginning of a text. -/
import Derived.Test.YtgnjmejmngljjaaMomWalk
set_option linter.unusedVariables false
set_option linter.unusedSimpArgs false
namespace Go.Proofs.Ytgnjmejmngljjaa
open Go.RowKit

theorem lsz (l : List UInt8) : (⟨l.toArray⟩ : ByteArray).size = l.length := by show l.toArray.size = _; simp
theorem digits_list (l : List UInt8) (least most k : Nat) (w : World) (hl : least ≤ 3) (hm : most ≤ 3) (hs : l.length ≤ maxLen) (hk : Mom.nD most l = k) :
    Rets Try.prog 69 #[.string ⟨l.toArray⟩, .int .i64 least, .int .i64 most] w (digV l least k) :=
  digits_any ⟨l.toArray⟩ least most k w hl hm (by rw [lsz]; exact hs) hk
/-- A prefix of one byte cut off. -/
theorem cutpre_yes (c : UInt8) (r : List UInt8) (w : World) : Rets Try.prog 60 #[.string ⟨(c :: r).toArray⟩, .string ⟨#[c]⟩] w (.tuple #[.string ⟨r.toArray⟩, .bool true]) := by
  refine Calls.mono (Try.strings_CutPrefix ⟨(c :: r).toArray⟩ ⟨#[c]⟩ w) ?_
  rintro _ _ ⟨rfl, rfl⟩
  refine ⟨?_, done⟩
  simp [Lib.trimPrefix, Lib.hasPrefix]
theorem cutpre_no (c : UInt8) (l : List UInt8) (w : World) (h : ∀ r, l ≠ c :: r) : Rets Try.prog 60 #[.string ⟨l.toArray⟩, .string ⟨#[c]⟩] w (.tuple #[.string ⟨l.toArray⟩, .bool false]) := by
  refine Calls.mono (Try.strings_CutPrefix ⟨l.toArray⟩ ⟨#[c]⟩ w) ?_
  rintro _ _ ⟨rfl, rfl⟩
  refine ⟨?_, done⟩
  have hp : Lib.hasPrefix l [c] = false := by
    cases l with
    | nil => rfl
    | cons x l =>
      have hx : x ≠ c := fun e => h l (by rw [e])
      simp [Lib.hasPrefix, List.isPrefixOf, Ne.symm hx]
  simp [Lib.trimPrefix, hp]
def resV : Mom.Res → Value
  | none => .tuple #[.int .i64 0, .string ⟨#[]⟩, .bool false]
  | some (n, r) => .tuple #[.int .i64 n, .string ⟨r.toArray⟩, .bool true]
theorem done_v (neg : Bool) (n : Int) (l : List UInt8) : resV (Mom.done neg n l) = .tuple #[.int .i64 (if neg = true then -n else n), .string ⟨l.toArray⟩, .bool true] := rfl
theorem num_2 (l : List UInt8) : Mom.numOf (l.take (Mom.nD 2 l)) ≤ 99 := by
  have h := Mom.num_bd 2 l
  have h2 : (10 : Nat) ^ Mom.nD 2 l ≤ 10 ^ 2 := Nat.pow_le_pow_right (by omega) (Mom.nD_le 2 l).1
  omega
theorem num_3 (l : List UInt8) : Mom.numOf (l.take (Mom.nD 3 l)) ≤ 999 := by
  have h := Mom.num_bd 3 l
  have h2 : (10 : Nat) ^ Mom.nD 3 l ≤ 10 ^ 3 := Nat.pow_le_pow_right (by omega) (Mom.nD_le 3 l).1
  omega
theorem more_no (neg : Bool) (u : Nat) (n : Int) (l : List UInt8) (h : ∀ r, l ≠ 58 :: r) : Mom.more neg u n l = Mom.done neg n l := by
  cases l with
  | nil => exact Mom.more_nil neg u n
  | cons x l => exact Mom.more_stop neg u n rfl (fun e => h l (by rw [e]))
theorem unit_next (u : Nat) (hu : u ≤ 1) : (Mom.unitOf (u + 1)).tdiv 60 = Mom.unitOf u := by
  have : u = 0 ∨ u = 1 := by omega
  rcases this with rfl | rfl <;> decide

set_option maxRecDepth 100000 in
set_option maxHeartbeats 4000000 in
theorem span_core (s : ByteArray) (neg : Bool) (l1 : List UInt8) (w : World) (hs : l1.length ≤ maxLen) (hcp : ∀ w, Rets Try.prog 60 #[.string s, .string ⟨#[45]⟩] w (.tuple #[.string ⟨l1.toArray⟩, .bool neg]))
    (hne : neg = true → l1 ≠ []) : Rets Try.prog 49 #[.string s] w (resV (Mom.bar neg l1)) := by
  have HC := fun w => Lib.hid (hcp w)
  have hbl : neg = true → ((⟨l1.toArray⟩ : ByteArray).toList.isEmpty = false ∧ ¬ (⟨l1.toArray⟩ : ByteArray).toList = []) := fun h => by
    have := hne h
    rw [ByteArray.toList_eq]; simp [this]
  have hbl2 : neg = true → l1.isEmpty = false ∧ ¬ l1 = [] := fun h => by
    have := hne h; simp [this]
  obtain ⟨k, hk⟩ : ∃ k, Mom.nD 3 l1 = k := ⟨_, rfl⟩
  have HD := fun w => Lib.hid (digits_list l1 1 3 k w (by omega) (by omega) hs hk)
  have hB : Hid (Mom.bar neg l1 = if k < 1 ∨ 167 < Mom.numOf (l1.take k) then none else Mom.more neg 2 ((Mom.numOf (l1.take k) : Nat) * 3600) (l1.drop k)) := by
    show _ = _; unfold Mom.bar; rw [hk]
  have hn3 : Mom.numOf (l1.take k) ≤ 999 := by rw [← hk]; exact num_3 l1
  have hlen : (l1.drop k).length ≤ maxLen := by rw [List.length_drop]; omega
  unfold digV at HD
  generalize Mom.numOf (l1.take k) = nn at *
  generalize l1.drop k = l2 at *
  clear hcp hk hs hne
  unfold Rets
  by_cases c0 : k < 1 ∨ 167 < nn
  · have E : Hid (resV (Mom.bar neg l1) = .tuple #[.int .i64 0, .string ⟨#[]⟩, .bool false]) := by show _ = _; rw [hB.out, if_pos c0]; rfl
    have c1 : decide (1 ≤ k) = false ∨ decide (1 ≤ k) = true ∧ 167 < nn := by
      by_cases d : k < 1
      · exact .inl (decide_eq_false (by omega))
      · exact .inr ⟨decide_eq_true (by omega), by omega⟩
    clear c0 hB
    cases neg
    · rcases c1 with c1 | ⟨c1, c2⟩
      all_goals
        go_enter Try.func49, Try.ntmps49
        go_wp2_with (first | (go_at_call 60; refine Rets.use (HC _).out ?_; intro _) | (go_at_call 69; refine Rets.use (HD _).out ?_; intro _))
        go_ret3
        exact ⟨by rw [E.out]; first | done | rfl, done⟩
    · obtain ⟨g1, g2⟩ := hbl rfl
      obtain ⟨g3, g4⟩ := hbl2 rfl
      rcases c1 with c1 | ⟨c1, c2⟩
      all_goals
        go_enter Try.func49, Try.ntmps49
        go_wp2_with (first | (go_at_call 60; refine Rets.use (HC _).out ?_; intro _) | (go_at_call 69; refine Rets.use (HD _).out ?_; intro _))
        go_ret3
        exact ⟨by rw [E.out]; first | done | rfl, done⟩
  · have B : Hid (Mom.bar neg l1 = Mom.more neg 2 ((nn : Int) * 3600) l2) := by show _ = _; rw [hB.out, if_neg c0]
    have c1 : decide (1 ≤ k) = true := decide_eq_true (by omega)
    have c2 : decide ((167 : Int) < nn) = false := decide_eq_false (by omega)
    have c3 : nn ≤ 167 := by omega
    clear c0 hB
    have hneg : neg = false ∨ (neg = true ∧ ((⟨l1.toArray⟩ : ByteArray).toList.isEmpty = false ∧ ¬ (⟨l1.toArray⟩ : ByteArray).toList = []) ∧ (l1.isEmpty = false ∧ ¬ l1 = [])) := by
      cases neg
      · exact .inl rfl
      · exact .inr ⟨rfl, hbl rfl, hbl2 rfl⟩
    clear hbl hbl2
    rcases hneg with rfl | ⟨rfl, ⟨g1, g2⟩, g3, g4⟩
    all_goals
      go_enter Try.func49, Try.ntmps49
      go_wp2_with (first | (go_at_call 60; refine Rets.use (HC _).out ?_; intro _) | (go_at_call 69; refine Rets.use (HD _).out ?_; intro _))
      go_loopw [0, 6, 8] (fun sv nv uv wr => ∃ (u : Nat) (U n : Int) (l : List UInt8), (u = 2 ∧ U = 60 ∨ u = 1 ∧ U = 1 ∨ u = 0 ∧ U = 0) ∧ uv = .int .i64 U ∧ nv = .int .i64 n ∧ sv = .string ⟨l.toArray⟩ ∧ 0 ≤ n ∧ n ≤ 601200 + 6000 * (2 - (u : Int)) ∧ l.length ≤ maxLen ∧ Hid (∀ neg, Mom.bar neg l1 = Mom.more neg 2 ((nn : Int) * 3600) l2 → Mom.bar neg l1 = Mom.more neg u n l) ∧ Ext w wr) (fun _ _ uv _ => (intOf uv).toNat)
      case atStart => exact ⟨2, 60, _, _, .inl ⟨rfl, rfl⟩, rfl, rfl, rfl, by omega, by omega, hlen, fun _ h => h, isext⟩
      case round =>
        obtain ⟨u, U, n, l, hu, rfl, rfl, rfl, n0, n1, hl, HM, hx⟩ := hrel
        obtain ⟨yr, rfl⟩ := fin hx
        clear hx
        have M := Lib.hid (HM.out _ B.out)
        by_cases hs : ∃ r, l = 58 :: r
        · obtain ⟨r, rfl⟩ := hs
          obtain ⟨k2, hk2⟩ : ∃ k2, Mom.nD 2 r = k2 := ⟨_, rfl⟩
          have hr : r.length ≤ maxLen := by simp at hl; omega
          have HC2 := fun w => Lib.hid (cutpre_yes 58 r w)
          have HD2 := fun w => Lib.hid (digits_list r 2 2 k2 w (by omega) (by omega) hr hk2)
          have hn2 := num_2 r
          have hl3 : (r.drop k2).length ≤ maxLen := by rw [List.length_drop]; omega
          have MM : Hid (∀ neg v, Mom.more neg (v + 1) n (58 :: r) = if k2 < 2 ∨ 59 < Mom.numOf (r.take k2) then none else Mom.more neg v (n + (Mom.numOf (r.take k2) : Nat) * Mom.unitOf (v + 1)) (r.drop k2)) := fun neg v => by
            simp only [Mom.more]; rw [hk2]
          unfold digV at HD2
          rw [hk2] at hn2
          generalize Mom.numOf (r.take k2) = m2 at *
          generalize r.drop k2 = r2 at *
          clear hk2
          by_cases c9 : k2 < 2 ∨ 59 < m2
          · have c8 : decide (2 ≤ k2) = false ∨ decide (2 ≤ k2) = true ∧ 59 < m2 := by
              by_cases d : k2 < 2
              · exact .inl (decide_eq_false (by omega))
              · exact .inr ⟨decide_eq_true (by omega), by omega⟩
            rcases hu with ⟨rfl, rfl⟩ | ⟨rfl, rfl⟩ | ⟨rfl, rfl⟩
            · have E := Lib.hid (M.out.trans ((MM.out _ 1).trans (if_pos c9)))
              clear c9
              rcases c8 with c8 | ⟨c8, c7⟩
              all_goals
                go_wp2_with (first | (go_at_call 60; refine Rets.use (HC2 _).out ?_; intro _) | (go_at_call 69; refine Rets.use (HD2 _).out ?_; intro _))
                go_ret3
                exact ⟨by rw [E.out]; first | done | rfl, done⟩
            · have E := Lib.hid (M.out.trans ((MM.out _ 0).trans (if_pos c9)))
              clear c9
              rcases c8 with c8 | ⟨c8, c7⟩
              all_goals
                go_wp2_with (first | (go_at_call 60; refine Rets.use (HC2 _).out ?_; intro _) | (go_at_call 69; refine Rets.use (HD2 _).out ?_; intro _))
                go_ret3
                exact ⟨by rw [E.out]; first | done | rfl, done⟩
            · have E := Lib.hid (M.out.trans (rfl : Mom.more _ 0 n (58 :: r) = Mom.done _ n (58 :: r)))
              clear c9 c8
              go_wp2
              go_ret3
              exact ⟨by rw [E.out]; first | done | rfl, done⟩
          · have c8 : decide (2 ≤ k2) = true := decide_eq_true (by omega)
            have c7 : decide ((59 : Int) < m2) = false := decide_eq_false (by omega)
            rcases hu with ⟨rfl, rfl⟩ | ⟨rfl, rfl⟩ | ⟨rfl, rfl⟩
            · have E : Hid (∀ neg, Mom.bar neg l1 = Mom.more neg 2 ((nn : Int) * 3600) l2 → Mom.bar neg l1 = Mom.more neg 1 (n + (m2 : Int) * 60) r2) := fun neg h => (HM.out neg h).trans ((MM.out neg 1).trans (if_neg c9))
              clear c9
              go_wp2_with (first | (go_at_call 60; refine Rets.use (HC2 _).out ?_; intro _) | (go_at_call 69; refine Rets.use (HD2 _).out ?_; intro _))
              go_roundw
              case rel => exact ⟨1, 1, _, r2, .inr (.inl ⟨rfl, rfl⟩), by first | rfl | go_num, rfl, rfl, by omega, by omega, hl3, E, isext⟩
              case measure => simp [intOf]
            · have E : Hid (∀ neg, Mom.bar neg l1 = Mom.more neg 2 ((nn : Int) * 3600) l2 → Mom.bar neg l1 = Mom.more neg 0 (n + (m2 : Int)) r2) := fun neg h => (HM.out neg h).trans ((MM.out neg 0).trans ((if_neg c9).trans (by rw [show Mom.unitOf (0 + 1) = 1 from rfl, Int.mul_one])))
              clear c9
              go_wp2_with (first | (go_at_call 60; refine Rets.use (HC2 _).out ?_; intro _) | (go_at_call 69; refine Rets.use (HD2 _).out ?_; intro _))
              go_roundw
              case rel => exact ⟨0, 0, _, r2, .inr (.inr ⟨rfl, rfl⟩), by first | rfl | go_num, rfl, rfl, by omega, by omega, hl3, E, isext⟩
              case measure => simp [intOf]
            · have E := Lib.hid (M.out.trans (rfl : Mom.more _ 0 n (58 :: r) = Mom.done _ n (58 :: r)))
              clear c9
              go_wp2
              go_ret3
              exact ⟨by rw [E.out]; first | done | rfl, done⟩
        · have hs' : ∀ r, l ≠ 58 :: r := fun r e => hs ⟨r, e⟩
          have HC2 := fun w => Lib.hid (cutpre_no 58 l w hs')
          have E := Lib.hid (M.out.trans (more_no _ u n l hs'))
          clear hs hs'
          rcases hu with ⟨rfl, rfl⟩ | ⟨rfl, rfl⟩ | ⟨rfl, rfl⟩
          all_goals
            go_wp2_with (first | (go_at_call 60; refine Rets.use (HC2 _).out ?_; intro _))
            go_ret3
            exact ⟨by rw [E.out]; first | done | rfl, done⟩
end Go.Proofs.Ytgnjmejmngljjaa
