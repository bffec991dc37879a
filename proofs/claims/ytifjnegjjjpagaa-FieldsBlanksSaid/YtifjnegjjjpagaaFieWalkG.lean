/- Walk: the reference's join of fields. -/
import Derived.Test.YtifjnegjjjpagaaFieWalkF
set_option linter.unusedVariables false
set_option linter.unusedSimpArgs false
namespace Go.Proofs.Ytifjnegjjjpagaa
open Go.RowKit

theorem stop_mid (p : UInt8 → Bool) (s : ByteArray) : ∀ (d j k : Nat), k - j = d → j ≤ k → k ≤ Fie.stop p s j → Fie.stop p s j = Fie.stop p s k
  | 0, j, k, hd, h1, _ => by rw [show k = j by omega]
  | d + 1, j, k, hd, h1, h2 => by
    have hj : j < s.size := by
      rcases Nat.lt_or_ge j s.size with h | h
      · exact h
      · rw [Fie.stop_end p s j h] at h2; omega
    cases hp : p s[j]
    · rw [Fie.stop_no p s j hj hp] at h2; omega
    · have e := Fie.stop_yes p s j hj hp
      rw [e] at h2 ⊢
      exact stop_mid p s d (j + 1) k (by omega) (by omega) h2
theorem stop_yes0 {p : UInt8 → Bool} {s : ByteArray} {k : Nat} (h : k ≤ Fie.stop p s 0) (hk : k < s.size) (hp : p s[k] = true) : k + 1 ≤ Fie.stop p s 0 := by
  rw [stop_mid p s _ 0 k rfl (by omega) h, Fie.stop_yes p s k hk hp]
  exact (Fie.stop_le p s (k + 1) (by omega)).1
theorem stop_no0 {p : UInt8 → Bool} {s : ByteArray} {k : Nat} (h : k ≤ Fie.stop p s 0) (hk : k < s.size) (hp : p s[k] = false) : Fie.stop p s 0 = k := by
  rw [stop_mid p s _ 0 k rfl (by omega) h, Fie.stop_no p s k hk hp]
/-- Bare as far as it has been looked at. -/
def barePre (s : ByteArray) (k : Nat) : Bool := decide (s.size ≠ 0 ∧ k ≤ Fie.stop Fie.bare s 0)
theorem barePre_yes {s : ByteArray} {k : Nat} (hk : k < s.size) (h : barePre s k = true) : barePre s (k + 1) = Fie.bare s[k] := by
  simp only [barePre, decide_eq_true_eq] at h
  cases hp : Fie.bare s[k]
  · have := stop_no0 h.2 hk hp
    exact decide_eq_false (by omega)
  · have := stop_yes0 h.2 hk hp
    exact decide_eq_true (by omega)
theorem barePre_start (s : ByteArray) : decide (0 < s.size) = barePre s 0 := by
  unfold barePre; exact decide_eq_decide.2 (by omega)
theorem barePre_no {s : ByteArray} {k : Nat} (hk : k < s.size) (h : barePre s k = false) : barePre s (k + 1) = false := by
  simp only [barePre, decide_eq_false_iff_not] at *; omega
theorem barePre_end (s : ByteArray) : barePre s s.size = plain s := by
  have := Fie.stop_le Fie.bare s 0 (by omega)
  unfold barePre plain
  rw [Bool.eq_iff_iff]; simp; omega
theorem within_no3 {c : UInt8} (h : Fie.within c = false) : (c.toNat : Int) < 32 ∨ (decide ((c.toNat : Int) < 32) = false ∧ 126 < (c.toNat : Int)) ∨ (decide ((c.toNat : Int) < 32) = false ∧ decide (126 < (c.toNat : Int)) = false ∧ ((c.toNat : Int) == 34) = true) := by
  simp [Fie.within] at h
  by_cases g : (c.toNat : Int) < 32
  · exact .inl g
  · by_cases g2 : 126 < (c.toNat : Int)
    · exact .inr (.inl ⟨decide_eq_false g, g2⟩)
    · exact .inr (.inr ⟨decide_eq_false g, decide_eq_false g2, beq_iff_eq.2 (by omega)⟩)
theorem within_yes3 {c : UInt8} (h : Fie.within c = true) : decide ((c.toNat : Int) < 32) = false ∧ decide (126 < (c.toNat : Int)) = false ∧ ((c.toNat : Int) == 34) = false := by
  simp [Fie.within] at h; refine ⟨?_, ?_, ?_⟩ <;> simp <;> omega

theorem join_snoc (xs : List (List UInt8)) (x sep : List UInt8) : Lib.join (xs ++ [x]) sep = if xs = [] then x else Lib.join xs sep ++ (sep ++ x) := by
  induction xs with
  | nil => simp [Lib.join_one]
  | cons a r ih =>
    rw [if_neg (by simp)]
    cases r with
    | nil => simp [Lib.join, List.intercalate, List.intersperse]
    | cons b r =>
      rw [if_neg (by simp)] at ih
      have e1 : Lib.join (a :: b :: r) sep = a ++ sep ++ Lib.join (b :: r) sep := by simp [Lib.join, List.intercalate, List.intersperse]
      have e2 : Lib.join ((a :: b :: r) ++ [x]) sep = a ++ sep ++ Lib.join ((b :: r) ++ [x]) sep := by simp [Lib.join, List.intercalate, List.intersperse]
      rw [e2, ih, e1]; simp
theorem joined_nil : joined [] = ByteArray.empty := rfl
theorem ba_ext {a b : ByteArray} (h : a.data.toList = b.data.toList) : a = b := by
  cases a; cases b; congr 1; exact Array.toList_inj.1 h
theorem joined_first (x : ByteArray) : joined [x] = fieldOut x := by
  apply ba_ext; simp [joined, Lib.join_one]
theorem joined_more (l : List ByteArray) (x : ByteArray) (h : l ≠ []) : joined (l ++ [x]) = joined l ++ ⟨#[32]⟩ ++ fieldOut x := by
  apply ba_ext
  unfold joined
  rw [List.map_append, List.map_append, List.map_cons, List.map_nil, List.map_cons, List.map_nil, join_snoc, if_neg (by simpa using h)]
  simp [ByteArray.data_append]
theorem out_size (s : ByteArray) : (fieldOut s).size ≤ s.size + 2 := by
  have h1 : (⟨#[34]⟩ : ByteArray).size = 1 := rfl
  unfold fieldOut; split <;> simp [ByteArray.size_append, h1] <;> omega
theorem joined_size (l : List ByteArray) (hl : ∀ s ∈ l, s.size ≤ 2000) (k : Nat) : (joined (l.take k)).size ≤ k * 2003 := by
  have h1 := join_len 2002 [32] (((l.take k).map fieldOut).map (·.data.toList)) (by
    intro x hx
    simp only [List.mem_map] at hx
    obtain ⟨u, ⟨v, hv, rfl⟩, rfl⟩ := hx
    have h1 := hl v (List.mem_of_mem_take hv)
    have h2 := out_size v
    simp; omega)
  have h2 : (((l.take k).map fieldOut).map (·.data.toList)).length ≤ k := by
    rw [List.length_map, List.length_map]; exact List.length_take_le _ _
  have h3 := Nat.mul_le_mul_right (2002 + [(32 : UInt8)].length) h2
  have e : (joined (l.take k)).size = (Lib.join (((l.take k).map fieldOut).map (·.data.toList)) [32]).length := by unfold joined; show Array.size _ = _; rw [List.size_toArray]
  rw [e]
  exact Nat.le_trans h1 h3
theorem joinR_all (l : List ByteArray) (k : Nat) (hk : l.length = k) (h : allOk l = true) : joinR l = if 16 < k ∨ 500 < (joined l).size then (ByteArray.empty, 12) else (joined l, 0) := by
  unfold joinR
  rw [if_pos h, hk]

/-- A call that returns a text and an error's number. -/
abbrev JoinSays (f : FuncId) (v : Value) (w : World) (l : List ByteArray) : Prop := Rets Try.prog f #[v] w (.tuple #[.string (joinR l).1, .int .i64 (joinR l).2])

set_option maxRecDepth 100000 in
set_option maxHeartbeats 4000000 in
theorem rjoin_any (l : List ByteArray) (n : Nat) (hn : l.length = n) (b o c : Nat) (w : World) (m1 : b < w.heap.size) (n1 : n ≤ 100) (hl : ∀ s ∈ l, s.size ≤ 2000)
    (hc : ∀ i u, (l.map Value.string)[i]? = some u → w.cell? ⟨b, o + i, none⟩ = some u) :
    JoinSays 17 (.slice (some ⟨b, o, none⟩) n c) w l := by
  haveI : InW b w := ⟨m1⟩
  have H1 := Lib.hid hc
  have Hn := Lib.hid hn
  have HL := Lib.hid hl
  clear hc hn hl
  unfold JoinSays Rets
  go_enter Try.func17, Try.ntmps17
  go_wp2
  go_loopw [4, 5] (fun v i wr => ∃ (k : Nat), k ≤ n ∧ i = .int .i64 k ∧ v = .string (joined (l.take k)) ∧ Hid (allOk (l.take k) = true) ∧ Ext w wr) (fun _ i _ => n - (intOf i).toNat)
  case atStart => exact ⟨0, by omega, rfl, rfl, rfl, isext⟩
  case round =>
    obtain ⟨k, k1, rfl, rfl, hok, hx⟩ := hrel
    obtain ⟨yr, rfl⟩ := fin hx
    clear hx
    have hsz := joined_size l HL.out k
    have hsz2 : (joined (l.take k)).size ≤ 210000 := by omega
    by_cases c0 : k < n
    · have hk : k < l.length := by rw [Hn.out]; exact c0
      have f1 := text_at H1.out k hk
      have hs := HL.out _ (List.getElem_mem hk)
      have T2 := Lib.hid (take_ok l k hk)
      have T3 := Lib.hid (fun h => allOk_no (List.getElem_mem hk) h)
      have T4 : Hid (k ≠ 0 → joined (l.take (k + 1)) = joined (l.take k) ++ ⟨#[32]⟩ ++ fieldOut l[k]) := fun h => by
        rw [List.take_succ_eq_append_getElem hk]
        exact joined_more _ _ (by intro e; have := congrArg List.length e; rw [List.length_take] at this; simp only [List.length_nil] at this; omega)
      have T5 : Hid (k = 0 → joined (l.take (k + 1)) = joined (l.take k) ++ fieldOut l[k]) := fun h => by
        subst h
        rw [List.take_succ_eq_append_getElem hk]
        simp [joined_first, joined_nil]
      generalize l[k] = s at *
      generalize joined (l.take k) = t at *
      have hm : s.size ≤ maxLen := by unfold maxLen; omega
      clear hk
      go_wp2
      go_loopw [6, 7, 8] (fun p j c wr => ∃ (i : Nat), i ≤ s.size ∧ j = .int .i64 i ∧ p = .bool (barePre s i) ∧ i ≤ Fie.stop Fie.within s 0 ∧ Ext w wr) (fun _ j _ _ => s.size - (intOf j).toNat)
      case atStart => exact ⟨0, by omega, rfl, by rw [← barePre_start], by omega, isext⟩
      case round =>
        obtain ⟨i, i1, rfl, rfl, hi, hx⟩ := hrel
        obtain ⟨y2, rfl⟩ := fin hx
        clear hx
        by_cases c1 : i < s.size
        · cases c2 : Fie.within s[i]
          · have E : Hid (joinR l = (ByteArray.empty, 6)) := by
              show _ = _; unfold joinR
              rw [if_neg (by rw [T3.out (decide_eq_false (by rw [stop_no0 hi c1 c2]; omega))]; simp)]
            rcases within_no3 c2 with d | ⟨d, d2⟩ | ⟨d, d2, d3⟩
            all_goals
              clear c2
              go_wp2
              go_ret2
              exact ⟨by rw [E.out]; rfl, done⟩
          · have hi' := stop_yes0 hi c1 c2
            obtain ⟨d1, d2, d3⟩ := within_yes3 c2
            clear c2
            cases hp : barePre s i
            · have hq := barePre_no c1 hp
              go_wp2
              go_roundw
              case rel => exact ⟨i + 1, by omega, by go_num, by rw [hq], hi', isext⟩
              case measure => simp [intOf]; omega
            · have hq := Lib.hid (barePre_yes c1 hp)
              go_wp2_with (go_at_call 25; refine (rbare_same _ _).mono ?_; rintro _ _ ⟨rfl, rfl⟩)
              go_roundw
              case rel => exact ⟨i + 1, by omega, by go_num, by rw [hq.out], hi', isext⟩
              case measure => simp [intOf]; omega
        · obtain rfl : i = s.size := by omega
          rw [barePre_end]
          have fo : Hid (fieldOk s = true) := decide_eq_true (by have := (Fie.stop_le Fie.within s 0 (by omega)).2; omega)
          cases hp : plain s <;> by_cases z : k = 0
          · have E := Lib.hid ((T5.out z).trans (congrArg (t ++ ·) (out_quoted hp)))
            clear hp
            have zz : k ≤ 0 := by omega
            clear z
            go_wp2
            go_roundw
            case rel => exact ⟨k + 1, by omega, by go_num, by rw [E.out]; simp [ByteArray.append_assoc], T2.out hok.out fo.out, isext⟩
            case measure => simp [intOf]; omega
          · have E := Lib.hid ((T4.out z).trans (congrArg (t ++ ⟨#[32]⟩ ++ ·) (out_quoted hp)))
            clear hp
            have zz : 0 < k := by omega
            clear z
            go_wp2
            go_roundw
            case rel => exact ⟨k + 1, by omega, by go_num, by rw [E.out]; simp [ByteArray.append_assoc], T2.out hok.out fo.out, isext⟩
            case measure => simp [intOf]; omega
          · have E := Lib.hid ((T5.out z).trans (congrArg (t ++ ·) (out_plain hp)))
            clear hp
            have zz : k ≤ 0 := by omega
            clear z
            go_wp2
            go_roundw
            case rel => exact ⟨k + 1, by omega, by go_num, by rw [E.out], T2.out hok.out fo.out, isext⟩
            case measure => simp [intOf]; omega
          · have E := Lib.hid ((T4.out z).trans (congrArg (t ++ ⟨#[32]⟩ ++ ·) (out_plain hp)))
            clear hp
            have zz : 0 < k := by omega
            clear z
            go_wp2
            go_roundw
            case rel => exact ⟨k + 1, by omega, by go_num, by rw [E.out], T2.out hok.out fo.out, isext⟩
            case measure => simp [intOf]; omega
    · obtain rfl : k = n := by omega
      have lt : l.take k = l := List.take_of_length_le (by rw [Hn.out]; omega)
      rw [lt] at hok hsz hsz2 ⊢
      have E := Lib.hid (joinR_all l k Hn.out hok.out)
      generalize joined l = t at *
      by_cases z : 16 < k
      · go_wp2
        go_ret2
        exact ⟨by rw [E.out, if_pos (.inl z)]; rfl, done⟩
      · by_cases z2 : 500 < t.size
        · go_wp2
          go_ret2
          exact ⟨by rw [E.out, if_pos (.inr z2)]; rfl, done⟩
        · have z3 : decide (16 < k) = false := decide_eq_false z
          have z4 : decide (500 < t.size) = false := decide_eq_false z2
          go_wp2
          go_ret2
          exact ⟨by rw [E.out, if_neg (by omega)]; rfl, done⟩
/-- At a slice that reads as a list, nil too. -/
theorem rjoin_reads (l : List ByteArray) (n : Nat) (hn : l.length = n) (v : Value) (w : World) (n1 : n ≤ 100) (hl : ∀ s ∈ l, s.size ≤ 2000) (hr : Reads w v n (l.map Value.string)) :
    JoinSays 17 v w l := by
  rcases hr with ⟨a9, c9, rfl, rfl, h3⟩ | ⟨b, o, c, rfl, h1, h2, hb, hc⟩
  · obtain rfl : l = [] := List.eq_nil_of_length_eq_zero hn
    unfold JoinSays Rets
    clear hn h3
    go_enter Try.func17, Try.ntmps17
    go_wp2
    refine wp_loop_rounds 1 ?_
    simp only [rounds_succ]
    go_wp2
    go_ret2
    exact ⟨rfl, done⟩
  · exact rjoin_any l n hn b o c w hb n1 hl hc
theorem join_reads (l : List ByteArray) (n : Nat) (hn : l.length = n) (v : Value) (w : World) (n1 : n ≤ 100) (hl : ∀ s ∈ l, s.size ≤ 2000) (hr : Reads w v n (l.map Value.string)) :
    JoinSays 16 v w l := by
  rcases hr with ⟨a9, c9, rfl, rfl, h3⟩ | ⟨b, o, c, rfl, h1, h2, hb, hc⟩
  · obtain rfl : l = [] := List.eq_nil_of_length_eq_zero hn
    unfold JoinSays Rets
    clear hn h3
    go_enter Try.func16, Try.ntmps16
    go_wp2
    refine wp_loop_rounds 1 ?_
    simp only [rounds_succ]
    go_wp2_with fail
    refine (Try.strings_Join_none none 0 _ _).mono ?_
    rintro e w' ⟨rfl, rfl⟩
    go_wp2
    go_ret2
    exact ⟨rfl, done⟩
  · exact join_any l n hn b o c w hb n1 hl hc
end Go.Proofs.Ytifjnegjjjpagaa
