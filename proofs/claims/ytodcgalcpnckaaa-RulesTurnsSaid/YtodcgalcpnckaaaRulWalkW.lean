/- Walks of rules: alive; the laws of Ahead and of Force. -/
import Derived.Test.YtodcgalcpnckaaaRulWalkV
import Derived.Test.YtodcgalcpnckaaaRulWalkQ
import Derived.Test.YtodcgalcpnckaaaRulWalkU
set_option linter.unusedVariables false
set_option linter.unusedSimpArgs false
namespace Go.Proofs.Ytodcgalcpnckaaa
open Go.RowKit Go.Shelf

theorem str_of {s : ByteArray} {l : List UInt8} (h : s.data.toList = l) : s = ⟨l.toArray⟩ := by
  subst h; cases s; simp
theorem us_turns : (Rul.turnsG usL 2021).map (·.at') = [1615687200, 1636250400] ∧ (Rul.turnL usL 2021).length = 2 := by decide +kernel
/-- The two turns of 2021, as alive looks at them. -/
theorem us_turns_any (v : Value) (w : World) (hr : Reads w v 2 (ruleRow usL)) :
    Calls Try.prog 10 #[v, .int .i64 2021] w fun e w' => ∃ (b o cap : Nat) (y : Past w), e = .returned (.slice (some ⟨b, o, none⟩) 2 cap) ∧ y.x.cell? ⟨b, o, none⟩ = some (.int .i64 1615687200) ∧ b < y.x.heap.size ∧ w' = y.x := by
  have hl : (Rul.turnL usL 2021).length = 2 := us_turns.2
  refine (turns_any usL 2 rfl (by omega) us_right 2021 (by rw [hl]; omega) v w hr).mono ?_
  rintro e w' ⟨v', y, rfl, hv, rfl⟩
  have hlen : (Rul.turnsG usL 2021).length = 2 := by rw [Rul.turnsG_length]; exact hl
  rw [hlen] at hv
  rcases hv with ⟨_, _, _, h, _⟩ | ⟨b, o, c, rfl, k1, k2, m1, hc⟩
  · omega
  · refine ⟨b, o, c, y, rfl, ?_, m1, rfl⟩
    have h0 : 0 < (Rul.turnsG usL 2021).length := by omega
    have := (turn_at hc 0 h0).1
    rw [show o + 0 * 4 = o by omega] at this
    rw [this]
    have e := us_turns.1
    have : ((Rul.turnsG usL 2021).map (·.at'))[0]? = some 1615687200 := by rw [e]; rfl
    rw [List.getElem?_map, List.getElem?_eq_getElem h0] at this
    injection this with this
    have e2 : (Rul.turnsG usL 2021)[0].at' = 1615687200 := this
    rw [e2]
theorem us_f1 (v : Value) (w : World) (hr : Reads w v 2 (ruleRow usL)) : Rets Try.prog 17 #[v, .int .i64 (-18000), .int .i64 1615705200] w (.tuple #[.int .i64 3600, .string ⟨#[68]⟩]) := by
  have := force_yes usL 2 rfl us_right (-18000) (by omega) (by omega) 1615705200 (by omega) (by omega) v w hr
  rw [us_force1.1, str_of us_force1.2] at this
  exact this
theorem us_f2 (v : Value) (w : World) (hr : Reads w v 2 (ruleRow usL)) : Rets Try.prog 17 #[v, .int .i64 (-18000), .int .i64 1615705199] w (.tuple #[.int .i64 0, .string ⟨#[83]⟩]) := by
  have := force_yes usL 2 rfl us_right (-18000) (by omega) (by omega) 1615705199 (by omega) (by omega) v w hr
  rw [us_force2.1, str_of us_force2.2] at this
  exact this
theorem us_r (v : Value) (w : World) (hr : Reads w v 2 (ruleRow usL)) : Rets Try.prog 12 #[v] w (.bool true) := by
  have := sets_any usL 2 rfl v w hr
  rw [us_right] at this
  exact this
set_option maxRecDepth 100000 in
set_option maxHeartbeats 4000000 in
theorem ralive_any (w : World) : Rets Try.prog 9 #[] w (.bool true) := by
  unfold Rets
  go_enter Try.func9, Try.ntmps9
  go_wp2_with fail
  go_at_call 24
  refine (us_any _).mono ?_
  rintro _ _ ⟨v1, y1, rfl, hv1, rfl⟩
  have HV1 := Lib.hid hv1
  clear hv1
  go_wp2_with fail
  go_at_call 17
  refine Rets.use (us_f1 _ _ (HV1.out.ext isext)) ?_
  intro y2
  go_wp2_with fail
  go_at_call 24
  refine (us_any _).mono ?_
  rintro _ _ ⟨v3, y3, rfl, hv3, rfl⟩
  have HV3 := Lib.hid hv3
  clear hv3
  go_wp2_with fail
  go_at_call 17
  refine Rets.use (us_f2 _ _ (HV3.out.ext isext)) ?_
  intro y4
  go_wp2_with fail
  go_at_call 24
  refine (us_any _).mono ?_
  rintro _ _ ⟨v5, y5, rfl, hv5, rfl⟩
  have HV5 := Lib.hid hv5
  clear hv5
  go_wp2_with fail
  go_at_call 10
  refine (us_turns_any _ _ (HV5.out.ext isext)).mono ?_
  rintro _ _ ⟨b, o, cap, y6, rfl, hc, hb, rfl⟩
  haveI : InW b y6.x := ⟨hb⟩
  go_wp2_with fail
  go_at_call 24
  refine (us_any _).mono ?_
  rintro _ _ ⟨v7, y7, rfl, hv7, rfl⟩
  have HV7 := Lib.hid hv7
  clear hv7
  go_wp2_with fail
  go_at_call 12
  refine Rets.use (us_r _ _ (HV7.out.ext isext)) ?_
  intro y8
  go_wp2
  go_ret
  exact ⟨rfl, done⟩
/-- What the program says of a set, right or not. -/
def aheadAll (l : List Rule) (t : Int) : Option Turn := if Rul.allB l = true then Rul.aheadD l t else none
theorem ahead_all (l : List Rule) (n : Nat) (hn : l.length = n) (t : Int) (a1 : -9223372036854775808 ≤ t) (a2 : t ≤ 9223372036854775807) (v : Value) (w : World) (hr : Reads w v n (ruleRow l)) :
    Rets Try.prog 15 #[v, .int .i64 t] w (.tuple #[turnV (Rul.orNo (aheadAll l t)), .bool (aheadAll l t).isSome]) := by
  unfold aheadAll
  cases hA : Rul.allB l
  · exact ahead_no l n hn hA t v w hr
  · rw [if_pos rfl, ← Rul.ahead_same hA t a1 a2]
    exact ahead_yes l n hn hA t a1 a2 v w hr
def forceAll (l : List Rule) (off t : Int) : Turn := if Rul.allB l = true ∧ -86400 < off ∧ off < 86400 then Rul.forceD l off t else Rul.noTurn
theorem force_all (l : List Rule) (n : Nat) (hn : l.length = n) (off t : Int) (a1 : -9223372036854775808 ≤ t) (a2 : t ≤ 9223372036854775807) (v : Value) (w : World) (hr : Reads w v n (ruleRow l)) :
    Rets Try.prog 17 #[v, .int .i64 off, .int .i64 t] w (.tuple #[.int .i64 (forceAll l off t).s, .string (forceAll l off t).l]) := by
  unfold forceAll
  split
  · rename_i h
    rw [← Rul.force_same h.1 off h.2.1 h.2.2 t a1 a2]
    exact force_yes l n hn h.1 off h.2.1 h.2.2 t a1 a2 v w hr
  · rename_i h
    refine force_no l n hn off ?_ t v w hr
    cases hA : Rul.allB l
    · exact .inl rfl
    · right
      by_cases o1 : -86400 < off
      · exact .inr (by have : ¬ off < 86400 := fun o2 => h ⟨hA, o1, o2⟩; omega)
      · exact .inl (by omega)
set_option maxRecDepth 100000 in
set_option maxHeartbeats 4000000 in
theorem aheadlaw_any (l : List Rule) (n : Nat) (hn : l.length = n) (v : Value) (t : Int) (a1 : -9223372036854775808 ≤ t) (a2 : t ≤ 9223372036854775807) (w : World) (hr : Reads w v n (ruleRow l)) :
    Rets Try.prog 4 #[v, .int .i64 t] w (.bool true) := by
  have HL := fun w => Lib.hid (ralive_any w)
  have HA := fun w hr => Lib.hid (ahead_all l n hn t a1 a2 v w hr)
  have HR := fun w hr => Lib.hid (rsets_any l n hn v w hr)
  have HD : ∀ w, Reads w v n (ruleRow l) → Rul.allB l = true → Hid (Rets Try.prog 16 #[v, .int .i64 t] w (.tuple #[turnV (Rul.orNo (aheadAll l t)), .bool (aheadAll l t).isSome])) := fun w hr hA => by
    have := rahead_all l n hn hA t a1 a2 v w hr
    unfold aheadAll
    rw [if_pos hA]; exact this
  have HN : Rul.allB l = false → aheadAll l t = none := fun h => by unfold aheadAll; rw [h]; rfl
  have hmax : (n : Int) ≤ 9223372036854775807 := by
    rcases hr with ⟨_, _, _, h, _⟩ | ⟨_, _, _, _, k1, k2, _⟩
    · omega
    · unfold maxLen at k2; omega
  obtain ⟨a8, c8, hv⟩ : ∃ a c, v = .slice a n c := by rcases hr with ⟨a, c, rfl, rfl, _⟩ | ⟨b, o, c, rfl, _⟩ <;> exact ⟨_, _, rfl⟩
  subst hv
  generalize aheadAll l t = Q at *
  generalize Rul.allB l = A at *
  clear hn
  unfold Rets
  by_cases h20 : 20 < n
  · have h20' : (20 : Int) < n := by omega
    go_enter Try.func4, Try.ntmps4
    go_wp2_with (go_at_call 9; refine Rets.use (HL _).out ?_; intro _)
    go_ret
    exact ⟨rfl, done⟩
  · have h20' : decide ((20 : Int) < n) = false := decide_eq_false (by omega)
    cases A
    · obtain rfl := HN rfl
      have HA : ∀ w, Reads w (.slice a8 n c8) n (ruleRow l) → Hid (Rets Try.prog 15 #[.slice a8 n c8, .int .i64 t] w (.tuple #[.agg #[.int .i64 0, .int .i64 0, .int .i64 0, .string ⟨#[]⟩], .bool false])) := HA
      clear HN HD
      go_enter Try.func4, Try.ntmps4
      go_wp2_with (first | (go_at_call 9; refine Rets.use (HL _).out ?_; intro _) | (go_at_call 15; refine Rets.use (HA _ (hr.ext isext)).out ?_; intro _) | (go_at_call 11; refine Rets.use (HR _ (hr.ext isext)).out ?_; intro _))
      go_ret
      exact ⟨rfl, done⟩
    · have HD1 := fun w hr => HD w hr rfl
      clear HN HD
      generalize Q.isSome = fb at *
      generalize Rul.orNo Q = bb at *
      obtain ⟨ba, br, bs, bl⟩ := bb
      go_enter Try.func4, Try.ntmps4
      go_wp2_with (first | (go_at_call 9; refine Rets.use (HL _).out ?_; intro _) | (go_at_call 15; refine Rets.use (HA _ (hr.ext isext)).out ?_; intro _) | (go_at_call 16; refine Rets.use (HD1 _ (hr.ext isext)).out ?_; intro _) | (go_at_call 11; refine Rets.use (HR _ (hr.ext isext)).out ?_; intro _))
      go_ret
      exact ⟨ret_bool (by simp), done⟩
set_option maxRecDepth 100000 in
set_option maxHeartbeats 4000000 in
theorem forcelaw_any (l : List Rule) (n : Nat) (hn : l.length = n) (v : Value) (off t : Int) (a1 : -9223372036854775808 ≤ t) (a2 : t ≤ 9223372036854775807) (w : World) (hr : Reads w v n (ruleRow l)) :
    Rets Try.prog 5 #[v, .int .i64 off, .int .i64 t] w (.bool true) := by
  have HL := fun w => Lib.hid (ralive_any w)
  have HA := fun w hr => Lib.hid (force_all l n hn off t a1 a2 v w hr)
  have HR := fun w hr => Lib.hid (rsets_any l n hn v w hr)
  have HD : ∀ w, Reads w v n (ruleRow l) → Rul.allB l = true → -86400 < off → off < 86400 → Hid (Rets Try.prog 18 #[v, .int .i64 off, .int .i64 t] w (.tuple #[.int .i64 (forceAll l off t).s, .string (forceAll l off t).l])) := fun w hr hA o1 o2 => by
    have := rforce_all l n hn hA off (by omega) (by omega) t a1 a2 v w hr
    unfold forceAll
    rw [if_pos ⟨hA, o1, o2⟩]; exact this
  have HN : (Rul.allB l = false ∨ off ≤ -86400 ∨ 86400 ≤ off) → (forceAll l off t).s = 0 ∧ (forceAll l off t).l = ⟨#[]⟩ := fun h => by
    have : ¬ (Rul.allB l = true ∧ -86400 < off ∧ off < 86400) := fun ⟨x, y, z⟩ => by
      rcases h with h | h | h
      · rw [h] at x; cases x
      · omega
      · omega
    unfold forceAll; rw [if_neg this]; exact ⟨rfl, rfl⟩
  have hmax : (n : Int) ≤ 9223372036854775807 := by
    rcases hr with ⟨_, _, _, h, _⟩ | ⟨_, _, _, _, k1, k2, _⟩
    · omega
    · unfold maxLen at k2; omega
  obtain ⟨a8, c8, hv⟩ : ∃ a c, v = .slice a n c := by rcases hr with ⟨a, c, rfl, rfl, _⟩ | ⟨b, o, c, rfl, _⟩ <;> exact ⟨_, _, rfl⟩
  subst hv
  generalize (forceAll l off t).s = fs at *
  generalize (forceAll l off t).l = fl at *
  have hA : Rul.allB l = true ∨ Rul.allB l = false := by cases Rul.allB l; exact .inr rfl; exact .inl rfl
  generalize Rul.allB l = A at *
  clear hn
  unfold Rets
  by_cases h20 : 20 < n
  · have h20' : (20 : Int) < n := by omega
    go_enter Try.func5, Try.ntmps5
    go_wp2_with (go_at_call 9; refine Rets.use (HL _).out ?_; intro _)
    go_ret
    exact ⟨rfl, done⟩
  · have h20' : decide ((20 : Int) < n) = false := decide_eq_false (by omega)
    have hc : (A = false) ∨ (A = true ∧ off ≤ -86400) ∨ (A = true ∧ decide (off ≤ -86400) = false ∧ 86400 ≤ off) ∨ (A = true ∧ decide (off ≤ -86400) = false ∧ decide (86400 ≤ off) = false) := by
      rcases hA with h | h
      · by_cases o1 : off ≤ -86400
        · exact .inr (.inl ⟨h, o1⟩)
        · by_cases o2 : 86400 ≤ off
          · exact .inr (.inr (.inl ⟨h, decide_eq_false o1, o2⟩))
          · exact .inr (.inr (.inr ⟨h, decide_eq_false o1, decide_eq_false o2⟩))
      · exact .inl h
    clear hA
    rcases hc with rfl | ⟨rfl, h1⟩ | ⟨rfl, h1, h2⟩ | ⟨rfl, h1, h2⟩
    · obtain ⟨rfl, rfl⟩ := HN (.inl rfl)
      clear HN HD
      go_enter Try.func5, Try.ntmps5
      go_wp2_with (first | (go_at_call 9; refine Rets.use (HL _).out ?_; intro _) | (go_at_call 17; refine Rets.use (HA _ (hr.ext isext)).out ?_; intro _) | (go_at_call 11; refine Rets.use (HR _ (hr.ext isext)).out ?_; intro _))
      go_ret
      exact ⟨rfl, done⟩
    · obtain ⟨rfl, rfl⟩ := HN (.inr (.inl h1))
      clear HN HD
      go_enter Try.func5, Try.ntmps5
      go_wp2_with (first | (go_at_call 9; refine Rets.use (HL _).out ?_; intro _) | (go_at_call 17; refine Rets.use (HA _ (hr.ext isext)).out ?_; intro _) | (go_at_call 11; refine Rets.use (HR _ (hr.ext isext)).out ?_; intro _))
      go_ret
      exact ⟨rfl, done⟩
    · obtain ⟨rfl, rfl⟩ := HN (.inr (.inr h2))
      clear HN HD
      go_enter Try.func5, Try.ntmps5
      go_wp2_with (first | (go_at_call 9; refine Rets.use (HL _).out ?_; intro _) | (go_at_call 17; refine Rets.use (HA _ (hr.ext isext)).out ?_; intro _) | (go_at_call 11; refine Rets.use (HR _ (hr.ext isext)).out ?_; intro _))
      go_ret
      exact ⟨rfl, done⟩
    · have HD1 := fun w hr => HD w hr rfl (by have := of_decide_eq_false h1; omega) (by have := of_decide_eq_false h2; omega)
      clear HN HD
      go_enter Try.func5, Try.ntmps5
      go_wp2_with (first | (go_at_call 9; refine Rets.use (HL _).out ?_; intro _) | (go_at_call 17; refine Rets.use (HA _ (hr.ext isext)).out ?_; intro _) | (go_at_call 18; refine Rets.use (HD1 _ (hr.ext isext)).out ?_; intro _) | (go_at_call 11; refine Rets.use (HR _ (hr.ext isext)).out ?_; intro _))
      go_ret
      exact ⟨ret_bool (by simp), done⟩
end Go.Proofs.Ytodcgalcpnckaaa
