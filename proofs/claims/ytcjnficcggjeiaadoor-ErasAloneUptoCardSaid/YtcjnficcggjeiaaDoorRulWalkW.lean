/- Walks of rules: alive; the laws of Ahead and of Force. -/
import Derived.Test.YtcjnficcggjeiaaDoorRulWalkQ
import Derived.Test.YtcjnficcggjeiaaDoorRulWalkU
set_option linter.unusedVariables false
set_option linter.unusedSimpArgs false
namespace Go.Proofs.YtcjnficcggjeiaaDoor
open Go.RowKit Go.Shelf

theorem str_of {s : ByteArray} {l : List UInt8} (h : s.data.toList = l) : s = ⟨l.toArray⟩ := by
  subst h; cases s; simp
theorem us_turns : (Rul.turnsG usL 2021).map (·.at') = [1615687200, 1636250400] ∧ (Rul.turnL usL 2021).length = 2 := by decide +kernel
theorem us_f1 (v : Value) (w : World) (hr : Reads w v 2 (ruleRow usL)) : Rets Tryd.prog 89 #[v, .int .i64 (-18000), .int .i64 1615705200] w (.tuple #[.int .i64 3600, .string ⟨#[68]⟩]) := by
  have := force_yes usL 2 rfl us_right (-18000) (by omega) (by omega) 1615705200 (by omega) (by omega) v w hr
  rw [us_force1.1, str_of us_force1.2] at this
  exact this
theorem us_f2 (v : Value) (w : World) (hr : Reads w v 2 (ruleRow usL)) : Rets Tryd.prog 89 #[v, .int .i64 (-18000), .int .i64 1615705199] w (.tuple #[.int .i64 0, .string ⟨#[83]⟩]) := by
  have := force_yes usL 2 rfl us_right (-18000) (by omega) (by omega) 1615705199 (by omega) (by omega) v w hr
  rw [us_force2.1, str_of us_force2.2] at this
  exact this
theorem us_r (v : Value) (w : World) (hr : Reads w v 2 (ruleRow usL)) : Rets Tryd.prog 85 #[v] w (.bool true) := by
  have := sets_any usL 2 rfl v w hr
  rw [us_right] at this
  exact this
/-- What the program says of a set, right or not. -/
def aheadAll (l : List Rule) (t : Int) : Option Turn := if Rul.allB l = true then Rul.aheadD l t else none
theorem ahead_all (l : List Rule) (n : Nat) (hn : l.length = n) (t : Int) (a1 : -9223372036854775808 ≤ t) (a2 : t ≤ 9223372036854775807) (v : Value) (w : World) (hr : Reads w v n (ruleRow l)) :
    Rets Tryd.prog 62 #[v, .int .i64 t] w (.tuple #[turnV (Rul.orNo (aheadAll l t)), .bool (aheadAll l t).isSome]) := by
  unfold aheadAll
  cases hA : Rul.allB l
  · exact ahead_no l n hn hA t v w hr
  · rw [if_pos rfl, ← Rul.ahead_same hA t a1 a2]
    exact ahead_yes l n hn hA t a1 a2 v w hr
def forceAll (l : List Rule) (off t : Int) : Turn := if Rul.allB l = true ∧ -86400 < off ∧ off < 86400 then Rul.forceD l off t else Rul.noTurn
theorem force_all (l : List Rule) (n : Nat) (hn : l.length = n) (off t : Int) (a1 : -9223372036854775808 ≤ t) (a2 : t ≤ 9223372036854775807) (v : Value) (w : World) (hr : Reads w v n (ruleRow l)) :
    Rets Tryd.prog 89 #[v, .int .i64 off, .int .i64 t] w (.tuple #[.int .i64 (forceAll l off t).s, .string (forceAll l off t).l]) := by
  unfold forceAll
  split
  · rename_i h
    rw [← Rul.force_same h.1 off h.2.1 h.2.2 t a1 a2]
    exact force_yes l n hn h.1 off h.2.1 h.2.2 t a1 a2 v w hr
  · rename_i h
    refine force_no l n hn off ?_ t v w hr
    cases hA : Rul.allB l
    · exact .inl rfl
    · right
      by_cases o1 : -86400 < off
      · exact .inr (by have : ¬ off < 86400 := fun o2 => h ⟨hA, o1, o2⟩; omega)
      · exact .inl (by omega)
end Go.Proofs.YtcjnficcggjeiaaDoor
