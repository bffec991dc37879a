/- Walks of moments: a clock's time and by which clock; an offset; a day's number. -/
import Derived.Test.YtgnjmejmngljjaaMomWalkB
import Derived.Test.YtgnjmejmngljjaaMapLit
set_option linter.unusedVariables false
set_option linter.unusedSimpArgs false
namespace Go.Proofs.Ytgnjmejmngljjaa
open Go.RowKit

theorem span_any (l : List UInt8) (w : World) (hs : l.length ≤ maxLen) : Rets Try.prog 49 #[.string ⟨l.toArray⟩] w (resV (Mom.span l)) := by
  by_cases h : ∃ r, l = 45 :: r
  · obtain ⟨r, rfl⟩ := h
    have hr : r.length ≤ maxLen := by simp at hs; omega
    by_cases h0 : r = []
    · subst h0
      have HC := fun w => Lib.hid (cutpre_yes 45 [] w)
      have E : Hid (resV (Mom.span [45]) = .tuple #[.int .i64 0, .string ⟨#[]⟩, .bool true]) := rfl
      unfold Rets
      go_enter Try.func49, Try.ntmps49
      go_wp2_with (first | (go_at_call 60; refine Rets.use (HC _).out ?_; intro _))
      go_ret3
      exact ⟨by rw [E.out]; first | done | rfl, done⟩
    · have e : Mom.span (45 :: r) = Mom.bar true r := by show (if r = [] then _ else _) = _; rw [if_neg h0]
      rw [e]
      exact span_core _ true r w hr (fun w => cutpre_yes 45 r w) (fun _ => h0)
  · have h' : ∀ r, l ≠ 45 :: r := fun r e => h ⟨r, e⟩
    have e : Mom.span l = Mom.bar false l := by
      unfold Mom.span; split
      · rename_i r; exact absurd rfl (h' r)
      · rfl
    rw [e]
    exact span_core _ false l w hs (fun w => cutpre_no 45 l w h') (fun h => by cases h)

/-- The texts behind a time, with their clocks. -/
abbrev refEs : Array MapEntry := #[⟨.string ⟨#[]⟩, .int .i64 0, 0⟩, ⟨.string ⟨#[119]⟩, .int .i64 0, 1⟩, ⟨.string ⟨#[115]⟩, .int .i64 1, 2⟩, ⟨.string ⟨#[117]⟩, .int .i64 2, 3⟩, ⟨.string ⟨#[103]⟩, .int .i64 2, 4⟩, ⟨.string ⟨#[122]⟩, .int .i64 2, 5⟩]
theorem list_beq (l m : List UInt8) : ((⟨l.toArray⟩ : ByteArray) == ⟨m.toArray⟩) = decide (l = m) := by
  rw [beq_toListBytes, Lib.toList_data, Lib.toList_data, Bool.eq_iff_iff, beq_iff_eq, decide_eq_true_eq]
theorem find_ref (l : List UInt8) : ∃ r, Instr.findNow .string (.string ⟨l.toArray⟩) refEs.toList 0 = some r ∧ foundV (.int .i64 0) r = .int .i64 ((Mom.refOf l).getD 0) ∧ r.isSome = (Mom.refOf l).isSome := by
  have e : ∀ m : List UInt8, ((⟨l.toArray⟩ : ByteArray) == ⟨m.toArray⟩) = decide (l = m) := list_beq l
  by_cases h0 : l = []
  · subst h0; exact ⟨_, rfl, rfl, rfl⟩
  by_cases h1 : l = [119]
  · subst h1; exact ⟨_, rfl, rfl, rfl⟩
  by_cases h2 : l = [115]
  · subst h2; exact ⟨_, rfl, rfl, rfl⟩
  by_cases h3 : l = [117]
  · subst h3; exact ⟨_, rfl, rfl, rfl⟩
  by_cases h4 : l = [103]
  · subst h4; exact ⟨_, rfl, rfl, rfl⟩
  by_cases h5 : l = [122]
  · subst h5; exact ⟨_, rfl, rfl, rfl⟩
  have hr : Mom.refOf l = none := by simp [Mom.refOf, h0, h1, h2, h3, h4, h5]
  refine ⟨none, ?_, by rw [hr]; rfl, by rw [hr]; rfl⟩
  have f0 := e []; have f1 := e [119]; have f2 := e [115]; have f3 := e [117]; have f4 := e [103]; have f5 := e [122]
  rw [decide_eq_false h0] at f0; rw [decide_eq_false h1] at f1; rw [decide_eq_false h2] at f2; rw [decide_eq_false h3] at f3; rw [decide_eq_false h4] at f4; rw [decide_eq_false h5] at f5
  simp only [Instr.findNow, Instr.sameNow, refEs]
  simp only [f0, f1, f2, f3, f4, f5]
def clockV : Option (Int × Int) → Value
  | none => .tuple #[.int .i64 0, .int .i64 0, .int .i64 6]
  | some (n, r) => .tuple #[.int .i64 n, .int .i64 r, .int .i64 0]
set_option maxRecDepth 100000 in
set_option maxHeartbeats 2000000 in
theorem clock_any (l : List UInt8) (w : World) (hs : l.length ≤ maxLen) : Rets Try.prog 21 #[.string ⟨l.toArray⟩] w (clockV (Mom.clockP l)) := by
  have p0 := fun w0 : World => put_new (P := Try.prog) Try.underlying73 Try.underlying9 w0 #[] 0 ⟨#[]⟩ (.int .i64 0) rfl
  have p1 := fun w0 : World => put_new (P := Try.prog) Try.underlying73 Try.underlying9 w0 #[⟨.string ⟨#[]⟩, .int .i64 0, 0⟩] 1 ⟨#[119]⟩ (.int .i64 0) rfl
  have p2 := fun w0 : World => put_new (P := Try.prog) Try.underlying73 Try.underlying9 w0 #[⟨.string ⟨#[]⟩, .int .i64 0, 0⟩, ⟨.string ⟨#[119]⟩, .int .i64 0, 1⟩] 2 ⟨#[115]⟩ (.int .i64 1) rfl
  have p3 := fun w0 : World => put_new (P := Try.prog) Try.underlying73 Try.underlying9 w0 #[⟨.string ⟨#[]⟩, .int .i64 0, 0⟩, ⟨.string ⟨#[119]⟩, .int .i64 0, 1⟩, ⟨.string ⟨#[115]⟩, .int .i64 1, 2⟩] 3 ⟨#[117]⟩ (.int .i64 2) rfl
  have p4 := fun w0 : World => put_new (P := Try.prog) Try.underlying73 Try.underlying9 w0 #[⟨.string ⟨#[]⟩, .int .i64 0, 0⟩, ⟨.string ⟨#[119]⟩, .int .i64 0, 1⟩, ⟨.string ⟨#[115]⟩, .int .i64 1, 2⟩, ⟨.string ⟨#[117]⟩, .int .i64 2, 3⟩] 4 ⟨#[103]⟩ (.int .i64 2) rfl
  have p5 := fun w0 : World => put_new (P := Try.prog) Try.underlying73 Try.underlying9 w0 #[⟨.string ⟨#[]⟩, .int .i64 0, 0⟩, ⟨.string ⟨#[119]⟩, .int .i64 0, 1⟩, ⟨.string ⟨#[115]⟩, .int .i64 1, 2⟩, ⟨.string ⟨#[117]⟩, .int .i64 2, 3⟩, ⟨.string ⟨#[103]⟩, .int .i64 2, 4⟩] 5 ⟨#[122]⟩ (.int .i64 2) rfl
  simp only [List.push_toArray, List.nil_append, List.cons_append, Nat.reduceAdd] at p0 p1 p2 p3 p4 p5
  have hmm := @run_makeMap Try.prog
  have HS := fun w => Lib.hid (span_any l w hs)
  cases hr : Mom.span l with
  | none =>
    have E : Hid (clockV (Mom.clockP l) = .tuple #[.int .i64 0, .int .i64 0, .int .i64 6]) := by show _ = _; unfold Mom.clockP; rw [hr]; rfl
    rw [hr] at HS
    unfold resV at HS
    obtain ⟨r, hf, hv, hb⟩ := find_ref []
    have lk := fun w0 : World => look_new (P := Try.prog) Try.underlying73 Try.underlying9 w0 refEs 6 ⟨#[]⟩ (.int .i64 0) (fun w => Try.zeroValue3 w) r hf
    rw [hv, hb] at lk
    have e2 : Mom.refOf [] = some 0 := rfl
    rw [e2] at lk
    simp only [Option.getD_some, Option.isSome_some] at lk
    clear hr hs hv hb hf e2
    unfold Rets
    go_enter Try.func21, Try.ntmps21
    go_wp2_with (first | (go_at_call 49; refine Rets.use (HS _).out ?_; intro _))
    go_ret3
    exact ⟨by rw [E.out]; first | done | rfl, done⟩
  | some x =>
    obtain ⟨n, rest⟩ := x
    rw [hr] at HS
    unfold resV at HS
    obtain ⟨r, hf, hv, hb⟩ := find_ref rest
    have lk := fun w0 : World => look_new (P := Try.prog) Try.underlying73 Try.underlying9 w0 refEs 6 ⟨rest.toArray⟩ (.int .i64 0) (fun w => Try.zeroValue3 w) r hf
    rw [hv, hb] at lk
    clear hv hb hf
    cases hx : Mom.refOf rest with
    | none =>
      have E : Hid (clockV (Mom.clockP l) = .tuple #[.int .i64 0, .int .i64 0, .int .i64 6]) := by show _ = _; unfold Mom.clockP; rw [hr]; simp only [hx]; rfl
      rw [hx] at lk
      simp only [Option.getD_none, Option.isSome_none] at lk
      clear hr hs hx
      unfold Rets
      go_enter Try.func21, Try.ntmps21
      go_wp2_with (first | (go_at_call 49; refine Rets.use (HS _).out ?_; intro _))
      go_ret3
      exact ⟨by rw [E.out]; first | done | rfl, done⟩
    | some ref =>
      have E : Hid (clockV (Mom.clockP l) = .tuple #[.int .i64 n, .int .i64 ref, .int .i64 0]) := by show _ = _; unfold Mom.clockP; rw [hr]; simp only [hx]; rfl
      rw [hx] at lk
      simp only [Option.getD_some, Option.isSome_some] at lk
      clear hr hs hx
      unfold Rets
      go_enter Try.func21, Try.ntmps21
      go_wp2_with (first | (go_at_call 49; refine Rets.use (HS _).out ?_; intro _))
      go_ret3
      exact ⟨by rw [E.out]; first | done | rfl, done⟩

/-- An offset: its seconds, the error's number. -/
def offR (o : Option Int) : Int × Int := match o with
  | none => (0, 6)
  | some n => if n ≤ -86400 ∨ 86400 ≤ n then (0, 11) else (n, 0)
set_option maxHeartbeats 2000000 in
theorem offset_any (l : List UInt8) (w : World) (hs : l.length ≤ maxLen) : Rets Try.prog 23 #[.string ⟨l.toArray⟩] w (.tuple #[.int .i64 (offR (Mom.spanR l)).1, .int .i64 (offR (Mom.spanR l)).2]) := by
  have HS := fun w => Lib.hid (span_any l w hs)
  cases hr : Mom.span l with
  | none =>
    have e : Mom.spanR l = none := by
      cases he : Mom.spanR l with
      | none => rfl
      | some k => rw [(Mom.span_eq _ _).2 he] at hr; cases hr
    rw [hr] at HS; rw [e]
    unfold resV at HS
    clear hr hs e
    unfold Rets
    go_enter Try.func23, Try.ntmps23
    go_wp2_with (first | (go_at_call 49; refine Rets.use (HS _).out ?_; intro _))
    go_ret2
    exact ⟨rfl, done⟩
  | some x =>
    obtain ⟨n, rest⟩ := x
    rw [hr] at HS
    unfold resV at HS
    by_cases h0 : rest = []
    · subst h0
      have e : Mom.spanR l = some n := (Mom.span_eq _ _).1 hr
      rw [e]
      clear hr hs e
      by_cases c : n ≤ -86400 ∨ 86400 ≤ n
      · have E : Hid (offR (some n) = (0, 11)) := if_pos c
        unfold Rets
        rcases c with c | c
        · go_enter Try.func23, Try.ntmps23
          go_wp2_with (first | (go_at_call 49; refine Rets.use (HS _).out ?_; intro _))
          go_ret2
          exact ⟨by rw [E.out]; first | done | rfl, done⟩
        · have c' : decide (n ≤ -86400) = false := decide_eq_false (by omega)
          go_enter Try.func23, Try.ntmps23
          go_wp2_with (first | (go_at_call 49; refine Rets.use (HS _).out ?_; intro _))
          go_ret2
          exact ⟨by rw [E.out]; first | done | rfl, done⟩
      · have E : Hid (offR (some n) = (n, 0)) := if_neg c
        have c' : decide (n ≤ -86400) = false := decide_eq_false (by omega)
        have c2 : decide (86400 ≤ n) = false := decide_eq_false (by omega)
        clear c
        unfold Rets
        go_enter Try.func23, Try.ntmps23
        go_wp2_with (first | (go_at_call 49; refine Rets.use (HS _).out ?_; intro _))
        go_ret2
        exact ⟨by rw [E.out]; first | done | rfl, done⟩
    · have e : Mom.spanR l = none := by
        cases he : Mom.spanR l with
        | none => rfl
        | some k => rw [(Mom.span_eq _ _).2 he] at hr; cases hr; exact absurd rfl h0
      rw [e]
      have g1 : (⟨rest.toArray⟩ : ByteArray).toList.isEmpty = false ∧ ¬ (⟨rest.toArray⟩ : ByteArray).toList = [] := by rw [ByteArray.toList_eq]; simp [h0]
      have g2 : rest.isEmpty = false := by simp [h0]
      obtain ⟨g3, g4⟩ := g1
      clear hr hs e
      unfold Rets
      go_enter Try.func23, Try.ntmps23
      go_wp2_with (first | (go_at_call 49; refine Rets.use (HS _).out ?_; intro _))
      go_ret2
      exact ⟨rfl, done⟩
end Go.Proofs.Ytgnjmejmngljjaa
