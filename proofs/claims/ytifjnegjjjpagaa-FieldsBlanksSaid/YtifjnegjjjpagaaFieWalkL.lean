/- Walk: what every right program answers (fields). -/
import Derived.Test.YtifjnegjjjpagaaFieWalkK
set_option linter.unusedVariables false
set_option linter.unusedSimpArgs false
namespace Go.Proofs.Ytifjnegjjjpagaa
open Go.RowKit

abbrev fa1 : ByteArray := ⟨#[82, 117, 108, 101, 9, 34, 97, 32, 98, 34, 32, 120, 35, 121]⟩
theorem fa_split (w : World) : Calls Try.prog 12 #[.string ⟨#[82, 117, 108, 101, 9, 34, 97, 32, 98, 34, 32, 120, 35, 121]⟩] w
    (SplitEnd w ([(⟨#[82, 117, 108, 101]⟩, 0), (⟨#[97, 32, 98]⟩, 5), (⟨#[120]⟩, 11)], 0, 0)) := by
  have h := split_any fa1 w (by decide)
  have e : run fa1 (Fie.stop Fie.blank fa1 0) [] = ([(⟨#[82, 117, 108, 101]⟩, 0), (⟨#[97, 32, 98]⟩, 5), (⟨#[120]⟩, 11)], 0, 0) := by decide +kernel
  rw [e] at h; exact h
abbrev fa2 : List ByteArray := [⟨#[97]⟩, ⟨#[98, 32, 99]⟩]
theorem fa_join (v : Value) (w : World) (hr : Reads w v 2 (fa2.map Value.string)) : Rets Try.prog 16 #[v] w (.tuple #[.string ⟨#[97, 32, 34, 98, 32, 99, 34]⟩, .int .i64 0]) := by
  have h := join_reads fa2 2 rfl v w (by omega) (by decide) hr
  have e : joinR fa2 = (⟨#[97, 32, 34, 98, 32, 99, 34]⟩, 0) := by decide +kernel
  unfold JoinSays at h; rw [e] at h; exact h
theorem fa_lines (w : World) : Calls Try.prog 10 #[.string ⟨#[97, 10, 10, 98]⟩] w fun e w' => ∃ b o c, ∃ y : Past w, e = .returned (.slice (some ⟨b, o, none⟩) 3 c) ∧ w' = y.x := by
  have h := lines_any ⟨#[97, 10, 10, 98]⟩ w (by decide)
  have e : Fie.lines ⟨#[97, 10, 10, 98]⟩ 0 = [⟨#[97]⟩, ⟨#[]⟩, ⟨#[98]⟩] := by decide +kernel
  rw [e] at h
  refine h.mono ?_
  rintro _ _ ⟨v, y, rfl, hr, rfl⟩
  rcases hr with ⟨_, _, _, h0, _⟩ | ⟨b, o, c, rfl, _⟩
  · cases h0
  · exact ⟨b, o, c, y, rfl, rfl⟩

set_option maxRecDepth 100000 in
set_option maxHeartbeats 4000000 in
theorem alive_any (w : World) : Rets Try.prog 8 #[] w (.bool true) := by
  unfold Rets
  go_enter Try.func8, Try.ntmps8
  go_wp2_with fail
  refine (fa_split _).mono ?_
  rintro _ _ ⟨v, y, rfl, hr, rfl⟩
  rcases hr with ⟨_, _, _, h0, _⟩ | ⟨b, o, c, rfl, _, _, hb, hc⟩
  · cases h0
  haveI : InW b y.x := ⟨hb⟩
  have h2 : y.x.cell? ⟨b, o + 2, none⟩ = some (.string ⟨#[97, 32, 98]⟩) := hc 2 _ rfl
  have h3 : y.x.cell? ⟨b, o + 2 + 1, none⟩ = some (.int .i64 5) := hc 3 _ rfl
  have h4 : y.x.cell? ⟨b, o + 4, none⟩ = some (.string ⟨#[120]⟩) := hc 4 _ rfl
  have h5 : y.x.cell? ⟨b, o + 4 + 1, none⟩ = some (.int .i64 11) := hc 5 _ rfl
  clear hc
  go_wp2_with fail
  refine Rets.use (fa_join _ _ ?_) ?_
  · refine .inr ⟨_, 0, 2, rfl, by omega, by unfold maxLen; omega, by simp, fun i u hu => ?_⟩
    rcases i with _ | _ | i
    · simp at hu; subst hu; simp
    · simp at hu; subst hu; simp
    · simp at hu
  intro z
  go_wp2_with (go_at_call 10; refine (fa_lines _).mono ?_; rintro _ _ ⟨b3, o3, c3, y3, rfl, rfl⟩)
  go_ret
  exact ⟨rfl, done⟩
end Go.Proofs.Ytifjnegjjjpagaa
