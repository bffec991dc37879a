/- Walks of moments: what every right program answers; the law of days. -/
import Derived.Test.YtgnjmejmngljjaaMomWalkW
import Derived.Test.YtgnjmejmngljjaaMomWalkO
set_option linter.unusedVariables false
set_option linter.unusedSimpArgs false
namespace Go.Proofs.Ytgnjmejmngljjaa
open Go.RowKit

theorem max_at {w w' : World} {mx : Int} (hx : Ext w w') (hw0 : 0 < w.heap.size) (hm : w.cell? ⟨0, 0, none⟩ = some (.int .i64 mx)) : w'.cell? ⟨0, 0, none⟩ = some (.int .i64 mx) := (Below.cell (p := ⟨0, 0, none⟩) hx hw0).trans hm
theorem al_clock (w : World) : Rets Try.prog 21 #[.string ⟨#[50, 58, 48, 48, 115]⟩] w (.tuple #[.int .i64 7200, .int .i64 1, .int .i64 0]) := by
  have h := clock_any [50, 58, 48, 48, 115] w (by decide)
  have e : Mom.clockP [50, 58, 48, 48, 115] = some (7200, 1) := by decide +kernel
  rw [e] at h; exact h
theorem al_on (w : World) : Rets Try.prog 17 #[spotA 10 1 7 0 3600 2, .int .i64 2021] w (.tuple #[.int .i64 18931, .bool true]) := by
  have h := on_any 10 1 7 0 3600 2 2021 w
  have e1 : Mom.onB 10 1 7 0 3600 2 2021 = true := by decide +kernel
  have e2 : Mom.onV 10 1 7 0 3600 2 2021 = 18931 := by decide +kernel
  rw [e1, e2] at h; exact h
abbrev alL : List (List UInt8) := [[111, 99, 116], [108, 97, 115, 116, 83, 117, 110], [49, 58, 48, 48, 117]]
theorem al_parse (w : World) (v : Value) (mx : Int) (hr : Reads w v 3 (strs alL)) (hm : w.cell? ⟨0, 0, none⟩ = some (.int .i64 mx)) (hw0 : 0 < w.heap.size) : Rets Try.prog 15 #[v] w (.tuple #[.agg #[.int .i64 10, .int .i64 1, .int .i64 7, .int .i64 0, .int .i64 3600, .int .i64 2], .int .i64 0, .int .i64 0]) := by
  have h := parse_any alL 3 rfl v w mx hr (fun _ => by decide) hm hw0
  have e : parseR alL = .inr ⟨10, 1, 7, 0, 3600, 2⟩ := by
    have e1 : Mom.monthI [111, 99, 116] = 10 := by decide +kernel
    have e2 : Mom.dayR [108, 97, 115, 116, 83, 117, 110] = some (1, 7, 0) := by decide +kernel
    have e3 : Mom.clockR [49, 58, 48, 48, 117] = some (3600, 2) := by decide +kernel
    unfold parseR alL
    rw [if_neg (by decide)]
    simp [contR, e1, e2, e3, spot0]
  rw [e] at h; exact h
set_option maxRecDepth 100000 in
set_option maxHeartbeats 4000000 in
theorem malive_any (w : World) (mx : Int) (hm : w.cell? ⟨0, 0, none⟩ = some (.int .i64 mx)) (hw0 : 0 < w.heap.size) : Rets Try.prog 14 #[] w (.bool true) := by
  haveI : InW 0 w := ⟨hw0⟩
  unfold Rets
  go_enter Try.func14, Try.ntmps14
  go_wp2_with fail
  refine Rets.use (al_clock _) ?_
  intro y1
  go_wp2_with fail
  refine Rets.use (al_parse _ _ mx (reads_new y1.x alL _ 3 rfl (by omega)) (max_at isext hw0 hm) (Nat.lt_of_lt_of_le hw0 (Below.size isext))) ?_
  intro y2
  go_wp2_with fail
  refine Rets.use (al_on _) ?_
  intro y3
  go_wp2
  go_ret
  exact ⟨rfl, done⟩
set_option maxRecDepth 100000 in
set_option maxHeartbeats 4000000 in
theorem dayslaw_any (m k wd d t r y : Int) (w : World) (mx : Int) (hm : w.cell? ⟨0, 0, none⟩ = some (.int .i64 mx)) (hw0 : 0 < w.heap.size) : Rets Try.prog 5 #[spotA m k wd d t r, .int .i64 y] w (.bool true) := by
  haveI : InW 0 w := ⟨hw0⟩
  have H1 := fun w => Lib.hid (on_any m k wd d t r y w)
  have H2 := fun w => Lib.hid (ron_any m k wd d t r y w)
  have H3 := fun w => Lib.hid (local_any m k wd d t r y w)
  have H4 := fun w => Lib.hid (rlocal_any m k wd d t r y w)
  generalize Mom.onV m k wd d t r y = V at *
  generalize Mom.onB m k wd d t r y = b at *
  generalize locV m k wd d t r y = L at *
  unfold Rets
  go_enter Try.func5, Try.ntmps5
  go_wp2_with (first | (go_at_call 17; refine Rets.use (H1 _).out ?_; intro _) | (go_at_call 18; refine Rets.use (H2 _).out ?_; intro _) | (go_at_call 19; refine Rets.use (H3 _).out ?_; intro _) | (go_at_call 20; refine Rets.use (H4 _).out ?_; intro _) | (go_at_call 14; refine Rets.use (malive_any _ mx (max_at isext hw0 hm) (Nat.lt_of_lt_of_le hw0 (Below.size isext))) ?_; intro _))
  go_ret
  exact ⟨rfl, done⟩
end Go.Proofs.Ytgnjmejmngljjaa
