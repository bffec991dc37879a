/- Walks of moments: the document's day of a spot, whole; the moment of a spot; the law of days but for what every right program answers. -/
import Derived.Test.YtodcgalcpnckaaaMomWalkV
set_option linter.unusedVariables false
set_option linter.unusedSimpArgs false
namespace Go.Proofs.Ytodcgalcpnckaaa
open Go.RowKit

theorem ron_any (m k wd d t r y : Int) (w : World) : Rets Try.prog 60 #[spotA m k wd d t r, .int .i64 y] w (.tuple #[.int .i64 (Mom.onV m k wd d t r y), .bool (Mom.onB m k wd d t r y)]) := by
  rcases on_cases m k wd d t r y with ⟨h, e⟩ | ⟨h1, h2, h3, h4⟩
  · rw [Mom.onV_no e, e]; exact ron_no m k wd d t r y w h
  · have hk := Mom.right_all h1
    have he := on_end h1 h2 h3 h4
    generalize Mom.onV m k wd d t r y = V at *
    generalize Mom.onB m k wd d t r y = b at *
    obtain rfl | rfl | rfl | rfl : k = 0 ∨ k = 1 ∨ k = 2 ∨ k = 3 := by omega
    · exact ron_yes0 m wd d t r y _ w h1 h2 h3 h4 rfl _ _ he
    · exact ron_yes1 m wd d t r y _ w h1 h2 h3 h4 rfl _ _ he
    · exact ron_yes2 m wd d t r y _ w h1 h2 h3 h4 rfl _ _ he
    · exact ron_yes3 m wd d t r y _ w h1 h2 h3 h4 rfl _ _ he
theorem on_bd {m k wd d t r y : Int} (h : Mom.onB m k wd d t r y = true) : -1000000000 ≤ Mom.onI m k wd d y ∧ Mom.onI m k wd d y ≤ 100000000 ∧ -604799 ≤ t ∧ t ≤ 604799 := by
  obtain ⟨h1, h2, h3, h4, h5⟩ := Mom.onB_all h
  obtain ⟨m1, m2, t1, t2, -, -, hk⟩ := Mom.right_all h1
  obtain ⟨n1, n2⟩ := num_bd y m 1 (by omega) (by omega) m1 m2 (by omega) (by omega)
  obtain ⟨l1, l2⟩ := Civ.mlen_bd y m
  refine ⟨?_, h5, t1, t2⟩
  unfold Mom.onI
  generalize Civ.num y m 1 = F at *
  generalize Civ.mlen y m = L at *
  rcases hk with ⟨rfl, k2⟩ | ⟨rfl, k2⟩ | ⟨rfl, k2⟩ | ⟨rfl, k2⟩
  · rw [Mom.fall_0 rfl]; omega
  · rw [Mom.fall_1 rfl]; have := Mom.back_bd (F + L - 1) wd; omega
  · rw [Mom.fall_2 rfl]; have := Mom.back_bd (F + d + 5) wd; omega
  · rw [Mom.fall_3 rfl]; have := Mom.back_bd (F + d - 1) wd; omega
def locV (m k wd d t r y : Int) : Int := if Mom.onB m k wd d t r y = true then Mom.onI m k wd d y * 86400 + t else 0
set_option maxRecDepth 100000 in
set_option maxHeartbeats 2000000 in
theorem local_any (m k wd d t r y : Int) (w : World) : Rets Try.prog 44 #[spotA m k wd d t r, .int .i64 y] w (.tuple #[.int .i64 (locV m k wd d t r y), .bool (Mom.onB m k wd d t r y)]) := by
  have HO := fun w => Lib.hid (on_any m k wd d t r y w)
  unfold Rets
  cases hb : Mom.onB m k wd d t r y
  · have E : Hid (locV m k wd d t r y = 0) := by show _ = _; unfold locV; rw [hb]; rfl
    rw [hb, Mom.onV_no hb] at HO
    clear hb
    go_enter Try.func44, Try.ntmps44
    go_wp2_with (go_at_call 57; refine Rets.use (HO _).out ?_; intro _)
    go_ret2
    exact ⟨ret_days E.out.symm rfl, done⟩
  · have E : Hid (locV m k wd d t r y = Mom.onI m k wd d y * 86400 + t) := by show _ = _; unfold locV; rw [hb]; rfl
    obtain ⟨n1, n2, t1, t2⟩ := on_bd hb
    rw [hb, Mom.onV_yes hb] at HO
    generalize Mom.onI m k wd d y = N at *
    clear hb
    go_enter Try.func44, Try.ntmps44
    go_wp2_with (go_at_call 57; refine Rets.use (HO _).out ?_; intro _)
    go_ret2
    exact ⟨ret_days E.out.symm rfl, done⟩
set_option maxRecDepth 100000 in
set_option maxHeartbeats 2000000 in
theorem rlocal_any (m k wd d t r y : Int) (w : World) : Rets Try.prog 50 #[spotA m k wd d t r, .int .i64 y] w (.tuple #[.int .i64 (locV m k wd d t r y), .bool (Mom.onB m k wd d t r y)]) := by
  have HO := fun w => Lib.hid (ron_any m k wd d t r y w)
  unfold Rets
  cases hb : Mom.onB m k wd d t r y
  · have E : Hid (locV m k wd d t r y = 0) := by show _ = _; unfold locV; rw [hb]; rfl
    rw [hb, Mom.onV_no hb] at HO
    clear hb
    go_enter Try.func50, Try.ntmps50
    go_wp2_with (go_at_call 60; refine Rets.use (HO _).out ?_; intro _)
    go_ret2
    exact ⟨ret_days E.out.symm rfl, done⟩
  · have E : Hid (locV m k wd d t r y = Mom.onI m k wd d y * 86400 + t) := by show _ = _; unfold locV; rw [hb]; rfl
    obtain ⟨n1, n2, t1, t2⟩ := on_bd hb
    rw [hb, Mom.onV_yes hb] at HO
    generalize Mom.onI m k wd d y = N at *
    clear hb
    go_enter Try.func50, Try.ntmps50
    go_wp2_with (go_at_call 60; refine Rets.use (HO _).out ?_; intro _)
    go_ret2
    exact ⟨ret_days E.out.symm rfl, done⟩
end Go.Proofs.Ytodcgalcpnckaaa
