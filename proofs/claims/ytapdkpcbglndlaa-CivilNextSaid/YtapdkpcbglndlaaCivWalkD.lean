/- Walk: the reference's date of a number. -/
import Derived.Test.YtapdkpcbglndlaaCivWalkC
namespace Go.Proofs.Ytapdkpcbglndlaa
open Go.RowKit

theorem jan_era_le (n : Int) : ∀ c, (n + 719528) / 146097 = c → Civ.jan (400 * c) ≤ n ∧ n < Civ.jan (400 * c + 400) := by
  intro c hc
  unfold Civ.jan; omega

set_option maxHeartbeats 4000000 in
theorem rof_yes (n : Int) (w : World) (h1 : -100000001 ≤ n) (h2 : n ≤ 100000000) :
    Rets Try.prog 18 #[.int .i64 n] w (.tuple #[.agg #[.int .i64 (Civ.dy n), .int .i64 (Civ.dm n), .int .i64 (Civ.dd n)], .bool true]) := by
  have hcb : -1000 ≤ (n + 719528) / 146097 ∧ (n + 719528) / 146097 ≤ 1000 := by omega
  obtain ⟨c, hc⟩ : ∃ c, (n + 719528) / 146097 = c := ⟨_, rfl⟩
  have he := jan_era_le n c hc
  have hjc := Civ.jan_era c
  rw [hc] at hcb
  obtain ⟨c0, c1⟩ := hcb
  have E0 : Hid (n + 719528 - c * 146097 = n - Civ.jan (400 * c)) := by show _ = _; omega
  have E1 := Lib.hid he
  clear he hjc
  go_enter Try.func18, Try.ntmps18
  go_wp2_with (go_at_call 35; refine Rets.use (down_any _ _ _ (by omega) (by omega) (by omega) (by omega)) ?_; intro _)
  go_loopw [5, 6] (fun k l wr => ∃ i : Int, 400 * c ≤ i ∧ i ≤ 400 * c + 400 ∧ Civ.jan i ≤ n ∧ k = .int .i64 i ∧ l = .int .i64 (n - Civ.jan i) ∧ Ext (w.alloc (.cells #[.int .i64 0, .int .i64 0, .int .i64 0] 27)) wr) (fun k _ _ => (400 * c + 400 - intOf k).toNat)
  case atStart => exact ⟨400 * c, by omega, by omega, E1.out.1, rfl, by rw [E0.out], Ext.past (Ext.refl _) _⟩
  case round =>
    obtain ⟨i, i1, i2, i3, rfl, rfl, hx⟩ := hrel
    obtain ⟨yr, rfl⟩ := fin hx
    clear hx
    have hjb := jan_bd i (by omega) (by omega)
    have hl := Civ.lp_01 i
    have hs := Civ.jan_succ i
    have hs' := Lib.hid hs
    by_cases h3 : Civ.jan (i + 1) ≤ n
    · have h4 : i < 400 * c + 400 := by
        rcases Int.lt_or_le i (400 * c + 400) with q | q
        · exact q
        · obtain rfl : i = 400 * c + 400 := by omega
          have := E1.out.2; omega
      have h5 : 365 + Civ.lp i ≤ n - Civ.jan i := by omega
      clear hs
      go_wp2_with (go_at_call 36; refine Rets.use1 (year_any _ _) ?_; intro _)
      go_roundw
      case rel => exact ⟨i + 1, by omega, by omega, h3, rfl, by rw [hs'.out]; congr 1; omega, Past.hb _⟩
      case measure => simp [intOf]; omega
    · have h5 : n - Civ.jan i < 365 + Civ.lp i := by omega
      clear hs
      go_wp2_with (go_at_call 36; refine Rets.use1 (year_any _ _) ?_; intro y2)
      go_loopw [6, 7] (fun l k wr => ∃ m : Int, 1 ≤ m ∧ m ≤ 12 ∧ Civ.cum i m ≤ n - Civ.jan i ∧ k = .int .i64 m ∧ l = .int .i64 (n - Civ.jan i - Civ.cum i m) ∧ Ext (w.alloc (.cells #[.int .i64 0, .int .i64 0, .int .i64 0] 27)) wr) (fun _ k _ => (12 - intOf k).toNat)
      case atStart => exact ⟨1, by omega, by omega, by rw [Civ.cum_1]; omega, rfl, by rw [Civ.cum_1]; simp, Past.hb _⟩
      case round =>
        obtain ⟨m, m1, m2, m3, rfl, rfl, hx⟩ := hrel
        obtain ⟨yq, rfl⟩ := fin hx
        clear hx
        have hcb := Civ.cum_bd i m m1 (by omega)
        have hmb := Civ.mlen_bd i m
        have hcs := Lib.hid (Civ.cum_succ i m m1 m2)
        by_cases h6 : Civ.mlen i m ≤ n - Civ.jan i - Civ.cum i m
        · have h7 : m < 12 := by
            rcases Int.lt_or_le m 12 with q | q
            · exact q
            · obtain rfl : m = 12 := by omega
              have := Civ.cum_13 i; have := hcs.out; simp at this; omega
          go_wp2_with (go_at_call 14; refine Rets.use1 (month_any _ _ _) ?_; intro _)
          go_roundw
          case rel => exact ⟨m + 1, by omega, by omega, by rw [hcs.out]; omega, rfl, by rw [hcs.out]; congr 1; omega, Past.hb _⟩
          case measure => simp [intOf]; omega
        · have hf : Civ.fits i m (n - Civ.jan i - Civ.cum i m + 1) := ⟨m1, m2, by omega, by omega⟩
          have hu := Lib.hid (Civ.of_unique n i m (n - Civ.jan i - Civ.cum i m + 1) hf (by unfold Civ.num; omega))
          clear hf
          go_wp2_with (go_at_call 14; refine Rets.use1 (month_any _ _ _) ?_; intro _)
          refine bodyPost_ret (v := .tuple #[.agg #[.int .i64 i, .int .i64 m, .int .i64 (n - Civ.jan i - Civ.cum i m + 1)], .bool true]) (by simp [results, Try.results18, go_sem]) rfl ⟨ret_of hu.out.1 hu.out.2.1 hu.out.2.2 rfl, done⟩
end Go.Proofs.Ytapdkpcbglndlaa
