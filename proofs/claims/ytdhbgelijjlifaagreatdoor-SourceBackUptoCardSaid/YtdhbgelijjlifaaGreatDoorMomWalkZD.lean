/- Walks of moments: numbers written. -/
import Derived.Test.YtdhbgelijjlifaaGreatDoorSrcSupA
import Derived.Test.YtdhbgelijjlifaaGreatDoorMomWalkO
import Derived.Test.YtdhbgelijjlifaaGreatDoorMomWalkE
set_option linter.unusedVariables false
set_option linter.unusedSimpArgs false
namespace Go.Proofs.YtdhbgelijjlifaaGreatDoor
open Go.RowKit
theorem back_one (w : World) (c : UInt8) : (convert 71 9 (.slice (some ⟨w.heap.size, 0, none⟩) 1 1)).run Tryz.prog (w.alloc (.cells #[.int .u8 c.toNat] 5)) = .ok (.string ⟨#[c]⟩) (w.alloc (.cells #[.int .u8 c.toNat] 5)) := by
 have := run_convert_bytes_back (P := Tryz.prog) (w.alloc (.cells #[.int .u8 c.toNat] 5)) 71 9 5 ⟨w.heap.size, 0, none⟩ 1 [c] Tryz.underlying71 Tryz.underlying5 Tryz.underlying9 (fun j hj => by
  obtain rfl : j = 0 := by simp at hj; exact hj
  have hadd : (⟨w.heap.size, 0, none⟩ : Addr).add 0 = ⟨w.heap.size, 0, none⟩ := by simp [Addr.add]
  rw [hadd]; simp)
 exact this
theorem back_at (W : World) (B : Nat) (c : UInt8) (x : Int) (hx : (c.toNat : Int) = x) (h : W.cell? ⟨B, 0, none⟩ = some (.int .u8 x)) : (convert 71 9 (.slice (some ⟨B, 0, none⟩) 1 1)).run Tryz.prog W = .ok (.string ⟨#[c]⟩) W := by
 have := run_convert_bytes_back (P := Tryz.prog) W 71 9 5 ⟨B, 0, none⟩ 1 [c] Tryz.underlying71 Tryz.underlying5 Tryz.underlying9 (fun j hj => by
  obtain rfl : j = 0 := by simp at hj; exact hj
  have hadd : (⟨B, 0, none⟩ : Addr).add 0 = ⟨B, 0, none⟩ := by simp [Addr.add]
  rw [hadd, h, ← hx]; simp)
 exact this
theorem dig_nat (n : Nat) : ((Mom.dig n).toNat : Int) = 48 + (n : Int) % 10 := by
 unfold Mom.dig; rw [UInt8.toNat_ofNat']; omega
set_option maxRecDepth 100000 in
set_option maxHeartbeats 2000000 in
theorem number_small (n : Nat) (h : n < 10) (w : World) : Rets Tryz.prog 100 #[.int .i64 n] w (.string ⟨(Mom.dec n).toArray⟩) := by
 have E : Hid (Mom.dec n = [Mom.dig n]) := Mom.dec_small h
 have h' : (n : Int) < 10 := by omega
 have hd := dig_nat n
 rw [show (n : Int) % 10 = n by omega] at hd
 have hb := fun w => back_one w (Mom.dig n)
 rw [hd] at hb
 unfold Rets
 go_enter Tryz.func100, Tryz.ntmps100
 go_wp2_with fail
 go_ret
 exact ⟨by rw [E.out]; first | done | rfl, done⟩
theorem ten_parts (n : Nat) : ((n : Int).tdiv 10 = ((n / 10 : Nat) : Int)) ∧ ((n : Int).tmod 10 = ((n % 10 : Nat) : Int)) := by
 constructor
 · rw [Int.tdiv_eq_ediv_of_nonneg (by omega)]; omega
 · rw [Int.tmod_eq_emod_of_nonneg (by omega)]; omega
set_option maxRecDepth 100000 in
set_option maxHeartbeats 4000000 in
theorem number_big (n : Nat) (hn : (n : Int) ≤ 9223372036854775807) (h : ¬ n < 10) (IH : ∀ w, Rets Tryz.prog 100 #[.int .i64 (n / 10 : Nat)] w (.string ⟨(Mom.dec (n / 10)).toArray⟩)) (hlen : (Mom.dec (n / 10)).length ≤ 1000) (w : World) : Rets Tryz.prog 100 #[.int .i64 n] w (.string ⟨(Mom.dec n).toArray⟩) := by
 have E : Hid (Mom.dec n = Mom.dec (n / 10) ++ [Mom.dig n]) := Mom.dec_big h
 have h' : decide ((n : Int) < 10) = false := decide_eq_false (by omega)
 have hd := dig_nat n
 obtain ⟨t1, t2⟩ := ten_parts n
 have q1 : (n / 10 : Nat) ≤ n := by omega
 have r1 : n % 10 < 10 := by omega
 rw [show (n : Int) % 10 = (n % 10 : Nat) by omega] at hd
 have hb := fun W B => back_at W B (Mom.dig n) _ hd
 have HI := fun w => Lib.hid (IH w)
 generalize Mom.dec (n / 10) = D at *
 generalize n / 10 = q at *
 generalize n % 10 = r at *
 generalize Mom.dig n = c at *
 clear IH
 have x1 : IntKind.i64.wrap (q : Int) = q := by rw [IntKind.wrap_i64]; omega
 have x2 : IntKind.i64.wrap (48 + (r : Int)) = 48 + r := by rw [IntKind.wrap_i64]; omega
 have x3 : IntKind.i64.wrap (r : Int) = r := by rw [IntKind.wrap_i64]; omega
 have x4 : IntKind.u8.wrap (48 + (r : Int)) = 48 + r := by
  have : 0 ≤ (r : Int) := by omega
  simp [IntKind.wrap, IntKind.signed, IntKind.bits]; omega
 unfold Rets
 go_enter Tryz.func100, Tryz.ntmps100
 go_wp2_with fail
 go_region_with (go_at_call 100; refine Rets.use (HI _).out ?_; intro _)
 all_goals
  clear x1 x2 x3 x4
  go_wp2
  go_ret
  exact ⟨by rw [E.out]; first | done | rfl | simp, done⟩
theorem number_any : ∀ (n : Nat), (n : Int) ≤ 9223372036854775807 → ∀ w, Rets Tryz.prog 100 #[.int .i64 n] w (.string ⟨(Mom.dec n).toArray⟩) := by
 intro n
 induction n using Nat.strongRecOn with
 | _ n ih =>
   intro hn w
   by_cases h : n < 10
   · exact number_small n h w
   · exact number_big n hn h (ih (n / 10) (by omega) (by omega)) (Nat.le_trans (Mom.dec_len 19 (n / 10) (by omega) (by omega)) (by omega)) w
end Go.Proofs.YtdhbgelijjlifaaGreatDoor
namespace Go.Proofs.YtdhbgelijjlifaaGreatDoor
open Go.RowKit
theorem back_two (W : World) (B : Nat) (c d : UInt8) (x z : Int) (hx : (c.toNat : Int) = x) (hz : (d.toNat : Int) = z) (h : W.cell? ⟨B, 0, none⟩ = some (.int .u8 x)) (k : W.cell? ⟨B, 1, none⟩ = some (.int .u8 z)) : (convert 71 9 (.slice (some ⟨B, 0, none⟩) 2 2)).run Tryz.prog W = .ok (.string ⟨#[c, d]⟩) W := by
 have := run_convert_bytes_back (P := Tryz.prog) W 71 9 5 ⟨B, 0, none⟩ 2 [c, d] Tryz.underlying71 Tryz.underlying5 Tryz.underlying9 (fun j hj => by
  have hadd : (⟨B, 0, none⟩ : Addr).add j = ⟨B, j, none⟩ := by unfold Addr.add; split <;> simp_all
  rw [hadd]
  have hj2 : j = 0 ∨ j = 1 := by simp at hj; omega
  rcases hj2 with rfl | rfl
  · rw [h, ← hx]; simp
  · rw [k, ← hz]; simp)
 exact this
set_option maxRecDepth 100000 in
set_option maxHeartbeats 2000000 in
theorem two_any (n : Nat) (h : n < 100) (w : World) : Rets Tryz.prog 103 #[.int .i64 n] w (.string ⟨(Mom.twoD n).toArray⟩) := by
 have E : Hid (Mom.twoD n = [Mom.dig (n / 10), Mom.dig n]) := rfl
 have hd1 := dig_nat (n / 10)
 have hd2 := dig_nat n
 obtain ⟨t1, t2⟩ := ten_parts n
 obtain ⟨-, t3⟩ := ten_parts (n / 10)
 rw [show ((n / 10 : Nat) : Int) % 10 = (n / 10 % 10 : Nat) by omega] at hd1
 rw [show (n : Int) % 10 = (n % 10 : Nat) by omega] at hd2
 have hb := fun W B => back_two W B (Mom.dig (n / 10)) (Mom.dig n) _ _ hd1 hd2
 have r1 : n % 10 < 10 := by omega
 have r2 : n / 10 % 10 < 10 := by omega
 have q1 : n / 10 ≤ n := by omega
 generalize Mom.dig (n / 10) = c at *
 generalize Mom.dig n = d at *
 generalize n / 10 % 10 = r at *
 generalize n / 10 = q at *
 generalize n % 10 = u at *
 unfold Rets
 go_enter Tryz.func103, Tryz.ntmps103
 go_wp2
 go_ret
 exact ⟨by rw [E.out]; first | done | rfl, done⟩
end Go.Proofs.YtdhbgelijjlifaaGreatDoor
namespace Go.Proofs.YtdhbgelijjlifaaGreatDoor
open Go.RowKit
def lenOf : Value → Nat
 | .string s => s.size
 | _ => 0
theorem app_cons (c : UInt8) (l : List UInt8) : (⟨#[c]⟩ : ByteArray) ++ ⟨l.toArray⟩ = ⟨(c :: l).toArray⟩ := by
 apply ByteArray.ext; simp [ByteArray.data_append]
theorem undone_le (n : Nat) (s : List UInt8) : s.length ≤ (Mom.undone n s).length := by
 unfold Mom.undone
 split
 · exact Nat.le_refl _
 · rw [List.length_append]; omega
set_option maxRecDepth 100000 in
set_option maxHeartbeats 4000000 in
theorem rdigits_any (N : Nat) (hN : (N : Int) ≤ 9223372036854775807) (w : World) : Rets Tryz.prog 106 #[.int .i64 N] w (.string ⟨(Mom.dec N).toArray⟩) := by
 have HL : Hid ((Mom.dec N).length ≤ 19) := Mom.dec_len 19 N (by omega) (by omega)
 unfold Rets
 go_enter Tryz.func106, Tryz.ntmps106
 go_wp2
 go_loopw [0, 3] (fun nv sv wr => ∃ (m : Nat) (l : List UInt8), nv = .int .i64 m ∧ sv = .string ⟨l.toArray⟩ ∧ m ≤ N ∧ Hid (Mom.dec N = Mom.undone m l) ∧ Ext w wr) (fun nv sv _ => 2 * (intOf nv).toNat + (1 - lenOf sv))
 case atStart => exact ⟨N, [], rfl, rfl, Nat.le_refl _, (Mom.undone_start N).symm, isext⟩
 case round =>
  obtain ⟨m, l, rfl, rfl, m1, hu, hx⟩ := hrel
  obtain ⟨yr, rfl⟩ := fin hx
  clear hx
  have hl : l.length ≤ 19 := by have := undone_le m l; rw [← hu.out] at this; exact Nat.le_trans this HL.out
  by_cases h : m = 0 ∧ l ≠ []
  · obtain ⟨h1, h2⟩ := h
    have E : Hid (Mom.dec N = l) := by have := hu.out; rw [h1] at this; exact this.trans (Mom.undone_end h2)
    have e1 : l.isEmpty = false := by simpa using h2
    have e2 : decide ((0 : Int) < m) = false := decide_eq_false (by omega)
    have e3 : decide (0 < m) = false := decide_eq_false (by omega)
    clear h2 hu h1
    go_wp2
    go_ret
    exact ⟨by rw [E.out]; first | done | rfl, done⟩
  · have E : Hid (Mom.dec N = Mom.undone (m / 10) (Mom.dig m :: l)) := hu.out.trans (Mom.undone_step h)
    have hd := dig_nat m
    obtain ⟨t1, t2⟩ := ten_parts m
    rw [show (m : Int) % 10 = (m % 10 : Nat) by omega] at hd
    have hb := fun W B => back_at W B (Mom.dig m) _ hd
    have r1 : m % 10 < 10 := by omega
    have q1 : m / 10 ≤ m := by omega
    have q2 : 0 < m → m / 10 < m := by omega
    have cs : (0 < m ∧ (0 : Int) < m) ∨ (m = 0 ∧ l = [] ∧ decide (0 < m) = false ∧ decide ((0 : Int) < m) = false) := by
     by_cases h0 : m = 0
     · exact .inr ⟨h0, Classical.byContradiction fun hl => h ⟨h0, hl⟩, decide_eq_false (by omega), decide_eq_false (by omega)⟩
     · exact .inl ⟨by omega, by omega⟩
    generalize Mom.dig m = c at *
    generalize m / 10 = q at *
    generalize m % 10 = r at *
    clear h hu
    rcases cs with ⟨s1, s2⟩ | ⟨-, rfl, s1, s2⟩
    · go_wp2
      go_roundw
      case rel => exact ⟨q, c :: l, rfl, by rw [app_cons], by omega, E, isext⟩
      case measure => simp [intOf, lenOf]; omega
    · go_wp2
      go_roundw
      case rel => exact ⟨q, [c], rfl, by first | rfl | simp, by omega, E, isext⟩
      case measure =>
       have hm0 := of_decide_eq_false s1
       obtain rfl : q = 0 := by omega
       obtain rfl : m = 0 := by omega
       simp [intOf, lenOf, ByteArray.size]
end Go.Proofs.YtdhbgelijjlifaaGreatDoor
