/- What further laws need of the texts that are built. -/
import Derived.WalkKit
import Derived.WalkSpells
import Derived.WalkLawsBesides
import Derived.Carry
import Derived.MapKept
import Derived.RangeFuncRecord
import Derived.Laws.IdiomStrings
import Derived.Lib.Join
import Derived.Test.YtdhbgelijjlifaaGreatDoorSrcSupA
import Derived.Test.YtdhbgelijjlifaaGreatDoorSrcSupJ
import Derived.Test.YtdhbgelijjlifaaGreatDoorOwns
import Derived.Test.YtdhbgelijjlifaaGreatDoorFrame
import Derived.Test.YtdhbgelijjlifaaGreatDoorSrcPlainB
import Derived.Test.YtdhbgelijjlifaaGreatDoorShelf
import Derived.Test.YtdhbgelijjlifaaGreatDoorSrcWalkC
import Derived.Test.YtdhbgelijjlifaaGreatDoorMomWalkE
import Derived.Test.YtdhbgelijjlifaaGreatDoorMomWalkJ
import Derived.Test.YtdhbgelijjlifaaGreatDoorMomWalkL
import Derived.Test.YtdhbgelijjlifaaGreatDoorMomWalkN
import Derived.Test.YtdhbgelijjlifaaGreatDoorFiePlainE
import Derived.Test.YtdhbgelijjlifaaGreatDoorMomWalkP
import Derived.Test.YtdhbgelijjlifaaGreatDoorCivWalkJ
import Derived.Test.YtdhbgelijjlifaaGreatDoorMomWalkQ
import Derived.Test.YtdhbgelijjlifaaGreatDoorRulWalkC
import Derived.Test.YtdhbgelijjlifaaGreatDoorSrcWalkD
import Derived.Test.YtdhbgelijjlifaaGreatDoorSrcTree
import Derived.Test.YtdhbgelijjlifaaGreatDoorFieWalkE
import Derived.Test.YtdhbgelijjlifaaGreatDoorFieWalkH
import Derived.Test.YtdhbgelijjlifaaGreatDoorSrcReadC
import Derived.Test.YtdhbgelijjlifaaGreatDoorSrcDoor
import Derived.Test.YtdhbgelijjlifaaGreatDoorMomPlainI
import Derived.Test.YtdhbgelijjlifaaGreatDoorSrcPrB
import Derived.Test.YtdhbgelijjlifaaGreatDoorMomWalkO
import Derived.Test.YtdhbgelijjlifaaGreatDoorMomWalkZD
import Derived.Test.YtdhbgelijjlifaaGreatDoorMomWalkZE
import Derived.Test.YtdhbgelijjlifaaGreatDoorMomWalkX
import Derived.Test.YtdhbgelijjlifaaGreatDoorMomWalkZF
import Derived.Test.YtdhbgelijjlifaaGreatDoorMomWalkZH
import Derived.Test.YtdhbgelijjlifaaGreatDoorSrcPrC
import Derived.Test.YtdhbgelijjlifaaGreatDoorSrcLawB
import Derived.Test.YtdhbgelijjlifaaGreatDoorSrcWalkJ
import Derived.Test.YtdhbgelijjlifaaGreatDoorSrcRdE
import Derived.Test.YtdhbgelijjlifaaGreatDoorSrcRdQ
import Derived.Test.YtdhbgelijjlifaaGreatDoorSrcRdR
import Derived.Test.YtdhbgelijjlifaaGreatDoorSrcRdS
import Derived.Test.YtdhbgelijjlifaaGreatDoorSrcRdT
import Derived.Test.YtdhbgelijjlifaaGreatDoorSrcRdF
import Derived.Test.YtdhbgelijjlifaaGreatDoorSrcRdFB
import Derived.Test.YtdhbgelijjlifaaGreatDoorSrcRdG
import Derived.Test.YtdhbgelijjlifaaGreatDoorSrcRdGB
import Derived.Test.YtdhbgelijjlifaaGreatDoorSrcRdN
import Derived.Test.YtdhbgelijjlifaaGreatDoorSrcSet
import Derived.Test.YtdhbgelijjlifaaGreatDoorFieWalkK
import Derived.Test.YtdhbgelijjlifaaGreatDoorSrcRdW
import Derived.Test.YtdhbgelijjlifaaGreatDoorSrcSame
import Derived.Test.YtdhbgelijjlifaaGreatDoorLeaves
import Derived.Test.YtdhbgelijjlifaaGreatDoorSrcRows
set_option linter.unusedVariables false
set_option linter.unusedSimpArgs false
namespace Go.Proofs.YtdhbgelijjlifaaGreatDoor
namespace Mom
end Mom
end Go.Proofs.YtdhbgelijjlifaaGreatDoor
namespace Go.Proofs.YtdhbgelijjlifaaGreatDoor
namespace Mom
theorem dec_ne (n : Nat) : dec n ≠ [] := by
 by_cases h : n < 10
 · rw [dec_small h]; simp
 · rw [dec_big h]; simp
end Mom
end Go.Proofs.YtdhbgelijjlifaaGreatDoor
namespace Go.Proofs.YtdhbgelijjlifaaGreatDoor
namespace Mom
end Mom
end Go.Proofs.YtdhbgelijjlifaaGreatDoor
namespace Go.Proofs.YtdhbgelijjlifaaGreatDoor
open Go.RowKit
end Go.Proofs.YtdhbgelijjlifaaGreatDoor
namespace Go.Proofs.YtdhbgelijjlifaaGreatDoor
open Go.RowKit
end Go.Proofs.YtdhbgelijjlifaaGreatDoor
namespace Go.Proofs.YtdhbgelijjlifaaGreatDoor
open Go Go.RowKit
section
variable {P : Program} {t k e : TypeId}
end
end Go.Proofs.YtdhbgelijjlifaaGreatDoor
namespace Go.Proofs.YtdhbgelijjlifaaGreatDoor
open Go.RowKit
end Go.Proofs.YtdhbgelijjlifaaGreatDoor
namespace Go.Proofs.YtdhbgelijjlifaaGreatDoor
open Go.RowKit
end Go.Proofs.YtdhbgelijjlifaaGreatDoor
namespace Go.Proofs.YtdhbgelijjlifaaGreatDoor
namespace Mom
end Mom
end Go.Proofs.YtdhbgelijjlifaaGreatDoor
namespace Go.Proofs.YtdhbgelijjlifaaGreatDoor
open Go.RowKit
end Go.Proofs.YtdhbgelijjlifaaGreatDoor
namespace Go.Proofs.YtdhbgelijjlifaaGreatDoor
open Go.RowKit
theorem span_bd {l : List UInt8} {n : Int} (h : Mom.spanR l = some n) : -1000000 ≤ n ∧ n ≤ 1000000 := by
 unfold Mom.spanR at h
 split at h
 · split at h
   · cases h; omega
   · obtain ⟨m, hm, rfl⟩ := Option.map_eq_some_iff.1 h
     have := Mom.bare_bd hm; omega
 · have := Mom.bare_bd h; omega
end Go.Proofs.YtdhbgelijjlifaaGreatDoor
namespace Go.Proofs.YtdhbgelijjlifaaGreatDoor
open Go.RowKit
end Go.Proofs.YtdhbgelijjlifaaGreatDoor
namespace Go.Proofs.YtdhbgelijjlifaaGreatDoor
end Go.Proofs.YtdhbgelijjlifaaGreatDoor
namespace Go.Proofs.YtdhbgelijjlifaaGreatDoor
open Go.RowKit
def fieldOk (s : ByteArray) : Bool := decide (Fie.stop Fie.within s 0 = s.size)
def allOk (l : List ByteArray) : Bool := l.all fieldOk
theorem out_quoted {s : ByteArray} (h : plain s = false) : fieldOut s = ⟨#[34]⟩ ++ s ++ ⟨#[34]⟩ := by simp [fieldOut, h]
theorem out_plain {s : ByteArray} (h : plain s = true) : fieldOut s = s := by simp [fieldOut, h]
end Go.Proofs.YtdhbgelijjlifaaGreatDoor
namespace Go.Proofs.YtdhbgelijjlifaaGreatDoor
open Go.RowKit
end Go.Proofs.YtdhbgelijjlifaaGreatDoor
namespace Go.Proofs.YtdhbgelijjlifaaGreatDoor
open Go.RowKit
end Go.Proofs.YtdhbgelijjlifaaGreatDoor
namespace Go.Proofs.YtdhbgelijjlifaaGreatDoor
namespace Mom
theorem dig_is (n : Nat) : isD (dig n) = true := by
 unfold isD dig
 have : (UInt8.ofNat (48 + n % 10)).toNat = 48 + n % 10 := by rw [UInt8.toNat_ofNat']; omega
 rw [this]; apply decide_eq_true; omega
theorem dig_num (n : Nat) : (dig n).toNat - 48 = n % 10 := by
 unfold dig
 have : (UInt8.ofNat (48 + n % 10)).toNat = 48 + n % 10 := by rw [UInt8.toNat_ofNat']; omega
 rw [this]; omega
theorem dec_is (n : Nat) : ∀ c ∈ dec n, isD c = true := by
 induction n using Nat.strongRecOn with
 | _ n ih =>
   intro c hc
   by_cases h : n < 10
   · rw [dec_small h] at hc; simp at hc; rw [hc]; exact dig_is n
   · rw [dec_big h] at hc
     rcases List.mem_append.1 hc with hc | hc
     · exact ih _ (by omega) c hc
     · simp at hc; rw [hc]; exact dig_is n
theorem dec_num (n : Nat) : numOf (dec n) = n := by
 induction n using Nat.strongRecOn with
 | _ n ih =>
   by_cases h : n < 10
   · rw [dec_small h]; simp [numOf, stepD, dig_num]; omega
   · rw [dec_big h, numOf_snoc, ih _ (by omega), dig_num]; omega
theorem two_num {n : Nat} (h : n < 100) : numOf (twoD n) = n := by
 simp [numOf, twoD, stepD, dig_num]; omega
theorem two_is (n : Nat) : ∀ c ∈ twoD n, isD c = true := by
 intro c hc
 simp [twoD] at hc
 rcases hc with rfl | rfl <;> exact dig_is _
theorem more_two (neg : Bool) (u : Nat) (n : Int) {m : Nat} (hm : m < 60) (Y : List UInt8) (hY : ∀ c r', Y = c :: r' → isD c = false) : more neg (u + 1) n (58 :: (twoD m ++ Y)) = more neg u (n + m * unitOf (u + 1)) Y := by
 have e1 : nD 2 (twoD m ++ Y) = 2 := nD_full 2 (twoD m) Y (two_is m) (by simp [twoD]) hY
 have e2 : (twoD m ++ Y).take 2 = twoD m := by simp [twoD]
 have e3 : (twoD m ++ Y).drop 2 = Y := by simp [twoD]
 simp only [more, e1, e2, e3, two_num (show m < 100 by omega)]
 rw [if_neg (by omega)]
theorem bar_hms (neg : Bool) {a : Nat} (ha : a ≤ 604799) (R : List UInt8) (hR : ∀ c r', R = c :: r' → isD c = false ∧ c ≠ 58) : bar neg (hms a ++ R) = done neg a R := by
 unfold hms bar
 simp only [List.append_assoc, List.cons_append]
 generalize hY : ((if a % 60 = 0 then [] else 58 :: twoD (a % 60)) ++ R) = Y
 have hY1 : ∀ c r', Y = c :: r' → isD c = false := by
  intro c r' e
  rw [← hY] at e
  split at e
  · exact (hR c r' (by simpa using e)).1
  · simp at e; rw [← e.1]; decide
 have hl : (dec (a / 3600)).length ≤ 3 := dec_len 3 _ (by omega) (by omega)
 have e1 : nD 3 (dec (a / 3600) ++ 58 :: (twoD (a / 60 % 60) ++ Y)) = (dec (a / 3600)).length := nD_full 3 _ _ (dec_is _) hl (by intro c r' e; cases e; decide)
 have hl0 : 1 ≤ (dec (a / 3600)).length := by
  rcases Nat.eq_zero_or_pos (dec (a / 3600)).length with e | e
  · exact absurd (List.eq_nil_of_length_eq_zero e) (dec_ne _)
  · exact e
 rw [e1, List.take_left, List.drop_left, dec_num, if_neg (by omega), more_two neg 1 _ (by omega) Y hY1]
 subst hY
 have hstop : ∀ (u : Nat) (n : Int), more neg u n R = done neg n R := by
  intro u n
  cases R with
  | nil => exact more_nil neg u n
  | cons c r => exact more_stop neg u n rfl (hR c r rfl).2
 by_cases h0 : a % 60 = 0
 · rw [if_pos h0, List.nil_append, hstop]
   congr 1; simp only [unitOf]; omega
 · rw [if_neg h0]
   rw [List.cons_append, more_two neg 0 _ (by omega) R (fun c r e => (hR c r e).1), hstop]
   congr 1; simp only [unitOf]; omega
theorem refD_free (r : Nat) : ∀ c r', refD r = c :: r' → isD c = false ∧ c ≠ 58 := by
 intro c r' e
 unfold refD at e
 split at e
 · cases e; decide
 · split at e
   · cases e; decide
   · cases e
theorem refD_back {r : Nat} (h : r ≤ 2) : refOf (refD r) = some (r : Int) := by
 obtain rfl | rfl | rfl : r = 0 ∨ r = 1 ∨ r = 2 := by omega
 all_goals rfl
theorem hms_head (a : Nat) (R : List UInt8) : ∃ c r, hms a ++ R = c :: r ∧ isD c = true := by
 unfold hms
 have := dec_is (a / 3600)
 cases h : dec (a / 3600) with
 | nil => exact absurd h (dec_ne _)
 | cons c r => rw [h] at this; exact ⟨c, _, rfl, this c (by simp)⟩
theorem clock_back {t : Int} {r : Nat} (h1 : -604799 ≤ t) (h2 : t ≤ 604799) (hr : r ≤ 2) : clockP (timeD t ++ refD r) = some (t, (r : Int)) := by
 have hs : span (timeD t ++ refD r) = some (t, refD r) := by
  unfold timeD
  obtain ⟨c, l, e, hc⟩ := hms_head t.natAbs (refD r)
  by_cases h : t < 0
  · rw [if_pos h, List.cons_append]
    simp only [span]
    rw [if_neg (by rw [e]; simp), bar_hms true (by omega) _ (refD_free r)]
    simp [done]; omega
  · rw [if_neg h]
    have : span (hms t.natAbs ++ refD r) = bar false (hms t.natAbs ++ refD r) := by
     rw [e]; unfold span; split
     · rename_i e2; cases e2; simp [isD] at hc
     · rfl
    rw [this, bar_hms false (by omega) _ (refD_free r)]
    simp [done]; omega
 unfold clockP
 rw [hs]
 simp only
 rw [refD_back hr]; rfl
def dec2 (n : Nat) : List UInt8 := if n < 10 then [dig n] else [dig (n / 10), dig n]
theorem dec_two {n : Nat} (h : n < 100) : dec n = dec2 n := by
 unfold dec2
 split
 · exact dec_small ‹_›
 · rw [dec_big ‹_›, dec_small (by omega)]; rfl
theorem month_back {m : Nat} (h1 : 1 ≤ m) (h2 : m ≤ 12) : monthI (short monthsL (m - 1)) = m := by
 have : ∀ i : Fin 12, monthI (short monthsL i.val) = i.val + 1 := by decide +kernel
 have := this ⟨m - 1, by omega⟩
 simp only at this; omega
theorem day_back {k wd d : Nat} (hk : k ≤ 3) (hw : k ≠ 0 → 1 ≤ wd ∧ wd ≤ 7) (hw0 : k = 0 → wd = 0) (hd : k ≠ 1 → 1 ≤ d ∧ d ≤ 31) (hd0 : k = 1 → d = 0) : dayR (dayD k wd d) = some ((k : Int), (wd : Int), (d : Int)) := by
 have A0 : ∀ i : Fin 31, dayR (dec2 (i.val + 1)) = some (0, 0, ((i.val + 1 : Nat) : Int)) := by decide +kernel
 have A1 : ∀ j : Fin 7, dayR ([108, 97, 115, 116] ++ wdD (j.val + 1)) = some (1, ((j.val + 1 : Nat) : Int), 0) := by decide +kernel
 have A2 : ∀ i : Fin 31, ∀ j : Fin 7, dayR (wdD (j.val + 1) ++ [62, 61] ++ dec2 (i.val + 1)) = some (2, ((j.val + 1 : Nat) : Int), ((i.val + 1 : Nat) : Int)) := by decide +kernel
 have A3 : ∀ i : Fin 31, ∀ j : Fin 7, dayR (wdD (j.val + 1) ++ [60, 61] ++ dec2 (i.val + 1)) = some (3, ((j.val + 1 : Nat) : Int), ((i.val + 1 : Nat) : Int)) := by decide +kernel
 unfold dayD
 obtain rfl | rfl | rfl | rfl : k = 0 ∨ k = 1 ∨ k = 2 ∨ k = 3 := by omega
 · obtain ⟨h1, h2⟩ := hd (by omega)
   obtain rfl := hw0 rfl
   have := A0 ⟨d - 1, by omega⟩
   rw [if_pos rfl, dec_two (by omega)]
   rw [show (d - 1) + 1 = d by omega] at this; exact this
 · obtain ⟨h1, h2⟩ := hw (by omega)
   obtain rfl := hd0 rfl
   have := A1 ⟨wd - 1, by omega⟩
   rw [if_neg (by omega), if_pos rfl]
   rw [show (wd - 1) + 1 = wd by omega] at this; exact this
 · obtain ⟨h1, h2⟩ := hw (by omega)
   obtain ⟨h3, h4⟩ := hd (by omega)
   have := A2 ⟨d - 1, by omega⟩ ⟨wd - 1, by omega⟩
   rw [if_neg (by omega), if_neg (by omega), if_pos rfl, dec_two (by omega)]
   rw [show (wd - 1) + 1 = wd by omega, show (d - 1) + 1 = d by omega] at this; exact this
 · obtain ⟨h1, h2⟩ := hw (by omega)
   obtain ⟨h3, h4⟩ := hd (by omega)
   have := A3 ⟨d - 1, by omega⟩ ⟨wd - 1, by omega⟩
   rw [if_neg (by omega), if_neg (by omega), if_neg (by omega), dec_two (by omega)]
   rw [show (wd - 1) + 1 = wd by omega, show (d - 1) + 1 = d by omega] at this; exact this
end Mom
end Go.Proofs.YtdhbgelijjlifaaGreatDoor
