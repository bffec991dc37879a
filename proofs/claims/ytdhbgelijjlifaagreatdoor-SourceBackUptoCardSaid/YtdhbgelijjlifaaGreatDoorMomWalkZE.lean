/- Walks of moments: times written. -/
import Derived.Test.YtdhbgelijjlifaaGreatDoorSrcSupA
import Derived.Test.YtdhbgelijjlifaaGreatDoorMomWalkZD
import Derived.Test.YtdhbgelijjlifaaGreatDoorMomPlainI
set_option linter.unusedVariables false
set_option linter.unusedSimpArgs false
namespace Go.Proofs.YtdhbgelijjlifaaGreatDoor
open Go.RowKit
set_option maxRecDepth 100000 in
set_option maxHeartbeats 2000000 in
theorem twice_any (n : Nat) (h : n < 100) (w : World) : Rets Tryz.prog 107 #[.int .i64 n] w (.string ⟨(Mom.twoD n).toArray⟩) := by
 have H := fun w => Lib.hid (rdigits_any n (by omega) w)
 have HL : (Mom.dec n).length ≤ 2 := Mom.dec_len 2 n (by omega) (by omega)
 by_cases h1 : n < 10
 · have E : Hid (Mom.twoD n = 48 :: Mom.dec n) := Mom.two_small h1
   have c1 : (n : Int) < 10 := by omega
   generalize Mom.dec n = D at *
   unfold Rets
   go_enter Tryz.func107, Tryz.ntmps107
   go_wp2_with (go_at_call 106; refine Rets.use (H _).out ?_; intro _)
   go_ret
   exact ⟨by rw [E.out]; first | done | rfl | (rw [app_cons]), done⟩
 · have E : Hid (Mom.twoD n = Mom.dec n) := Mom.two_big h1 h
   have c1 : decide ((n : Int) < 10) = false := decide_eq_false (by omega)
   generalize Mom.dec n = D at *
   unfold Rets
   go_enter Tryz.func107, Tryz.ntmps107
   go_wp2_with (go_at_call 106; refine Rets.use (H _).out ?_; intro _)
   go_ret
   exact ⟨by rw [E.out]; first | done | rfl, done⟩
theorem time_pos {n : Int} (h : ¬ n < 0) : n.tdiv 3600 = ((n.natAbs / 3600 : Nat) : Int) ∧ n.tmod 3600 = ((n.natAbs % 3600 : Nat) : Int) ∧ (n.tdiv 60).tmod 60 = ((n.natAbs / 60 % 60 : Nat) : Int) ∧ n.tmod 60 = ((n.natAbs % 60 : Nat) : Int) := by
 obtain ⟨m, rfl⟩ : ∃ m : Nat, n = m := ⟨n.toNat, by omega⟩
 rw [Int.natAbs_natCast]
 refine ⟨?_, ?_, ?_, ?_⟩
 · rw [Int.tdiv_eq_ediv_of_nonneg (by omega)]; omega
 · rw [Int.tmod_eq_emod_of_nonneg (by omega)]; omega
 · rw [Int.tdiv_eq_ediv_of_nonneg (by omega), Int.tmod_eq_emod_of_nonneg (by omega)]; omega
 · rw [Int.tmod_eq_emod_of_nonneg (by omega)]; omega
theorem time_neg {n : Int} (h : n < 0) : n.tdiv 3600 = - ((n.natAbs / 3600 : Nat) : Int) ∧ n.tmod 3600 = - ((n.natAbs % 3600 : Nat) : Int) ∧ (n.tdiv 60).tmod 60 = - ((n.natAbs / 60 % 60 : Nat) : Int) ∧ n.tmod 60 = - ((n.natAbs % 60 : Nat) : Int) := by
 obtain ⟨m, rfl⟩ : ∃ m : Nat, n = -m := ⟨(-n).toNat, by omega⟩
 rw [Int.natAbs_neg, Int.natAbs_natCast]
 refine ⟨?_, ?_, ?_, ?_⟩
 · rw [Int.neg_tdiv, Int.tdiv_eq_ediv_of_nonneg (by omega)]; omega
 · rw [Int.neg_tmod, Int.tmod_eq_emod_of_nonneg (by omega)]; omega
 · rw [Int.neg_tdiv, Int.neg_tmod, Int.tdiv_eq_ediv_of_nonneg (by omega), Int.tmod_eq_emod_of_nonneg (by omega)]; omega
 · rw [Int.neg_tmod, Int.tmod_eq_emod_of_nonneg (by omega)]; omega
theorem time_rest (a : Nat) : ((a % 3600 : Nat) : Int).tdiv 60 = ((a / 60 % 60 : Nat) : Int) ∧ ((a % 3600 : Nat) : Int).tmod 60 = ((a % 60 : Nat) : Int) := by
 constructor
 · rw [Int.tdiv_eq_ediv_of_nonneg (by omega)]; omega
 · rw [Int.tmod_eq_emod_of_nonneg (by omega)]; omega
set_option maxRecDepth 100000 in
set_option maxHeartbeats 4000000 in
theorem time_w000 (n : Int) (p q r u : Nat) (D A B T : List UInt8) (w : World) (b1 : p ≤ 2562047788015216) (b2 : q < 60) (b3 : r < 60) (b4 : u < 3600) (b5 : 0 < r)
 (H1 : ∀ w, Rets Tryz.prog 100 #[.int .i64 p] w (.string ⟨D.toArray⟩)) (H2 : ∀ w, Rets Tryz.prog 103 #[.int .i64 q] w (.string ⟨A.toArray⟩)) (H3 : ∀ w, Rets Tryz.prog 103 #[.int .i64 r] w (.string ⟨B.toArray⟩))
 (L1 : D.length ≤ 19) (L2 : A.length = 2) (L3 : B.length = 2) (h0 : decide (n < 0) = false) (t1 : n.tdiv 3600 = (p : Int)) (t2 : n.tmod 3600 = (u : Int)) (r1 : (u : Int).tdiv 60 = q) (r2 : (u : Int).tmod 60 = r) (E : T = D ++ 58 :: (A ++ 58 :: B)) :
 Rets Tryz.prog 62 #[.int .i64 n] w (.string ⟨T.toArray⟩) := by
 have E := Lib.hid E
 have H1 := fun w => Lib.hid (H1 w)
 have H2 := fun w => Lib.hid (H2 w)
 have H3 := fun w => Lib.hid (H3 w)
 have z1 : (0 : Int) < r := by omega
 unfold Rets
 go_enter Tryz.func62, Tryz.ntmps62
 go_wp2_with (first | (go_at_call 100; refine Rets.use (H1 _).out ?_; intro _) | (go_at_call_of 103 (Value.int .i64 (q : Int)); refine Rets.use (H2 _).out ?_; intro _) | (go_at_call_of 103 (Value.int .i64 (r : Int)); refine Rets.use (H3 _).out ?_; intro _))
 go_ret
 exact ⟨by rw [E.out]; refine congrArg Ending.returned (?_ : Value.string _ = Value.string _); refine congrArg Value.string (ByteArray.ext ?_); simp [ByteArray.data_append], done⟩
set_option maxRecDepth 100000 in
set_option maxHeartbeats 4000000 in
theorem time_w001 (n : Int) (p q r u : Nat) (D A B T : List UInt8) (w : World) (b1 : p ≤ 2562047788015216) (b2 : q < 60) (b3 : r < 60) (b4 : u < 3600) (b5 : r = 0)
 (H1 : ∀ w, Rets Tryz.prog 100 #[.int .i64 p] w (.string ⟨D.toArray⟩)) (H2 : ∀ w, Rets Tryz.prog 103 #[.int .i64 q] w (.string ⟨A.toArray⟩)) (H3 : ∀ w, Rets Tryz.prog 103 #[.int .i64 r] w (.string ⟨B.toArray⟩))
 (L1 : D.length ≤ 19) (L2 : A.length = 2) (L3 : B.length = 2) (h0 : decide (n < 0) = false) (t1 : n.tdiv 3600 = (p : Int)) (t2 : n.tmod 3600 = (u : Int)) (r1 : (u : Int).tdiv 60 = q) (r2 : (u : Int).tmod 60 = r) (E : T = D ++ 58 :: A) :
 Rets Tryz.prog 62 #[.int .i64 n] w (.string ⟨T.toArray⟩) := by
 have E := Lib.hid E
 have H1 := fun w => Lib.hid (H1 w)
 have H2 := fun w => Lib.hid (H2 w)
 have H3 := fun w => Lib.hid (H3 w)
 subst b5
 unfold Rets
 go_enter Tryz.func62, Tryz.ntmps62
 go_wp2_with (first | (go_at_call 100; refine Rets.use (H1 _).out ?_; intro _) | (go_at_call_of 103 (Value.int .i64 (q : Int)); refine Rets.use (H2 _).out ?_; intro _) | (go_at_call_of 103 (Value.int .i64 (r : Int)); refine Rets.use (H3 _).out ?_; intro _))
 go_ret
 exact ⟨by rw [E.out]; refine congrArg Ending.returned (?_ : Value.string _ = Value.string _); refine congrArg Value.string (ByteArray.ext ?_); simp [ByteArray.data_append], done⟩
set_option maxRecDepth 100000 in
set_option maxHeartbeats 4000000 in
theorem time_w010 (n : Int) (p q r u : Nat) (D A B T : List UInt8) (w : World) (b1 : p ≤ 2562047788015216) (b2 : q < 60) (b3 : r < 60) (b4 : u < 3600) (b5 : 0 < r)
 (H1 : ∀ w, Rets Tryz.prog 100 #[.int .i64 p] w (.string ⟨D.toArray⟩)) (H2 : ∀ w, Rets Tryz.prog 103 #[.int .i64 q] w (.string ⟨A.toArray⟩)) (H3 : ∀ w, Rets Tryz.prog 103 #[.int .i64 r] w (.string ⟨B.toArray⟩))
 (L1 : D.length ≤ 19) (L2 : A.length = 2) (L3 : B.length = 2) (h : n < 0) (t1 : n.tdiv 3600 = -(p : Int)) (t2 : n.tmod 3600 = -(u : Int)) (r1 : (u : Int).tdiv 60 = q) (r2 : (u : Int).tmod 60 = r) (E : T = 45 :: (D ++ 58 :: (A ++ 58 :: B))) :
 Rets Tryz.prog 62 #[.int .i64 n] w (.string ⟨T.toArray⟩) := by
 have E := Lib.hid E
 have H1 := fun w => Lib.hid (H1 w)
 have H2 := fun w => Lib.hid (H2 w)
 have H3 := fun w => Lib.hid (H3 w)
 have z1 : (0 : Int) < r := by omega
 unfold Rets
 go_enter Tryz.func62, Tryz.ntmps62
 go_wp2_with (first | (go_at_call 100; refine Rets.use (H1 _).out ?_; intro _) | (go_at_call_of 103 (Value.int .i64 (q : Int)); refine Rets.use (H2 _).out ?_; intro _) | (go_at_call_of 103 (Value.int .i64 (r : Int)); refine Rets.use (H3 _).out ?_; intro _))
 go_ret
 exact ⟨by rw [E.out]; refine congrArg Ending.returned (?_ : Value.string _ = Value.string _); refine congrArg Value.string (ByteArray.ext ?_); simp [ByteArray.data_append], done⟩
set_option maxRecDepth 100000 in
set_option maxHeartbeats 4000000 in
theorem time_w011 (n : Int) (p q r u : Nat) (D A B T : List UInt8) (w : World) (b1 : p ≤ 2562047788015216) (b2 : q < 60) (b3 : r < 60) (b4 : u < 3600) (b5 : r = 0)
 (H1 : ∀ w, Rets Tryz.prog 100 #[.int .i64 p] w (.string ⟨D.toArray⟩)) (H2 : ∀ w, Rets Tryz.prog 103 #[.int .i64 q] w (.string ⟨A.toArray⟩)) (H3 : ∀ w, Rets Tryz.prog 103 #[.int .i64 r] w (.string ⟨B.toArray⟩))
 (L1 : D.length ≤ 19) (L2 : A.length = 2) (L3 : B.length = 2) (h : n < 0) (t1 : n.tdiv 3600 = -(p : Int)) (t2 : n.tmod 3600 = -(u : Int)) (r1 : (u : Int).tdiv 60 = q) (r2 : (u : Int).tmod 60 = r) (E : T = 45 :: (D ++ 58 :: A)) :
 Rets Tryz.prog 62 #[.int .i64 n] w (.string ⟨T.toArray⟩) := by
 have E := Lib.hid E
 have H1 := fun w => Lib.hid (H1 w)
 have H2 := fun w => Lib.hid (H2 w)
 have H3 := fun w => Lib.hid (H3 w)
 subst b5
 unfold Rets
 go_enter Tryz.func62, Tryz.ntmps62
 go_wp2_with (first | (go_at_call 100; refine Rets.use (H1 _).out ?_; intro _) | (go_at_call_of 103 (Value.int .i64 (q : Int)); refine Rets.use (H2 _).out ?_; intro _) | (go_at_call_of 103 (Value.int .i64 (r : Int)); refine Rets.use (H3 _).out ?_; intro _))
 go_ret
 exact ⟨by rw [E.out]; refine congrArg Ending.returned (?_ : Value.string _ = Value.string _); refine congrArg Value.string (ByteArray.ext ?_); simp [ByteArray.data_append], done⟩
set_option maxRecDepth 100000 in
set_option maxHeartbeats 4000000 in
theorem time_w100 (n : Int) (p q r u : Nat) (D A B T : List UInt8) (w : World) (b1 : p ≤ 2562047788015216) (b2 : q < 60) (b3 : r < 60) (b4 : u < 3600) (b5 : 0 < r)
 (H1 : ∀ w, Rets Tryz.prog 106 #[.int .i64 p] w (.string ⟨D.toArray⟩)) (H2 : ∀ w, Rets Tryz.prog 107 #[.int .i64 q] w (.string ⟨A.toArray⟩)) (H3 : ∀ w, Rets Tryz.prog 107 #[.int .i64 r] w (.string ⟨B.toArray⟩))
 (L1 : D.length ≤ 19) (L2 : A.length = 2) (L3 : B.length = 2) (h0 : decide (n < 0) = false) (t1 : n.tdiv 3600 = (p : Int)) (M : Int) (m1 : -153722867280912931 ≤ M) (m2 : M ≤ 153722867280912931) (t0 : n.tdiv 60 = M) (t2 : M.tmod 60 = (q : Int)) (t3 : n.tmod 60 = (r : Int)) (E : T = D ++ 58 :: (A ++ 58 :: B)) :
 Rets Tryz.prog 67 #[.int .i64 n] w (.string ⟨T.toArray⟩) := by
 have E := Lib.hid E
 have H1 := fun w => Lib.hid (H1 w)
 have H2 := fun w => Lib.hid (H2 w)
 have H3 := fun w => Lib.hid (H3 w)
 have z1 : (0 : Int) < r := by omega
 have z2 : ((r : Int) == 0) = false := by simp; omega
 unfold Rets
 go_enter Tryz.func67, Tryz.ntmps67
 go_wp2_with (first | (go_at_call 106; refine Rets.use (H1 _).out ?_; intro _) | (go_at_call_of 107 (Value.int .i64 (q : Int)); refine Rets.use (H2 _).out ?_; intro _) | (go_at_call_of 107 (Value.int .i64 (r : Int)); refine Rets.use (H3 _).out ?_; intro _))
 go_ret
 exact ⟨by rw [E.out]; refine congrArg Ending.returned (?_ : Value.string _ = Value.string _); refine congrArg Value.string (ByteArray.ext ?_); simp [ByteArray.data_append], done⟩
set_option maxRecDepth 100000 in
set_option maxHeartbeats 4000000 in
theorem time_w101 (n : Int) (p q r u : Nat) (D A B T : List UInt8) (w : World) (b1 : p ≤ 2562047788015216) (b2 : q < 60) (b3 : r < 60) (b4 : u < 3600) (b5 : r = 0)
 (H1 : ∀ w, Rets Tryz.prog 106 #[.int .i64 p] w (.string ⟨D.toArray⟩)) (H2 : ∀ w, Rets Tryz.prog 107 #[.int .i64 q] w (.string ⟨A.toArray⟩)) (H3 : ∀ w, Rets Tryz.prog 107 #[.int .i64 r] w (.string ⟨B.toArray⟩))
 (L1 : D.length ≤ 19) (L2 : A.length = 2) (L3 : B.length = 2) (h0 : decide (n < 0) = false) (t1 : n.tdiv 3600 = (p : Int)) (M : Int) (m1 : -153722867280912931 ≤ M) (m2 : M ≤ 153722867280912931) (t0 : n.tdiv 60 = M) (t2 : M.tmod 60 = (q : Int)) (t3 : n.tmod 60 = (r : Int)) (E : T = D ++ 58 :: A) :
 Rets Tryz.prog 67 #[.int .i64 n] w (.string ⟨T.toArray⟩) := by
 have E := Lib.hid E
 have H1 := fun w => Lib.hid (H1 w)
 have H2 := fun w => Lib.hid (H2 w)
 have H3 := fun w => Lib.hid (H3 w)
 subst b5
 unfold Rets
 go_enter Tryz.func67, Tryz.ntmps67
 go_wp2_with (first | (go_at_call 106; refine Rets.use (H1 _).out ?_; intro _) | (go_at_call_of 107 (Value.int .i64 (q : Int)); refine Rets.use (H2 _).out ?_; intro _) | (go_at_call_of 107 (Value.int .i64 (r : Int)); refine Rets.use (H3 _).out ?_; intro _))
 go_ret
 exact ⟨by rw [E.out]; refine congrArg Ending.returned (?_ : Value.string _ = Value.string _); refine congrArg Value.string (ByteArray.ext ?_); simp [ByteArray.data_append], done⟩
set_option maxRecDepth 100000 in
set_option maxHeartbeats 4000000 in
theorem time_w110 (n : Int) (p q r u : Nat) (D A B T : List UInt8) (w : World) (b1 : p ≤ 2562047788015216) (b2 : q < 60) (b3 : r < 60) (b4 : u < 3600) (b5 : 0 < r)
 (H1 : ∀ w, Rets Tryz.prog 106 #[.int .i64 p] w (.string ⟨D.toArray⟩)) (H2 : ∀ w, Rets Tryz.prog 107 #[.int .i64 q] w (.string ⟨A.toArray⟩)) (H3 : ∀ w, Rets Tryz.prog 107 #[.int .i64 r] w (.string ⟨B.toArray⟩))
 (L1 : D.length ≤ 19) (L2 : A.length = 2) (L3 : B.length = 2) (h : n < 0) (t1 : n.tdiv 3600 = -(p : Int)) (M : Int) (m1 : -153722867280912931 ≤ M) (m2 : M ≤ 153722867280912931) (t0 : n.tdiv 60 = M) (t2 : M.tmod 60 = -(q : Int)) (t3 : n.tmod 60 = -(r : Int)) (E : T = 45 :: (D ++ 58 :: (A ++ 58 :: B))) :
 Rets Tryz.prog 67 #[.int .i64 n] w (.string ⟨T.toArray⟩) := by
 have E := Lib.hid E
 have H1 := fun w => Lib.hid (H1 w)
 have H2 := fun w => Lib.hid (H2 w)
 have H3 := fun w => Lib.hid (H3 w)
 have z1 : (0 : Int) < r := by omega
 have z2 : ((r : Int) == 0) = false := by simp; omega
 unfold Rets
 go_enter Tryz.func67, Tryz.ntmps67
 go_wp2_with (first | (go_at_call 106; refine Rets.use (H1 _).out ?_; intro _) | (go_at_call_of 107 (Value.int .i64 (q : Int)); refine Rets.use (H2 _).out ?_; intro _) | (go_at_call_of 107 (Value.int .i64 (r : Int)); refine Rets.use (H3 _).out ?_; intro _))
 go_ret
 exact ⟨by rw [E.out]; refine congrArg Ending.returned (?_ : Value.string _ = Value.string _); refine congrArg Value.string (ByteArray.ext ?_); simp [ByteArray.data_append], done⟩
set_option maxRecDepth 100000 in
set_option maxHeartbeats 4000000 in
theorem time_w111 (n : Int) (p q r u : Nat) (D A B T : List UInt8) (w : World) (b1 : p ≤ 2562047788015216) (b2 : q < 60) (b3 : r < 60) (b4 : u < 3600) (b5 : r = 0)
 (H1 : ∀ w, Rets Tryz.prog 106 #[.int .i64 p] w (.string ⟨D.toArray⟩)) (H2 : ∀ w, Rets Tryz.prog 107 #[.int .i64 q] w (.string ⟨A.toArray⟩)) (H3 : ∀ w, Rets Tryz.prog 107 #[.int .i64 r] w (.string ⟨B.toArray⟩))
 (L1 : D.length ≤ 19) (L2 : A.length = 2) (L3 : B.length = 2) (h : n < 0) (t1 : n.tdiv 3600 = -(p : Int)) (M : Int) (m1 : -153722867280912931 ≤ M) (m2 : M ≤ 153722867280912931) (t0 : n.tdiv 60 = M) (t2 : M.tmod 60 = -(q : Int)) (t3 : n.tmod 60 = -(r : Int)) (E : T = 45 :: (D ++ 58 :: A)) :
 Rets Tryz.prog 67 #[.int .i64 n] w (.string ⟨T.toArray⟩) := by
 have E := Lib.hid E
 have H1 := fun w => Lib.hid (H1 w)
 have H2 := fun w => Lib.hid (H2 w)
 have H3 := fun w => Lib.hid (H3 w)
 subst b5
 unfold Rets
 go_enter Tryz.func67, Tryz.ntmps67
 go_wp2_with (first | (go_at_call 106; refine Rets.use (H1 _).out ?_; intro _) | (go_at_call_of 107 (Value.int .i64 (q : Int)); refine Rets.use (H2 _).out ?_; intro _) | (go_at_call_of 107 (Value.int .i64 (r : Int)); refine Rets.use (H3 _).out ?_; intro _))
 go_ret
 exact ⟨by rw [E.out]; refine congrArg Ending.returned (?_ : Value.string _ = Value.string _); refine congrArg Value.string (ByteArray.ext ?_); simp [ByteArray.data_append], done⟩
theorem time_any (n : Int) (hn : -9223372036854775808 ≤ n ∧ n ≤ 9223372036854775807) (w : World) : Rets Tryz.prog 62 #[.int .i64 n] w (.string ⟨(Mom.timeD n).toArray⟩) := by
 have H1 := fun w => number_any (n.natAbs / 3600) (by omega) w
 have H2 := fun w => two_any (n.natAbs / 60 % 60) (by omega) w
 have H3 := fun w => two_any (n.natAbs % 60) (by omega) w
 have L1 : (Mom.dec (n.natAbs / 3600)).length ≤ 19 := Mom.dec_len 19 _ (by omega) (by omega)
 obtain ⟨r1, r2⟩ := time_rest n.natAbs
 by_cases h : n < 0
 · obtain ⟨t1, t2, t3, t4⟩ := time_neg h
   by_cases hz : n.natAbs % 60 = 0
   · exact time_w011 n _ _ _ (n.natAbs % 3600) _ _ _ _ w (by omega) (by omega) (by omega) (by omega) hz H1 H2 H3 L1 (by rfl) (by rfl) h t1 t2 r1 r2 (by unfold Mom.timeD Mom.hms; rw [if_pos h, if_pos hz, List.append_nil])
   · exact time_w010 n _ _ _ (n.natAbs % 3600) _ _ _ _ w (by omega) (by omega) (by omega) (by omega) (by omega) H1 H2 H3 L1 (by rfl) (by rfl) h t1 t2 r1 r2 (by unfold Mom.timeD Mom.hms; rw [if_pos h, if_neg hz])
 · obtain ⟨t1, t2, t3, t4⟩ := time_pos h
   by_cases hz : n.natAbs % 60 = 0
   · exact time_w001 n _ _ _ (n.natAbs % 3600) _ _ _ _ w (by omega) (by omega) (by omega) (by omega) hz H1 H2 H3 L1 (by rfl) (by rfl) (decide_eq_false h) t1 t2 r1 r2 (by unfold Mom.timeD Mom.hms; rw [if_neg h, if_pos hz, List.append_nil])
   · exact time_w000 n _ _ _ (n.natAbs % 3600) _ _ _ _ w (by omega) (by omega) (by omega) (by omega) (by omega) H1 H2 H3 L1 (by rfl) (by rfl) (decide_eq_false h) t1 t2 r1 r2 (by unfold Mom.timeD Mom.hms; rw [if_neg h, if_neg hz])
theorem tdiv60_bd {n : Int} (hn : -9223372036854775808 ≤ n ∧ n ≤ 9223372036854775807) : -153722867280912931 ≤ n.tdiv 60 ∧ n.tdiv 60 ≤ 153722867280912931 := by
 by_cases h : n < 0
 · obtain ⟨m, rfl⟩ : ∃ m : Nat, n = -m := ⟨(-n).toNat, by omega⟩
   rw [Int.neg_tdiv, Int.tdiv_eq_ediv_of_nonneg (by omega)]; omega
 · rw [Int.tdiv_eq_ediv_of_nonneg (by omega)]; omega
theorem rtime_any (n : Int) (hn : -9223372036854775808 ≤ n ∧ n ≤ 9223372036854775807) (w : World) : Rets Tryz.prog 67 #[.int .i64 n] w (.string ⟨(Mom.timeD n).toArray⟩) := by
 have H1 := fun w => rdigits_any (n.natAbs / 3600) (by omega) w
 have H2 := fun w => twice_any (n.natAbs / 60 % 60) (by omega) w
 have H3 := fun w => twice_any (n.natAbs % 60) (by omega) w
 have L1 : (Mom.dec (n.natAbs / 3600)).length ≤ 19 := Mom.dec_len 19 _ (by omega) (by omega)
 obtain ⟨m1, m2⟩ := tdiv60_bd hn
 by_cases h : n < 0
 · obtain ⟨t1, t2, t3, t4⟩ := time_neg h
   by_cases hz : n.natAbs % 60 = 0
   · exact time_w111 n _ _ _ (n.natAbs % 3600) _ _ _ _ w (by omega) (by omega) (by omega) (by omega) hz H1 H2 H3 L1 (by rfl) (by rfl) h t1 _ m1 m2 rfl t3 t4 (by unfold Mom.timeD Mom.hms; rw [if_pos h, if_pos hz, List.append_nil])
   · exact time_w110 n _ _ _ (n.natAbs % 3600) _ _ _ _ w (by omega) (by omega) (by omega) (by omega) (by omega) H1 H2 H3 L1 (by rfl) (by rfl) h t1 _ m1 m2 rfl t3 t4 (by unfold Mom.timeD Mom.hms; rw [if_pos h, if_neg hz])
 · obtain ⟨t1, t2, t3, t4⟩ := time_pos h
   by_cases hz : n.natAbs % 60 = 0
   · exact time_w101 n _ _ _ (n.natAbs % 3600) _ _ _ _ w (by omega) (by omega) (by omega) (by omega) hz H1 H2 H3 L1 (by rfl) (by rfl) (decide_eq_false h) t1 _ m1 m2 rfl t3 t4 (by unfold Mom.timeD Mom.hms; rw [if_neg h, if_pos hz, List.append_nil])
   · exact time_w100 n _ _ _ (n.natAbs % 3600) _ _ _ _ w (by omega) (by omega) (by omega) (by omega) (by omega) H1 H2 H3 L1 (by rfl) (by rfl) (decide_eq_false h) t1 _ m1 m2 rfl t3 t4 (by unfold Mom.timeD Mom.hms; rw [if_neg h, if_neg hz])
end Go.Proofs.YtdhbgelijjlifaaGreatDoor
