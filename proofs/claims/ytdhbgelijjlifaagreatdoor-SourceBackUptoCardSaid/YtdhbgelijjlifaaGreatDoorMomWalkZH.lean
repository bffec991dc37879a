/- Walks of sources. -/
import Derived.Test.YtdhbgelijjlifaaGreatDoorSrcSupA
import Derived.Test.YtdhbgelijjlifaaGreatDoorMomWalkZF
import Derived.Deep.RegionHeld3
set_option linter.unusedVariables false
set_option linter.unusedSimpArgs false
namespace Go.Proofs.YtdhbgelijjlifaaGreatDoor
open Go.RowKit
def NamesAt (f : FuncId) (w : World) (n j : Nat) (N : List UInt8) : Prop := Calls Tryz.prog f #[] w fun e w' => ∃ (b : Nat) (y : Past w), e = .returned (.slice (some ⟨b, 0, none⟩) n n) ∧ w' = y.x ∧ InW b y.x ∧ y.x.cell? ⟨b, j, none⟩ = some (.string ⟨N.toArray⟩)
theorem names_new (w : World) (ws : List (List UInt8)) (t : TypeId) (j : Nat) (N : List UInt8) (h : ws[j]? = some N) : (w.alloc (.cells (strs ws).toArray t)).cell? ⟨w.heap.size, j, none⟩ = some (.string ⟨N.toArray⟩) := by
 have := new_cells w (strs ws) t j (.string ⟨N.toArray⟩) (by simp [strs, h])
 rw [show (⟨w.heap.size, 0, none⟩ : Addr).add j = ⟨w.heap.size, j, none⟩ by unfold Addr.add; split <;> simp_all] at this
 exact this
set_option maxRecDepth 100000 in
set_option maxHeartbeats 2000000 in
theorem months_at (w : World) (j : Nat) (N : List UInt8) (h : (Mom.monthsL.map Mom.great)[j]? = some N) : NamesAt 102 w 12 j N := by
 have K := Lib.hid (names_new w _ 9 j N h)
 clear h
 unfold NamesAt
 go_enter Tryz.func102, Tryz.ntmps102
 go_wp2
 go_ret
 exact ⟨w.heap.size, ⟨w.alloc (.cells (strs (Mom.monthsL.map Mom.great)).toArray 9), (Ext.refl w).alloc _⟩, rfl, rfl, ⟨by simp⟩, K.out⟩
set_option maxRecDepth 100000 in
set_option maxHeartbeats 2000000 in
theorem weekdays_at (w : World) (j : Nat) (N : List UInt8) (h : (Mom.daysL.map Mom.great)[j]? = some N) : NamesAt 101 w 7 j N := by
 have K := Lib.hid (names_new w _ 9 j N h)
 clear h
 unfold NamesAt
 go_enter Tryz.func101, Tryz.ntmps101
 go_wp2
 go_ret
 exact ⟨w.heap.size, ⟨w.alloc (.cells (strs (Mom.daysL.map Mom.great)).toArray 9), (Ext.refl w).alloc _⟩, rfl, rfl, ⟨by simp⟩, K.out⟩
def PrintOf (f : FuncId) (args : Array Value) (w : World) (l : List (List UInt8)) (n : Nat) : Prop := Calls Tryz.prog f args w fun e w' => ∃ (v : Value) (y : Past w), e = .returned (.tuple #[v, .int .i64 0]) ∧ Reads y.x v n (strs l) ∧ w' = y.x
theorem print_close {w W : World} [h : ExtC w W] (cs : Array Value) (t : TypeId) (l : List (List UInt8)) (n : Nat) (hn : l.length = n) (h100 : n ≤ 100) (hc : cs = (strs l).toArray) :
 ∃ (v : Value) (y : Past w), Ending.returned (.tuple #[Value.slice (some ⟨W.heap.size, 0, none⟩) n n, .int .i64 0]) = Ending.returned (.tuple #[v, .int .i64 0]) ∧ Reads y.x v n (strs l) ∧ W.alloc (.cells cs t) = y.x := by
 subst hc; exact ⟨_, ⟨_, h.ext.alloc _⟩, rfl, reads_new W l t n hn h100, rfl⟩
theorem ext3 (l : List UInt8) : (⟨l.toArray⟩ : ByteArray).extract 0 3 = ⟨(l.take 3).toArray⟩ := by
 apply ByteArray.ext; simp
theorem forms_at_0 (a b c d : ByteArray) (w : World) : Sem.run Tryz.prog (Instr.index 132 (Value.agg #[.string a, .string b, .string c, .string d]) (Value.int IntKind.i64 0)) w = .ok (.string a) w := by kernel_rfl
theorem forms_at_1 (a b c d : ByteArray) (w : World) : Sem.run Tryz.prog (Instr.index 132 (Value.agg #[.string a, .string b, .string c, .string d]) (Value.int IntKind.i64 1)) w = .ok (.string b) w := by kernel_rfl
theorem forms_at_2 (a b c d : ByteArray) (w : World) : Sem.run Tryz.prog (Instr.index 132 (Value.agg #[.string a, .string b, .string c, .string d]) (Value.int IntKind.i64 2)) w = .ok (.string c) w := by kernel_rfl
theorem forms_at_3 (a b c d : ByteArray) (w : World) : Sem.run Tryz.prog (Instr.index 132 (Value.agg #[.string a, .string b, .string c, .string d]) (Value.int IntKind.i64 3)) w = .ok (.string d) w := by kernel_rfl
theorem refs_at_0 (w : World) : Sem.run Tryz.prog (Instr.index 133 (Value.agg #[.string ⟨#[]⟩, .string ⟨#[115]⟩, .string ⟨#[117]⟩]) (Value.int IntKind.i64 0)) w = .ok (.string ⟨#[]⟩) w := by kernel_rfl
theorem refs_at_1 (w : World) : Sem.run Tryz.prog (Instr.index 133 (Value.agg #[.string ⟨#[]⟩, .string ⟨#[115]⟩, .string ⟨#[117]⟩]) (Value.int IntKind.i64 1)) w = .ok (.string ⟨#[115]⟩) w := by kernel_rfl
theorem refs_at_2 (w : World) : Sem.run Tryz.prog (Instr.index 133 (Value.agg #[.string ⟨#[]⟩, .string ⟨#[115]⟩, .string ⟨#[117]⟩]) (Value.int IntKind.i64 2)) w = .ok (.string ⟨#[117]⟩) w := by kernel_rfl
set_option maxRecDepth 100000 in
set_option maxHeartbeats 16000000 in
theorem print_gen (i j : Nat) (k wd d t r : Int) (M N A D E T R : List UInt8) (w : World) (hi : i < 12) (hj : j < 7) (hR : Mom.rightB ((i : Int) + 1) k wd d t r = true)
 (hw : (wd = 0 ∧ A = []) ∨ (wd = (j : Int) + 1 ∧ A = N.take 3))
 (HM : ∀ w, NamesAt 102 w 12 i M) (HN : ∀ w, NamesAt 101 w 7 j N)
 (H1 : ∀ w, Rets Tryz.prog 100 #[.int .i64 d] w (.string ⟨D.toArray⟩)) (H2 : ∀ w, Rets Tryz.prog 62 #[.int .i64 t] w (.string ⟨T.toArray⟩))
 (lM : 3 ≤ M.length ∧ M.length ≤ 9) (lN : 3 ≤ N.length ∧ N.length ≤ 9) (lA : A.length ≤ 3) (lD : D.length ≤ 19) (lT : T.length ≤ 21) (lR : R.length ≤ 1)
 (F1 : ∀ w, Sem.run Tryz.prog (Instr.index 132 (Value.agg #[.string ⟨D.toArray⟩, .string (⟨#[108, 97, 115, 116]⟩ ++ ⟨A.toArray⟩), .string (⟨A.toArray⟩ ++ ⟨#[62, 61]⟩ ++ ⟨D.toArray⟩), .string (⟨A.toArray⟩ ++ ⟨#[60, 61]⟩ ++ ⟨D.toArray⟩)]) (Value.int IntKind.i64 k)) w = .ok (.string ⟨E.toArray⟩) w)
 (F2 : ∀ w, Sem.run Tryz.prog (Instr.index 133 (Value.agg #[.string ⟨#[]⟩, .string ⟨#[115]⟩, .string ⟨#[117]⟩]) (Value.int IntKind.i64 r)) w = .ok (.string ⟨R.toArray⟩) w) :
 PrintOf 61 #[spotA ((i : Int) + 1) k wd d t r] w [M.take 3, E, T ++ R] 3 := by
 have HR := fun w => Lib.hid (right_whole ((i : Int) + 1) k wd d t r w)
 rw [hR] at HR
 clear hR
 have HM := fun w => Lib.hid (HM w)
 have HN := fun w => Lib.hid (HN w)
 have H1 := fun w => Lib.hid (H1 w)
 have H2 := fun w => Lib.hid (H2 w)
 have F1 := Lib.hid F1
 have F2 := Lib.hid F2
 have hA := Lib.hid hw
 have i1 : (i : Int) < 12 := by omega
 have j1 : (j : Int) < 7 := by omega
 have x1 : IntKind.i64.wrap (j : Int) = j := by rw [IntKind.wrap_i64]; omega
 have x2 : IntKind.i64.wrap ((j : Int) + 1 - 1) = j := by rw [IntKind.wrap_i64]; omega
 have x3 : IntKind.i64.wrap (i : Int) = i := by rw [IntKind.wrap_i64]; omega
 have x4 : IntKind.i64.wrap ((i : Int) + 1 - 1) = i := by rw [IntKind.wrap_i64]; omega
 obtain ⟨lM1, lM2⟩ := lM
 obtain ⟨lN1, lN2⟩ := lN
 have xM : (⟨M.toArray⟩ : ByteArray).extract 0 3 = ⟨(M.take 3).toArray⟩ := ext3 M
 have sM : (3 : Int) ≤ (⟨M.toArray⟩ : ByteArray).size := by rw [lsz]; omega
 have sN : (3 : Int) ≤ (⟨N.toArray⟩ : ByteArray).size := by rw [lsz]; omega
 clear hw
 unfold PrintOf
 go_enter Tryz.func61, Tryz.ntmps61
 go_upto_if 14 with (first | (go_at_call 70; refine Rets.use (HR _).out ?_; intro _) | (go_at_call 100; refine Rets.use (H1 _).out ?_; intro _))
 go_cut [4] from 6 (fun s wr => s = .string ⟨A.toArray⟩ ∧ Ext (w.alloc (.cells #[.int .i64 ((i : Int) + 1), .int .i64 k, .int .i64 wd, .int .i64 d, .int .i64 t, .int .i64 r] 54)) wr)
 case first =>
  rcases hA.out with ⟨rfl, rfl⟩ | ⟨rfl, hA2⟩
  · go_wp2
    go_meet
    exact ⟨rfl, isext⟩
  · have j3 : (0 : Int) < (j : Int) + 1 := by omega
    clear hA
    go_wp2_with fail
    go_region_with (go_at_call 101; refine (HN _).out.mono ?_; rintro _ _ ⟨b, y, rfl, rfl, hin, hc⟩)
    all_goals (try go_wp2)
    all_goals go_meet
    all_goals exact ⟨by rw [hA2, ext3], isext⟩
 case rest =>
  obtain ⟨rfl, hx⟩ := hcut
  obtain ⟨yr, rfl⟩ := fin hx
  have F1 := F1.out
  have F2 := F2.out
  clear hx hA
  go_wp2_with fail
  refine wp_region_held_drew (S := fun w' => w'.cell? ⟨w.heap.size, 0, none⟩ = some (.int .i64 ((i : Int) + 1)) ∧ w'.cell? ⟨w.heap.size, 4, none⟩ = some (.int .i64 t) ∧ w'.cell? ⟨w.heap.size, 5, none⟩ = some (.int .i64 r)) (by kernel_rfl) (by (try dsimp only); go_keep) (fun hHeld => ?_)
  refine wpAnyH_take (i := 1) (oi := ⟨some 38, _, _, _, _, _⟩) (v := ?_) rfl (by kernel_rfl) (by kernel_rfl) (by kernel_rfl) (fun _ _ _ h => h) (Or.inl ⟨by rfl, ?_⟩) (by assumption) ?_
  rotate_left
  · intro w hSw; (try dsimp only at hSw); go_simp; first | done | with_reducible rfl | rw [if_pos (by omega)] | rw [if_neg (by omega)]
  try simp only [Act.put, putA, putZ, putS]
  refine wpAnyH_take (i := 2) (oi := ⟨some 39, _, _, _, _, _⟩) (v := ?_) rfl (by kernel_rfl) (by kernel_rfl) (by kernel_rfl) (fun _ _ _ h => h) (Or.inl ⟨by rfl, ?_⟩) (by assumption) ?_
  rotate_left
  · intro w hSw; (try dsimp only at hSw); go_simp; first | done | with_reducible rfl | rw [if_pos (by omega)] | rw [if_neg (by omega)]
  try simp only [Act.put, putA, putZ, putS]
  refine wpAnyH_take (i := 3) (oi := ⟨some 40, _, _, _, _, _⟩) (v := ?_) rfl (by kernel_rfl) (by kernel_rfl) (by kernel_rfl) (fun _ _ _ h => h) (Or.inl ⟨by rfl, ?_⟩) (by assumption) ?_
  rotate_left
  · intro w hSw; (try dsimp only at hSw); go_simp; first | done | with_reducible rfl | rw [if_pos (by omega)] | rw [if_neg (by omega)]
  try simp only [Act.put, putA, putZ, putS]
  refine wpAnyH_take (i := 7) (oi := ⟨some 44, _, _, _, _, _⟩) (v := ?_) rfl (by kernel_rfl) (by kernel_rfl) (by kernel_rfl) (fun _ _ _ h => h) (Or.inl ⟨by rfl, ?_⟩) (by assumption) ?_
  rotate_left
  · intro w hSw; (try dsimp only at hSw); go_simp; first | done | with_reducible rfl | rw [if_pos (by omega)] | rw [if_neg (by omega)]
  try simp only [Act.put, putA, putZ, putS]
  refine wpAnyH_take (i := 8) (oi := ⟨some 45, _, _, _, _, _⟩) (v := ?_) rfl (by kernel_rfl) (by kernel_rfl) (by kernel_rfl) (fun _ _ _ h => h) (Or.inl ⟨by rfl, ?_⟩) (by assumption) ?_
  rotate_left
  · intro w hSw; (try dsimp only at hSw); go_simp; first | done | with_reducible rfl | rw [if_pos (by omega)] | rw [if_neg (by omega)]
  try simp only [Act.put, putA, putZ, putS]
  refine wpAnyH_take (i := 9) (oi := ⟨some 46, _, _, _, _, _⟩) (v := ?_) rfl (by kernel_rfl) (by kernel_rfl) (by kernel_rfl) (fun _ _ _ h => h) (Or.inl ⟨by rfl, ?_⟩) (by assumption) ?_
  rotate_left
  · intro w hSw; (try dsimp only at hSw); go_simp; first | done | with_reducible rfl | rw [if_pos (by omega)] | rw [if_neg (by omega)]
  try simp only [Act.put, putA, putZ, putS]
  refine wpAnyH_take (i := 11) (oi := ⟨some 48, _, _, _, _, _⟩) (v := ?_) rfl (by kernel_rfl) (by kernel_rfl) (by kernel_rfl) (fun _ _ _ h => h) (Or.inl ⟨by rfl, ?_⟩) (by assumption) ?_
  rotate_left
  · intro w hSw; (try dsimp only at hSw); go_simp; first | done | with_reducible rfl | rw [if_pos (by omega)] | rw [if_neg (by omega)]
  try simp only [Act.put, putA, putZ, putS]
  refine wpAnyH_take (i := 12) (oi := ⟨some 49, _, _, _, _, _⟩) (v := ?_) rfl (by kernel_rfl) (by kernel_rfl) (by kernel_rfl) (fun _ _ _ h => h) (Or.inl ⟨by rfl, ?_⟩) (by assumption) ?_
  rotate_left
  · intro w hSw; (try dsimp only at hSw); go_simp; first | done | with_reducible rfl | rw [if_pos (by omega)] | rw [if_neg (by omega)]
  try simp only [Act.put, putA, putZ, putS]
  refine wpAnyH_take (i := 13) (oi := ⟨some 50, _, _, _, _, _⟩) (v := ?_) rfl (by kernel_rfl) (by kernel_rfl) (by kernel_rfl) (fun _ _ _ h => h) (Or.inl ⟨by rfl, ?_⟩) (by assumption) ?_
  rotate_left
  · intro w hSw; (try dsimp only at hSw); go_simp; first | done | with_reducible rfl | rw [if_pos (by omega)] | rw [if_neg (by omega)]
  try simp only [Act.put, putA, putZ, putS]
  refine wpAnyH_take (i := 14) (oi := ⟨some 51, _, _, _, _, _⟩) (v := ?_) rfl (by kernel_rfl) (by kernel_rfl) (by kernel_rfl) (fun _ _ _ h => h) (Or.inl ⟨by rfl, ?_⟩) (by assumption) ?_
  rotate_left
  · intro w hSw; (try dsimp only at hSw); go_simp; first | done | with_reducible rfl | rw [if_pos (by omega)] | rw [if_neg (by omega)]
  try simp only [Act.put, putA, putZ, putS]
  refine wpAnyH_ready (rs := [0]) (by kernel_rfl) (by simp) ?_
  refine AllReadyH.cons (o := ⟨some 37, _, _, _, _, _⟩) rfl (fun K hK => ?_) ?_
  · go_simp
    go_at_call 102; refine (HM _).out.mono ?_; rintro _ _ ⟨b, y, rfl, rfl, hin, hc⟩
    refine hK.out _ _ ?_ (fun hHeld => ?_)
    · (try dsimp only); first | done | go_keep
    clear hK K
    try simp only [Act.put, putA, putZ, putS]
    refine wpAnyH_take (i := 4) (oi := ⟨some 41, _, _, _, _, _⟩) (v := ?_) rfl (by kernel_rfl) (by kernel_rfl) (by kernel_rfl) (fun _ _ _ h => h) (Or.inl ⟨by rfl, ?_⟩) (by assumption) ?_
    rotate_left
    · intro w hSw; (try dsimp only at hSw); go_simp; first | done | with_reducible rfl | rw [if_pos (by omega)] | rw [if_neg (by omega)]
    try simp only [Act.put, putA, putZ, putS]
    refine wpAnyH_ready (rs := [5, 10]) (by kernel_rfl) (by simp) ?_
    refine AllReadyH.cons (o := ⟨some 42, _, _, _, _, _⟩) rfl (fun K hK => ?_) ?_
    · go_simp
      refine hK.out _ _ ?_ (fun hHeld => ?_)
      · (try dsimp only); first | done | go_keep
      clear hK K
      try simp only [Act.put, putA, putZ, putS]
      refine wpAnyH_take (i := 6) (oi := ⟨some 43, _, _, _, _, _⟩) (v := ?_) rfl (by kernel_rfl) (by kernel_rfl) (by kernel_rfl) (fun _ _ _ h => h) (Or.inl ⟨by rfl, ?_⟩) (by assumption) ?_
      rotate_left
      · intro w hSw; (try dsimp only at hSw); go_simp; first | done | with_reducible rfl | rw [if_pos (by omega)] | rw [if_neg (by omega)]
      try simp only [Act.put, putA, putZ, putS]
      refine wpAnyH_ready (rs := [10]) (by kernel_rfl) (by simp) ?_
      refine AllReadyH.cons (o := ⟨some 47, _, _, _, _, _⟩) rfl (fun K hK => ?_) ?_
      · go_simp
        go_at_call 62; refine Rets.use (H2 _).out ?_; intro _
        refine hK.out _ _ ?_ (fun hHeld => ?_)
        · (try dsimp only); first | done | go_keep
        clear hK K
        try simp only [Act.put, putA, putZ, putS]
        refine wpAnyH_take (i := 15) (oi := ⟨some 52, _, _, _, _, _⟩) (v := ?_) rfl (by kernel_rfl) (by kernel_rfl) (by kernel_rfl) (fun _ _ _ h => h) (Or.inl ⟨by rfl, ?_⟩) (by assumption) ?_
        rotate_left
        · intro w hSw; (try dsimp only at hSw); go_simp; first | done | with_reducible rfl | rw [if_pos (by omega)] | rw [if_neg (by omega)]
        try simp only [Act.put, putA, putZ, putS]
        refine wpAnyH_ready (rs := [16]) (by kernel_rfl) (by simp) ?_
        refine AllReadyH.cons (o := ⟨some 53, _, _, _, _, _⟩) rfl (fun K hK => ?_) ?_
        · go_simp
          refine hK.out _ _ ?_ (fun hHeld => ?_)
          · (try dsimp only); first | done | go_keep
          clear hK K
          try simp only [Act.put, putA, putZ, putS]
          refine wpAnyH_take (i := 17) (oi := ⟨some 2, _, _, _, _, _⟩) (v := ?_) rfl (by kernel_rfl) (by kernel_rfl) (by kernel_rfl) (fun _ _ _ h => h) (Or.inl ⟨by rfl, ?_⟩) (by assumption) ?_
          rotate_left
          · intro w hSw; (try dsimp only at hSw); go_simp; first | done | with_reducible rfl | rw [if_pos (by omega)] | rw [if_neg (by omega)]
          try simp only [Act.put, putA, putZ, putS]
          refine wpAnyH_take (i := 18) (oi := ⟨some 3, _, _, _, _, _⟩) (v := ?_) rfl (by kernel_rfl) (by kernel_rfl) (by kernel_rfl) (fun _ _ _ h => h) (Or.inl ⟨by rfl, ?_⟩) (by assumption) ?_
          rotate_left
          · intro w hSw; (try dsimp only at hSw); go_simp; first | done | with_reducible rfl | rw [if_pos (by omega)] | rw [if_neg (by omega)]
          try simp only [Act.put, putA, putZ, putS]
          refine wpAnyH_done (by kernel_rfl) ?_ _
          clear x1 x2 x3 x4
          go_wp2
          go_ret2
          exact print_close _ _ _ _ rfl (by omega) (by simp only [strs, List.map, app_lit, ext3, List.cons_append, List.nil_append, List.append_assoc])
        exact AllReadyH.nil
      exact AllReadyH.nil
    refine AllReadyH.cons (o := ⟨some 47, _, _, _, _, _⟩) rfl (fun K hK => ?_) ?_
    · go_simp
      go_at_call 62; refine Rets.use (H2 _).out ?_; intro _
      refine hK.out _ _ ?_ (fun hHeld => ?_)
      · (try dsimp only); first | done | go_keep
      clear hK K
      try simp only [Act.put, putA, putZ, putS]
      refine wpAnyH_take (i := 15) (oi := ⟨some 52, _, _, _, _, _⟩) (v := ?_) rfl (by kernel_rfl) (by kernel_rfl) (by kernel_rfl) (fun _ _ _ h => h) (Or.inl ⟨by rfl, ?_⟩) (by assumption) ?_
      rotate_left
      · intro w hSw; (try dsimp only at hSw); go_simp; first | done | with_reducible rfl | rw [if_pos (by omega)] | rw [if_neg (by omega)]
      try simp only [Act.put, putA, putZ, putS]
      refine wpAnyH_ready (rs := [5]) (by kernel_rfl) (by simp) ?_
      refine AllReadyH.cons (o := ⟨some 42, _, _, _, _, _⟩) rfl (fun K hK => ?_) ?_
      · go_simp
        refine hK.out _ _ ?_ (fun hHeld => ?_)
        · (try dsimp only); first | done | go_keep
        clear hK K
        try simp only [Act.put, putA, putZ, putS]
        refine wpAnyH_take (i := 6) (oi := ⟨some 43, _, _, _, _, _⟩) (v := ?_) rfl (by kernel_rfl) (by kernel_rfl) (by kernel_rfl) (fun _ _ _ h => h) (Or.inl ⟨by rfl, ?_⟩) (by assumption) ?_
        rotate_left
        · intro w hSw; (try dsimp only at hSw); go_simp; first | done | with_reducible rfl | rw [if_pos (by omega)] | rw [if_neg (by omega)]
        try simp only [Act.put, putA, putZ, putS]
        refine wpAnyH_ready (rs := [16]) (by kernel_rfl) (by simp) ?_
        refine AllReadyH.cons (o := ⟨some 53, _, _, _, _, _⟩) rfl (fun K hK => ?_) ?_
        · go_simp
          refine hK.out _ _ ?_ (fun hHeld => ?_)
          · (try dsimp only); first | done | go_keep
          clear hK K
          try simp only [Act.put, putA, putZ, putS]
          refine wpAnyH_take (i := 17) (oi := ⟨some 2, _, _, _, _, _⟩) (v := ?_) rfl (by kernel_rfl) (by kernel_rfl) (by kernel_rfl) (fun _ _ _ h => h) (Or.inl ⟨by rfl, ?_⟩) (by assumption) ?_
          rotate_left
          · intro w hSw; (try dsimp only at hSw); go_simp; first | done | with_reducible rfl | rw [if_pos (by omega)] | rw [if_neg (by omega)]
          try simp only [Act.put, putA, putZ, putS]
          refine wpAnyH_take (i := 18) (oi := ⟨some 3, _, _, _, _, _⟩) (v := ?_) rfl (by kernel_rfl) (by kernel_rfl) (by kernel_rfl) (fun _ _ _ h => h) (Or.inl ⟨by rfl, ?_⟩) (by assumption) ?_
          rotate_left
          · intro w hSw; (try dsimp only at hSw); go_simp; first | done | with_reducible rfl | rw [if_pos (by omega)] | rw [if_neg (by omega)]
          try simp only [Act.put, putA, putZ, putS]
          refine wpAnyH_done (by kernel_rfl) ?_ _
          clear x1 x2 x3 x4
          go_wp2
          go_ret2
          exact print_close _ _ _ _ rfl (by omega) (by simp only [strs, List.map, app_lit, ext3, List.cons_append, List.nil_append, List.append_assoc])
        exact AllReadyH.nil
      exact AllReadyH.nil
    exact AllReadyH.nil
  exact AllReadyH.nil
end Go.Proofs.YtdhbgelijjlifaaGreatDoor

set_option linter.unusedVariables false
set_option linter.unusedSimpArgs false
namespace Go.Proofs.YtdhbgelijjlifaaGreatDoor
open Go.RowKit
theorem right_nat {m k wd d t r : Int} (h : Mom.rightB m k wd d t r = true) : ∃ i K W D R : Nat, i < 12 ∧ m = (i : Int) + 1 ∧ K ≤ 3 ∧ k = K ∧ W < 8 ∧ wd = W ∧ D ≤ 31 ∧ d = D ∧ R ≤ 2 ∧ r = R ∧ -604799 ≤ t ∧ t ≤ 604799 ∧
 (K = 0 → W = 0 ∧ 1 ≤ D) ∧ (K = 1 → D = 0) ∧ (K ≠ 0 → 1 ≤ W) ∧ (K ≠ 1 → 1 ≤ D) := by
 obtain ⟨h1, h2⟩ := Mom.right_yes h
 have h2 := of_decide_eq_true h2
 obtain ⟨a1, a2, a3, a4, a5, a6, a7, a8⟩ := h1
 refine ⟨(m - 1).toNat, k.toNat, wd.toNat, d.toNat, r.toNat, ?_⟩
 omega
set_option maxHeartbeats 4000000 in
theorem print_nat (i K W D R : Nat) (t : Int) (w : World) (hi : i < 12) (hK : K ≤ 3) (hW : W < 8) (hD : D ≤ 31) (hR : R ≤ 2) (t1 : -604799 ≤ t) (t2 : t ≤ 604799) (hright : Mom.rightB ((i : Int) + 1) K W D t R = true) :
 PrintOf 61 #[spotA ((i : Int) + 1) K W D t R] w (Mom.printD (i + 1) K W D t R) 3 := by
 have H1 := fun w => number_any D (by omega) w
 have H2 := fun w => time_any t (by omega) w
 have lD : (Mom.dec D).length ≤ 19 := Nat.le_trans (Mom.dec_len 2 D (by omega) (by omega)) (by omega)
 have lT := timeD_len t1 t2
 have lA := wdD_len W hW
 have hM : ∀ i : Fin 12, ∃ M, (Mom.monthsL.map Mom.great)[i.val]? = some M ∧ 3 ≤ M.length ∧ M.length ≤ 9 ∧ Mom.short Mom.monthsL i.val = M.take 3 := by
  intro i
  refine ⟨(Mom.monthsL.map Mom.great)[i.val]'(by exact i.isLt), List.getElem?_eq_getElem _, ?_, ?_, ?_⟩
  · revert i; decide
  · revert i; decide
  · revert i; decide
 have hN : ∀ i : Fin 7, ∃ M, (Mom.daysL.map Mom.great)[i.val]? = some M ∧ 3 ≤ M.length ∧ M.length ≤ 9 ∧ Mom.wdD (i.val + 1) = M.take 3 := by
  intro i
  refine ⟨(Mom.daysL.map Mom.great)[i.val]'(by exact i.isLt), List.getElem?_eq_getElem _, ?_, ?_, ?_⟩
  · revert i; decide
  · revert i; decide
  · revert i; decide
 obtain ⟨M, hM1, hM2, hM3, hM4⟩ := hM ⟨i, hi⟩
 obtain ⟨N, hN1, hN2, hN3, hN4⟩ := hN ⟨W - 1, by omega⟩
 have hw : ((W : Int) = 0 ∧ Mom.wdD W = []) ∨ ((W : Int) = ((W - 1 : Nat) : Int) + 1 ∧ Mom.wdD W = N.take 3) := by
  by_cases h : W = 0
  · left; subst h; exact ⟨rfl, rfl⟩
  · right; refine ⟨by omega, ?_⟩; rw [← hN4]; congr 1; simp only; omega
 have hF : ∃ E, E = Mom.dayD K W D := ⟨_, rfl⟩
 obtain ⟨E, hE⟩ := hF
 have F1 : ∀ w, Sem.run Tryz.prog (Instr.index 132 (Value.agg #[.string ⟨(Mom.dec D).toArray⟩, .string (⟨#[108, 97, 115, 116]⟩ ++ ⟨(Mom.wdD W).toArray⟩), .string (⟨(Mom.wdD W).toArray⟩ ++ ⟨#[62, 61]⟩ ++ ⟨(Mom.dec D).toArray⟩), .string (⟨(Mom.wdD W).toArray⟩ ++ ⟨#[60, 61]⟩ ++ ⟨(Mom.dec D).toArray⟩)]) (Value.int IntKind.i64 K)) w = .ok (.string ⟨E.toArray⟩) w := by
  intro w
  subst hE
  obtain rfl | rfl | rfl | rfl : K = 0 ∨ K = 1 ∨ K = 2 ∨ K = 3 := by omega
  · exact forms_at_0 _ _ _ _ w
  · rw [show ((1 : Nat) : Int) = 1 from rfl, forms_at_1]; simp only [app_lit]; rfl
  · rw [show ((2 : Nat) : Int) = 2 from rfl, forms_at_2]; simp only [app_lit]; rfl
  · rw [show ((3 : Nat) : Int) = 3 from rfl, forms_at_3]; simp only [app_lit]; rfl
 have F2 : ∀ w, Sem.run Tryz.prog (Instr.index 133 (Value.agg #[.string ⟨#[]⟩, .string ⟨#[115]⟩, .string ⟨#[117]⟩]) (Value.int IntKind.i64 R)) w = .ok (.string ⟨(Mom.refD R).toArray⟩) w := by
  intro w
  obtain rfl | rfl | rfl : R = 0 ∨ R = 1 ∨ R = 2 := by omega
  · exact refs_at_0 w
  · exact refs_at_1 w
  · exact refs_at_2 w
 have lR : (Mom.refD R).length ≤ 1 := by unfold Mom.refD; split; · simp
                                         split <;> simp
 have := print_gen i (W - 1) K W D t R M N (Mom.wdD W) (Mom.dec D) E (Mom.timeD t) (Mom.refD R) w hi (by omega) hright hw (fun w => months_at w i M hM1) (fun w => weekdays_at w (W - 1) N hN1) H1 H2 ⟨hM2, hM3⟩ ⟨hN2, hN3⟩ lA lD lT lR F1 F2
 unfold Mom.printD
 rw [show i + 1 - 1 = i from rfl, hM4, ← hE]
 exact this
end Go.Proofs.YtdhbgelijjlifaaGreatDoor

