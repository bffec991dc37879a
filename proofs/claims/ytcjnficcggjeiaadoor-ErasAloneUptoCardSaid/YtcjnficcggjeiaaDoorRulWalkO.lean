/- Walks of rules: what is in force, by the program. -/
import Derived.Test.YtcjnficcggjeiaaDoorRulWalkN
import Derived.Test.YtcjnficcggjeiaaDoorRulWalkJ
import Derived.Deep.RegionHeld3
import Derived.Deep.Cut
set_option linter.unusedVariables false
set_option linter.unusedSimpArgs false
namespace Go.Proofs.YtcjnficcggjeiaaDoor
open Go.RowKit Go.Shelf

namespace Rul
def lastG (l : List Rule) (off T : Int) : Option Turn := latestG (fun x => (backs x (yearP T)).find? (fun u => decide (uniG l off u ≤ T))) l
def forceG (l : List Rule) (off T : Int) : Turn := match lastG l off T with
  | some x => x
  | none => ⟨0, 0, 0, (orNo (firstG l)).l⟩
end Rul
set_option maxRecDepth 100000 in
set_option maxHeartbeats 8000000 in
theorem force_yes (l : List Rule) (k : Nat) (hk : l.length = k) (hA : Rul.allB l = true) (off : Int) (o1 : -86400 < off) (o2 : off < 86400) (T : Int) (a1 : -9223372036854775808 ≤ T) (a2 : T ≤ 9223372036854775807) (v : Value) (w : World) (hr : Reads w v k (ruleRow l)) :
    Rets Tryd.prog 89 #[v, .int .i64 off, .int .i64 T] w (.tuple #[.int .i64 (Rul.forceG l off T).s, .string (Rul.forceG l off T).l]) := by
  have H1 : ∀ w, Reads w v k (ruleRow l) → Hid (Rets Tryd.prog 85 #[v] w (.bool true)) := fun w hr => by
    have := sets_any l k hk v w hr
    rw [hA] at this; exact this
  have H2 := fun w => Lib.hid (yearp_any T a1 a2 w)
  obtain ⟨y1, y2⟩ := yearP_bd T
  have H4 := fun w hr => Lib.hid (first_all l k hk v w hr)
  have H3 : ∀ (w' : World) (Bo Bl Bt : Nat), Reads w' v k (ruleRow l) → w'.cell? ⟨Bo, 0, none⟩ = some (.int .i64 off) → w'.cell? ⟨Bl, 0, none⟩ = some v → w'.cell? ⟨Bt, 0, none⟩ = some (.int .i64 T) → Bo < w'.heap.size → Bl < w'.heap.size → Bt < w'.heap.size →
      Hid (Rets Tryd.prog 86 #[v, .int .i64 (Rul.yearP T), .func (.func 101) #[] #[.pointer (some ⟨Bo, 0, none⟩), .pointer (some ⟨Bl, 0, none⟩), .pointer (some ⟨Bt, 0, none⟩)]] w' (.tuple #[turnV (Rul.orNo (Rul.lastG l off T)), .bool (Rul.lastG l off T).isSome])) := fun w' Bo Bl Bt hr c1 c2 c3 l1 l2 l3 =>
    latest_any l k hk (Rul.yearP T) _ _ (fun u => decide (Rul.uniG l off u ≤ T)) Rul.okT ⟨by show -9000000000000 ≤ (0 : Int); omega, by show (0 : Int) ≤ 9000000000000; omega⟩ (fun x hx y hy => by
        have := turn_bd (List.all_eq_true.1 hA x hx) hy
        exact ⟨this.1, this.2.1⟩) hA y1 y2 (enters_of Tryd.func101 (by kernel_rfl) rfl) v w' (fun u V hb hV => uni_any l k hk hA off T (by omega) (by omega) u hb Bo Bl Bt v V (hr.ext hV) ((Below.cell (p := ⟨Bo, 0, none⟩) hV l1).trans c1) ((Below.cell (p := ⟨Bl, 0, none⟩) hV l2).trans c2) ((Below.cell (p := ⟨Bt, 0, none⟩) hV l3).trans c3) (Nat.lt_of_lt_of_le l1 (Below.size hV)) (Nat.lt_of_lt_of_le l2 (Below.size hV)) (Nat.lt_of_lt_of_le l3 (Below.size hV))) hr
  have hcs : (∃ x, Rul.lastG l off T = some x ∧ Rul.forceG l off T = x) ∨ (Rul.lastG l off T = none ∧ Rul.forceG l off T = ⟨0, 0, 0, (Rul.orNo (Rul.firstG l)).l⟩) := by
    unfold Rul.forceG
    cases Rul.lastG l off T with
    | some x => exact .inl ⟨x, rfl, rfl⟩
    | none => exact .inr ⟨rfl, rfl⟩
  generalize Rul.forceG l off T = F at *
  generalize Rul.lastG l off T = Q at *
  generalize Rul.yearP T = Y at *
  have p1 : decide (off ≤ -86400) = false := decide_eq_false (by omega)
  have p2 : decide (86400 ≤ off) = false := decide_eq_false (by omega)
  obtain ⟨a8, c8, n8, hv⟩ : ∃ a c n', v = .slice a n' c := by rcases hr with ⟨a, c, rfl, _⟩ | ⟨b, o, c, rfl, _⟩ <;> exact ⟨_, _, _, rfl⟩
  subst hv
  obtain ⟨bb, hbb⟩ : ∃ bb, Hid (bb = Rul.orNo Q) := ⟨_, rfl⟩
  obtain ⟨fb, hfb⟩ : ∃ fb, Hid (fb = Q.isSome) := ⟨_, rfl⟩
  simp only [← hbb.out, ← hfb.out] at H3
  obtain ⟨ba, br, bs, bl⟩ := bb
  have hz : ∀ W : World, Holds4 (W.alloc (.cells #[.int .i64 0, .int .i64 0, .int .i64 0, .string ⟨#[]⟩] 96)) W.heap.size Rul.noTurn := fun W => holds4_new W Rul.noTurn _
  unfold Rets
  go_enter Tryd.func89, Tryd.ntmps89
  go_upto_region 3 with (go_at_call 85; refine Rets.use (H1 _ (hr.ext isext)).out ?_; intro _)
  go_cut [8, 9] from 10 (fun pv ov wr => ∃ B : Nat, pv = .pointer (some ⟨B, 0, none⟩) ∧ ov = .bool fb ∧ Holds4 wr B ⟨ba, br, bs, bl⟩ ∧ Ext (((w.alloc (.cells #[.slice a8 n8 c8] 25)).alloc (.cells #[.int .i64 off] 3)).alloc (.cells #[.int .i64 T] 2)) wr)
  case first =>
    refine wp_region_held_drew (S := fun w' => ∃ y9 : Past (((w.alloc (.cells #[.slice a8 n8 c8] 25)).alloc (.cells #[.int .i64 off] 3)).alloc (.cells #[.int .i64 T] 2)), w' = y9.x) (by kernel_rfl) (by exact fin isext) (fun hHeld => ?_)
    refine wpAnyH_take (i := 0) (oi := ⟨some 22, _, _, _, _, _⟩) (v := ?_) rfl (by kernel_rfl) (by kernel_rfl) (by kernel_rfl) (fun _ _ _ h => h) (Or.inl ⟨by rfl, ?_⟩) (by assumption) ?_
    rotate_left
    · rintro _ ⟨yS, rfl⟩; go_simp; first | done | (with_reducible rfl) | (rw [if_pos (by omega)]) | (rw [if_neg (by omega)])
    try simp only [Act.put, List.setIfInBounds_toArray, List.set_cons_zero, List.set_cons_succ]
    refine wpAnyH_take (i := 1) (oi := ⟨some 23, _, _, _, _, _⟩) (v := ?_) rfl (by kernel_rfl) (by kernel_rfl) (by kernel_rfl) (fun _ _ _ h => h) (Or.inl ⟨by rfl, ?_⟩) (by assumption) ?_
    rotate_left
    · rintro _ ⟨yS, rfl⟩; go_simp; first | done | (with_reducible rfl) | (rw [if_pos (by omega)]) | (rw [if_neg (by omega)])
    try simp only [Act.put, List.setIfInBounds_toArray, List.set_cons_zero, List.set_cons_succ]
    refine wpAnyH_take (i := 3) (oi := ⟨some 25, _, _, _, _, _⟩) (v := ?_) rfl (by kernel_rfl) (by kernel_rfl) (by kernel_rfl) (fun _ _ _ h => h) (Or.inl ⟨by rfl, ?_⟩) (by assumption) ?_
    rotate_left
    · rintro _ ⟨yS, rfl⟩; go_simp; first | done | (with_reducible rfl) | (rw [if_pos (by omega)]) | (rw [if_neg (by omega)])
    try simp only [Act.put, List.setIfInBounds_toArray, List.set_cons_zero, List.set_cons_succ]
    refine wpAnyH_ready (rs := [2, 8]) (by kernel_rfl) (by simp) ?_
    refine AllReadyH.cons (o := ⟨some 24, _, _, _, _, _⟩) rfl (fun K hK => ?_) ?_
    · go_simp
      go_at_call 87; refine Rets.use (H2 _).out ?_; intro _
      refine hK.out _ _ ?_ (fun hHeld => ?_)
      · exact fin isext
      clear hK K
      try simp only [Act.put, List.setIfInBounds_toArray, List.set_cons_zero, List.set_cons_succ]
      refine wpAnyH_ready (rs := [4, 8]) (by kernel_rfl) (by simp) ?_
      refine AllReadyH.cons (o := ⟨some 26, _, _, _, _, _⟩) rfl (fun K hK => ?_) ?_
      · go_simp
        go_at_call 86; refine Rets.use (H3 _ (w.heap.size + 1) w.heap.size (w.heap.size + 1 + 1) (hr.ext isext) (by simp [go_sem]) (by simp [go_sem]) (by simp [go_sem]) (inferInstance : InW (w.heap.size + 1) _).lt (inferInstance : InW w.heap.size _).lt (inferInstance : InW (w.heap.size + 1 + 1) _).lt).out ?_; intro y3
        refine hK.out _ _ ?_ (fun hHeld => ?_)
        · exact fin isext
        clear hK K
        try simp only [Act.put, List.setIfInBounds_toArray, List.set_cons_zero, List.set_cons_succ]
        refine wpAnyH_take (i := 5) (oi := ⟨some 21, _, _, _, _, _⟩) (v := ?_) rfl (by kernel_rfl) (by kernel_rfl) (by kernel_rfl) (fun _ _ _ h => h) (Or.inl ⟨by rfl, ?_⟩) (by assumption) ?_
        rotate_left
        · rintro _ ⟨yS, rfl⟩; go_simp; first | done | (with_reducible rfl) | (rw [if_pos (by omega)]) | (rw [if_neg (by omega)])
        try simp only [Act.put, List.setIfInBounds_toArray, List.set_cons_zero, List.set_cons_succ]
        refine wpAnyH_take (i := 6) (oi := ⟨some 27, _, _, _, _, _⟩) (v := ?_) rfl (by kernel_rfl) (by kernel_rfl) (by kernel_rfl) (fun _ _ _ h => h) (Or.inl ⟨by rfl, ?_⟩) (by assumption) ?_
        rotate_left
        · rintro _ ⟨yS, rfl⟩; go_simp; first | done | (with_reducible rfl) | (rw [if_pos (by omega)]) | (rw [if_neg (by omega)])
        try simp only [Act.put, List.setIfInBounds_toArray, List.set_cons_zero, List.set_cons_succ]
        refine wpAnyH_take (i := 7) (oi := ⟨some 28, _, _, _, _, _⟩) (v := ?_) rfl (by kernel_rfl) (by kernel_rfl) (by kernel_rfl) (fun _ _ _ h => h) (Or.inl ⟨by rfl, ?_⟩) (by assumption) ?_
        rotate_left
        · rintro _ ⟨yS, rfl⟩; go_simp; first | done | (with_reducible rfl) | (rw [if_pos (by omega)]) | (rw [if_neg (by omega)])
        try simp only [Act.put, List.setIfInBounds_toArray, List.set_cons_zero, List.set_cons_succ]
        refine wpAnyH_ready (rs := [8]) (by kernel_rfl) (by simp) ?_
        refine AllReadyH.cons (o := ⟨some 8, _, _, _, _, _⟩) rfl (fun K hK => ?_) ?_
        · go_simp
          refine hK.out _ _ ?_ (fun hHeld => ?_)
          · exact fin isext
          clear hK K
          try simp only [Act.put, List.setIfInBounds_toArray, List.set_cons_zero, List.set_cons_succ]
          refine wpAnyH_ready (rs := [9]) (by kernel_rfl) (by simp) ?_
          refine AllReadyH.cons (o := ⟨none, _, _, _, _, _⟩) rfl (fun K hK => ?_) ?_
          · go_simp
            refine hK.out _ _ ?_ (fun hHeld => ?_)
            · exact fin isext
            clear hK K
            try simp only [Act.put, List.setIfInBounds_toArray, List.set_cons_zero, List.set_cons_succ]
            refine wpAnyH_take (i := 10) (oi := ⟨some 9, _, _, _, _, _⟩) (v := ?_) rfl (by kernel_rfl) (by kernel_rfl) (by kernel_rfl) (fun _ _ _ h => h) (Or.inl ⟨by rfl, ?_⟩) (by assumption) ?_
            rotate_left
            · rintro _ ⟨yS, rfl⟩; go_simp; first | done | (with_reducible rfl) | (rw [if_pos (by omega)]) | (rw [if_neg (by omega)])
            try simp only [Act.put, List.setIfInBounds_toArray, List.set_cons_zero, List.set_cons_succ]
            refine wpAnyH_done (by kernel_rfl) ?_ _
            try go_wp2
            go_meet
            refine ⟨_, rfl, rfl, ?_, isext⟩
            first | exact holds4_new _ ⟨ba, br, bs, bl⟩ _ | (refine Holds4.write (t0 := Rul.noTurn) ?_ ⟨ba, br, bs, bl⟩; exact (hz _).ext isext)
          exact AllReadyH.nil
        exact AllReadyH.nil
      refine AllReadyH.cons (o := ⟨some 8, _, _, _, _, _⟩) rfl (fun K hK => ?_) ?_
      · go_simp
        refine hK.out _ _ ?_ (fun hHeld => ?_)
        · exact fin isext
        clear hK K
        try simp only [Act.put, List.setIfInBounds_toArray, List.set_cons_zero, List.set_cons_succ]
        refine wpAnyH_ready (rs := [4]) (by kernel_rfl) (by simp) ?_
        refine AllReadyH.cons (o := ⟨some 26, _, _, _, _, _⟩) rfl (fun K hK => ?_) ?_
        · go_simp
          go_at_call 86; refine Rets.use (H3 _ (w.heap.size + 1) w.heap.size (w.heap.size + 1 + 1) (hr.ext isext) (by simp [go_sem]) (by simp [go_sem]) (by simp [go_sem]) (inferInstance : InW (w.heap.size + 1) _).lt (inferInstance : InW w.heap.size _).lt (inferInstance : InW (w.heap.size + 1 + 1) _).lt).out ?_; intro y3
          refine hK.out _ _ ?_ (fun hHeld => ?_)
          · exact fin isext
          clear hK K
          try simp only [Act.put, List.setIfInBounds_toArray, List.set_cons_zero, List.set_cons_succ]
          refine wpAnyH_take (i := 5) (oi := ⟨some 21, _, _, _, _, _⟩) (v := ?_) rfl (by kernel_rfl) (by kernel_rfl) (by kernel_rfl) (fun _ _ _ h => h) (Or.inl ⟨by rfl, ?_⟩) (by assumption) ?_
          rotate_left
          · rintro _ ⟨yS, rfl⟩; go_simp; first | done | (with_reducible rfl) | (rw [if_pos (by omega)]) | (rw [if_neg (by omega)])
          try simp only [Act.put, List.setIfInBounds_toArray, List.set_cons_zero, List.set_cons_succ]
          refine wpAnyH_take (i := 6) (oi := ⟨some 27, _, _, _, _, _⟩) (v := ?_) rfl (by kernel_rfl) (by kernel_rfl) (by kernel_rfl) (fun _ _ _ h => h) (Or.inl ⟨by rfl, ?_⟩) (by assumption) ?_
          rotate_left
          · rintro _ ⟨yS, rfl⟩; go_simp; first | done | (with_reducible rfl) | (rw [if_pos (by omega)]) | (rw [if_neg (by omega)])
          try simp only [Act.put, List.setIfInBounds_toArray, List.set_cons_zero, List.set_cons_succ]
          refine wpAnyH_take (i := 7) (oi := ⟨some 28, _, _, _, _, _⟩) (v := ?_) rfl (by kernel_rfl) (by kernel_rfl) (by kernel_rfl) (fun _ _ _ h => h) (Or.inl ⟨by rfl, ?_⟩) (by assumption) ?_
          rotate_left
          · rintro _ ⟨yS, rfl⟩; go_simp; first | done | (with_reducible rfl) | (rw [if_pos (by omega)]) | (rw [if_neg (by omega)])
          try simp only [Act.put, List.setIfInBounds_toArray, List.set_cons_zero, List.set_cons_succ]
          refine wpAnyH_ready (rs := [9]) (by kernel_rfl) (by simp) ?_
          refine AllReadyH.cons (o := ⟨none, _, _, _, _, _⟩) rfl (fun K hK => ?_) ?_
          · go_simp
            refine hK.out _ _ ?_ (fun hHeld => ?_)
            · exact fin isext
            clear hK K
            try simp only [Act.put, List.setIfInBounds_toArray, List.set_cons_zero, List.set_cons_succ]
            refine wpAnyH_take (i := 10) (oi := ⟨some 9, _, _, _, _, _⟩) (v := ?_) rfl (by kernel_rfl) (by kernel_rfl) (by kernel_rfl) (fun _ _ _ h => h) (Or.inl ⟨by rfl, ?_⟩) (by assumption) ?_
            rotate_left
            · rintro _ ⟨yS, rfl⟩; go_simp; first | done | (with_reducible rfl) | (rw [if_pos (by omega)]) | (rw [if_neg (by omega)])
            try simp only [Act.put, List.setIfInBounds_toArray, List.set_cons_zero, List.set_cons_succ]
            refine wpAnyH_done (by kernel_rfl) ?_ _
            try go_wp2
            go_meet
            refine ⟨_, rfl, rfl, ?_, isext⟩
            first | exact holds4_new _ ⟨ba, br, bs, bl⟩ _ | (refine Holds4.write (t0 := Rul.noTurn) ?_ ⟨ba, br, bs, bl⟩; exact (hz _).ext isext)
          exact AllReadyH.nil
        exact AllReadyH.nil
      exact AllReadyH.nil
    refine AllReadyH.cons (o := ⟨some 8, _, _, _, _, _⟩) rfl (fun K hK => ?_) ?_
    · go_simp
      refine hK.out _ _ ?_ (fun hHeld => ?_)
      · exact fin isext
      clear hK K
      try simp only [Act.put, List.setIfInBounds_toArray, List.set_cons_zero, List.set_cons_succ]
      refine wpAnyH_ready (rs := [2]) (by kernel_rfl) (by simp) ?_
      refine AllReadyH.cons (o := ⟨some 24, _, _, _, _, _⟩) rfl (fun K hK => ?_) ?_
      · go_simp
        go_at_call 87; refine Rets.use (H2 _).out ?_; intro _
        refine hK.out _ _ ?_ (fun hHeld => ?_)
        · exact fin isext
        clear hK K
        try simp only [Act.put, List.setIfInBounds_toArray, List.set_cons_zero, List.set_cons_succ]
        refine wpAnyH_ready (rs := [4]) (by kernel_rfl) (by simp) ?_
        refine AllReadyH.cons (o := ⟨some 26, _, _, _, _, _⟩) rfl (fun K hK => ?_) ?_
        · go_simp
          go_at_call 86; refine Rets.use (H3 _ (w.heap.size + 1) w.heap.size (w.heap.size + 1 + 1) (hr.ext isext) (by simp [go_sem]) (by simp [go_sem]) (by simp [go_sem]) (inferInstance : InW (w.heap.size + 1) _).lt (inferInstance : InW w.heap.size _).lt (inferInstance : InW (w.heap.size + 1 + 1) _).lt).out ?_; intro y3
          refine hK.out _ _ ?_ (fun hHeld => ?_)
          · exact fin isext
          clear hK K
          try simp only [Act.put, List.setIfInBounds_toArray, List.set_cons_zero, List.set_cons_succ]
          refine wpAnyH_take (i := 5) (oi := ⟨some 21, _, _, _, _, _⟩) (v := ?_) rfl (by kernel_rfl) (by kernel_rfl) (by kernel_rfl) (fun _ _ _ h => h) (Or.inl ⟨by rfl, ?_⟩) (by assumption) ?_
          rotate_left
          · rintro _ ⟨yS, rfl⟩; go_simp; first | done | (with_reducible rfl) | (rw [if_pos (by omega)]) | (rw [if_neg (by omega)])
          try simp only [Act.put, List.setIfInBounds_toArray, List.set_cons_zero, List.set_cons_succ]
          refine wpAnyH_take (i := 6) (oi := ⟨some 27, _, _, _, _, _⟩) (v := ?_) rfl (by kernel_rfl) (by kernel_rfl) (by kernel_rfl) (fun _ _ _ h => h) (Or.inl ⟨by rfl, ?_⟩) (by assumption) ?_
          rotate_left
          · rintro _ ⟨yS, rfl⟩; go_simp; first | done | (with_reducible rfl) | (rw [if_pos (by omega)]) | (rw [if_neg (by omega)])
          try simp only [Act.put, List.setIfInBounds_toArray, List.set_cons_zero, List.set_cons_succ]
          refine wpAnyH_take (i := 7) (oi := ⟨some 28, _, _, _, _, _⟩) (v := ?_) rfl (by kernel_rfl) (by kernel_rfl) (by kernel_rfl) (fun _ _ _ h => h) (Or.inl ⟨by rfl, ?_⟩) (by assumption) ?_
          rotate_left
          · rintro _ ⟨yS, rfl⟩; go_simp; first | done | (with_reducible rfl) | (rw [if_pos (by omega)]) | (rw [if_neg (by omega)])
          try simp only [Act.put, List.setIfInBounds_toArray, List.set_cons_zero, List.set_cons_succ]
          refine wpAnyH_ready (rs := [9]) (by kernel_rfl) (by simp) ?_
          refine AllReadyH.cons (o := ⟨none, _, _, _, _, _⟩) rfl (fun K hK => ?_) ?_
          · go_simp
            refine hK.out _ _ ?_ (fun hHeld => ?_)
            · exact fin isext
            clear hK K
            try simp only [Act.put, List.setIfInBounds_toArray, List.set_cons_zero, List.set_cons_succ]
            refine wpAnyH_take (i := 10) (oi := ⟨some 9, _, _, _, _, _⟩) (v := ?_) rfl (by kernel_rfl) (by kernel_rfl) (by kernel_rfl) (fun _ _ _ h => h) (Or.inl ⟨by rfl, ?_⟩) (by assumption) ?_
            rotate_left
            · rintro _ ⟨yS, rfl⟩; go_simp; first | done | (with_reducible rfl) | (rw [if_pos (by omega)]) | (rw [if_neg (by omega)])
            try simp only [Act.put, List.setIfInBounds_toArray, List.set_cons_zero, List.set_cons_succ]
            refine wpAnyH_done (by kernel_rfl) ?_ _
            try go_wp2
            go_meet
            refine ⟨_, rfl, rfl, ?_, isext⟩
            first | exact holds4_new _ ⟨ba, br, bs, bl⟩ _ | (refine Holds4.write (t0 := Rul.noTurn) ?_ ⟨ba, br, bs, bl⟩; exact (hz _).ext isext)
          exact AllReadyH.nil
        exact AllReadyH.nil
      exact AllReadyH.nil
    exact AllReadyH.nil
  case rest =>
    obtain ⟨B, rfl, rfl, hB, hx⟩ := hcut
    obtain ⟨yr, rfl⟩ := fin hx
    haveI : InW B yr.x := ⟨hB.lt⟩
    have t0 := hB.c0
    have t1 := hB.c1
    have t2 := hB.c2
    have t3 := hB.c3
    clear hz
    rcases hcs with ⟨x, rfl, rfl⟩ | ⟨rfl, rfl⟩
    · obtain rfl : F = ⟨ba, br, bs, bl⟩ := hbb.out.symm
      obtain rfl : fb = true := hfb.out
      go_wp2
      refine wp_region_past (by kernel_rfl) (by kernel_rfl) ?_
      repeat (go_big_quiet_step (fail))
      refine wpQuiet_nil ?_
      intro _
      go_wp2
      go_ret2
      exact ⟨rfl, done⟩
    · obtain rfl : fb = false := hfb.out
      go_wp2_with (go_at_call 102; refine Rets.use (H4 _ (hr.ext isext)).out ?_; intro _)
      go_ret2
      exact ⟨rfl, done⟩
end Go.Proofs.YtcjnficcggjeiaaDoor
