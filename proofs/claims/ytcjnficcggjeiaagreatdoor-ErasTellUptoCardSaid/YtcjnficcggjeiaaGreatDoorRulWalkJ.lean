/- Walks of rules: what is in force, by the document. -/
import Derived.Test.YtcjnficcggjeiaaGreatDoorRulWalkH
import Derived.Test.YtcjnficcggjeiaaGreatDoorRulWalkI
import Derived.Deep.CutRange
set_option linter.unusedVariables false
set_option linter.unusedSimpArgs false
namespace Go.Proofs.YtcjnficcggjeiaaGreatDoor
open Go.RowKit

namespace Rul
def forceD (l : List Rule) (off t : Int) : Turn := match lastD l off t with
  | some x => x
  | none => ⟨0, 0, 0, (orNo (firstG l)).l⟩
end Rul
theorem holds4_new (W : World) (t : Turn) (ty : TypeId) : Holds4 (W.alloc (.cells #[.int .i64 t.at', .int .i64 t.r, .int .i64 t.s, .string t.l] ty)) W.heap.size t := by
  constructor <;> first | (simp [go_sem]; done) | rfl | (simp; omega)
theorem rfirst_eq (x : Rule) (y : Int) (h : Rul.turnB x y = true) : Rul.rturnOf x y = Rul.turnOf x y := by unfold Rul.rturnOf; rw [if_pos h]
set_option maxRecDepth 100000 in
set_option maxHeartbeats 16000000 in
theorem rforce_any (l : List Rule) (n : Nat) (hn : l.length = n) (hA : Rul.allB l = true) (off : Int) (o1 : -86400 ≤ off) (o2 : off ≤ 86400) (at0 : Int) (a1 : -9223372036854775808 ≤ at0) (a2 : at0 ≤ 9223372036854775807) (v : Value) (w : World) (hr : Reads w v n (ruleRow l)) (h0 : n ≠ 0) :
    Rets Tryz.prog 27 #[v, .int .i64 off, .int .i64 at0] w (.tuple #[.int .i64 (Rul.forceD l off at0).s, .string (Rul.forceD l off at0).l]) := by
  have HL := fun w hr => Lib.hid (rlast_any l n hn hA off o1 o2 at0 a1 a2 v w hr h0)
  have hcs : (∃ x, Rul.lastD l off at0 = some x ∧ Rul.forceD l off at0 = x) ∨ (Rul.lastD l off at0 = none ∧ Rul.forceD l off at0 = ⟨0, 0, 0, (Rul.orNo (Rul.firstG l)).l⟩) := by
    unfold Rul.forceD
    cases Rul.lastD l off at0 with
    | some x => exact .inl ⟨x, rfl, rfl⟩
    | none => exact .inr ⟨rfl, rfl⟩
  generalize Rul.forceD l off at0 = F at *
  have hr0 := hr
  rcases hcs with ⟨x, hx, rfl⟩ | ⟨hx, rfl⟩
  · rw [hx] at HL
    obtain ⟨xa, xr, xs, xl⟩ := F
    unfold Rets
    go_enter Tryz.func27, Tryz.ntmps27
    go_wp2_with (go_at_call 48; refine Rets.use (HL _ (hr0.ext isext)).out ?_; intro y)
    refine wp_region_past (by kernel_rfl) (by kernel_rfl) ?_
    repeat (go_big_quiet_step (fail))
    refine wpQuiet_nil ?_
    intro _
    go_wp2
    go_ret2
    exact ⟨rfl, done⟩
  rw [hx] at HL
  rcases hr with ⟨_, _, rfl, h1, _⟩ | ⟨b, o, c, rfl, k1, k2, m1, hc⟩
  · exact absurd h1 h0
  haveI : InW b w := ⟨m1⟩
  have hl : n ≤ 9223372036854775807 := by unfold maxLen at k2; omega
  have HC := Lib.hid hc
  have Hn := Lib.hid hn
  clear hc hn
  unfold Rets
  go_enter Tryz.func27, Tryz.ntmps27
  go_wp2_with (go_at_call 48; refine Rets.use (HL _ (hr0.ext isext)).out ?_; intro y)
  go_loopw [11, 12] (fun fv iv wr => ∃ (j : Nat) (q : Option Turn), j ≤ n ∧ iv = .int .i64 j ∧ fv = .bool q.isSome ∧ Hid (Rul.firstG (l.take j) = q) ∧ Holds4 wr (y.x.heap.size + 1) (Rul.orNo q) ∧ Ext y.x wr) (fun _ i _ => n - (intOf i).toNat)
  case atStart =>
    refine ⟨0, none, by omega, rfl, rfl, rfl, ?_, isext⟩
    constructor <;> first | (simp [go_sem, Rul.noTurn, Rul.orNo]; done) | rfl | (simp; omega)
  case round =>
    obtain ⟨j, q, j2, rfl, rfl, he, hB1, hx⟩ := hrel
    haveI : ExtC w wr := ⟨y.hb.trans hx⟩
    haveI : InW b wr := ⟨Nat.lt_of_lt_of_le m1 (Below.size (y.hb.trans hx))⟩
    haveI : InW (y.x.heap.size + 1) wr := ⟨hB1.lt⟩
    have e0 := hB1.c0
    have e1 := hB1.c1
    have e2 := hB1.c2
    have e3 := hB1.c3
    have g0 := hB1.f0
    have g1 := hB1.f1
    have g2 := hB1.f2
    have g3 := hB1.f3
    by_cases hlt : j < n
    · have hj : j < l.length := by rw [Hn.out]; exact hlt
      obtain ⟨c0, c1, c2, c3, c4, c5, c6, c7, c8, c9, c10⟩ := rule_at (w := wr) (fun i u hu => (Below.cell (p := ⟨b, o + i, none⟩) (y.hb.trans hx) m1).trans (HC.out i u hu)) j hj
      have HT := fun w => Lib.hid (rturn_any l[j] l[j].a w)
      have hcs := first_cases q l[j]
      have hre := rfirst_eq l[j] l[j].a
      have E : Hid (Rul.firstG (l.take (j + 1)) = Rul.stepE q l[j]) := by show _ = _; rw [Rul.first_step hj, he.out]
      generalize Rul.stepE q l[j] = q' at *
      generalize Rul.turnOf l[j] l[j].a = tt at *
      generalize Rul.rturnOf l[j] l[j].a = rt at *
      generalize Rul.turnB l[j] l[j].a = tb at *
      generalize l[j] = x at *
      obtain ⟨nm, a, b', m, k, wd, d, t, r, s, lt⟩ := x
      simp only at c0 c1 c2 c3 c4 c5 c6 c7 c8 c9 c10 hcs HT
      have hne : wr.heap.size ≠ b := Nat.ne_of_gt (Nat.lt_of_lt_of_le m1 (Below.size (y.hb.trans hx)))
      have hne2 : b ≠ wr.heap.size := Ne.symm hne
      have i1 : (0 : Int) ≤ (j : Int) := by omega
      obtain ⟨ta, tr, ts, tl⟩ := rt
      have i2 : (j : Int) < (n : Int) := by omega
      have hz : Holds4 (wr.alloc (.cells #[.int .i64 0, .int .i64 0, .int .i64 0, .string ⟨#[]⟩] 59)) wr.heap.size Rul.noTurn := holds4_new wr Rul.noTurn _
      go_upto_region 8 with (fail)
      go_cut [13, 14] from 28 to 67 (fun pv ov wr2 => ∃ B : Nat, pv = .pointer (some ⟨B, 0, none⟩) ∧ ov = .bool tb ∧ Holds4 wr2 B ⟨ta, tr, ts, tl⟩ ∧ Ext wr wr2)
      case first =>
        refine wp_region_held_drew (S := fun w' => w'.cell? ⟨b, o + j * 11, none⟩ = some (.string nm) ∧ w'.cell? ⟨b, o + j * 11 + 1, none⟩ = some (.int .i64 a) ∧ w'.cell? ⟨b, o + j * 11 + 2, none⟩ = some (.int .i64 b') ∧ w'.cell? ⟨b, o + j * 11 + 3, none⟩ = some (.int .i64 m) ∧ w'.cell? ⟨b, o + j * 11 + 4, none⟩ = some (.int .i64 k) ∧ w'.cell? ⟨b, o + j * 11 + 5, none⟩ = some (.int .i64 wd) ∧ w'.cell? ⟨b, o + j * 11 + 6, none⟩ = some (.int .i64 d) ∧ w'.cell? ⟨b, o + j * 11 + 7, none⟩ = some (.int .i64 t) ∧ w'.cell? ⟨b, o + j * 11 + 8, none⟩ = some (.int .i64 r) ∧ w'.cell? ⟨b, o + j * 11 + 9, none⟩ = some (.int .i64 s) ∧ w'.cell? ⟨b, o + j * 11 + 10, none⟩ = some (.string lt)) (by kernel_rfl) (by (try dsimp only); go_keep) (fun hHeld => ?_)
        refine wpAnyH_take (i := 0) (oi := ⟨some 35, _, _, _, _, _⟩) (v := ?_) rfl (by kernel_rfl) (by kernel_rfl) (by kernel_rfl) (fun _ _ _ h => h) (Or.inl ⟨by rfl, ?_⟩) (by assumption) ?_
        rotate_left
        · intro w hSw; (try dsimp only at hSw); go_simp; first | done | (with_reducible rfl) | (rw [if_pos (by omega)]) | (rw [if_neg (by omega)])
        try simp only [Act.put, List.setIfInBounds_toArray, List.set_cons_zero, List.set_cons_succ]
        refine wpAnyH_take (i := 1) (oi := ⟨some 36, _, _, _, _, _⟩) (v := ?_) rfl (by kernel_rfl) (by kernel_rfl) (by kernel_rfl) (fun _ _ _ h => h) (Or.inl ⟨by rfl, ?_⟩) (by assumption) ?_
        rotate_left
        · intro w hSw; (try dsimp only at hSw); go_simp; first | done | (with_reducible rfl) | (rw [if_pos (by omega)]) | (rw [if_neg (by omega)])
        try simp only [Act.put, List.setIfInBounds_toArray, List.set_cons_zero, List.set_cons_succ]
        refine wpAnyH_take (i := 2) (oi := ⟨some 37, _, _, _, _, _⟩) (v := ?_) rfl (by kernel_rfl) (by kernel_rfl) (by kernel_rfl) (fun _ _ _ h => h) (Or.inl ⟨by rfl, ?_⟩) (by assumption) ?_
        rotate_left
        · intro w hSw; (try dsimp only at hSw); go_simp; first | done | (with_reducible rfl) | (rw [if_pos (by omega)]) | (rw [if_neg (by omega)])
        try simp only [Act.put, List.setIfInBounds_toArray, List.set_cons_zero, List.set_cons_succ]
        refine wpAnyH_take (i := 3) (oi := ⟨some 38, _, _, _, _, _⟩) (v := ?_) rfl (by kernel_rfl) (by kernel_rfl) (by kernel_rfl) (fun _ _ _ h => h) (Or.inl ⟨by rfl, ?_⟩) (by assumption) ?_
        rotate_left
        · intro w hSw; (try dsimp only at hSw); go_simp; first | done | (with_reducible rfl) | (rw [if_pos (by omega)]) | (rw [if_neg (by omega)])
        try simp only [Act.put, List.setIfInBounds_toArray, List.set_cons_zero, List.set_cons_succ]
        refine wpAnyH_take (i := 4) (oi := ⟨some 39, _, _, _, _, _⟩) (v := ?_) rfl (by kernel_rfl) (by kernel_rfl) (by kernel_rfl) (fun _ _ _ h => h) (Or.inl ⟨by rfl, ?_⟩) (by assumption) ?_
        rotate_left
        · intro w hSw; (try dsimp only at hSw); go_simp; first | done | (with_reducible rfl) | (rw [if_pos (by omega)]) | (rw [if_neg (by omega)])
        try simp only [Act.put, List.setIfInBounds_toArray, List.set_cons_zero, List.set_cons_succ]
        refine wpAnyH_take (i := 5) (oi := ⟨some 40, _, _, _, _, _⟩) (v := ?_) rfl (by kernel_rfl) (by kernel_rfl) (by kernel_rfl) (fun _ _ _ h => h) (Or.inl ⟨by rfl, ?_⟩) (by assumption) ?_
        rotate_left
        · intro w hSw; (try dsimp only at hSw); go_simp; first | done | (with_reducible rfl) | (rw [if_pos (by omega)]) | (rw [if_neg (by omega)])
        try simp only [Act.put, List.setIfInBounds_toArray, List.set_cons_zero, List.set_cons_succ]
        refine wpAnyH_take (i := 6) (oi := ⟨some 41, _, _, _, _, _⟩) (v := ?_) rfl (by kernel_rfl) (by kernel_rfl) (by kernel_rfl) (fun _ _ _ h => h) (Or.inl ⟨by rfl, ?_⟩) (by assumption) ?_
        rotate_left
        · intro w hSw; (try dsimp only at hSw); go_simp; first | done | (with_reducible rfl) | (rw [if_pos (by omega)]) | (rw [if_neg (by omega)])
        try simp only [Act.put, List.setIfInBounds_toArray, List.set_cons_zero, List.set_cons_succ]
        refine wpAnyH_take (i := 7) (oi := ⟨some 42, _, _, _, _, _⟩) (v := ?_) rfl (by kernel_rfl) (by kernel_rfl) (by kernel_rfl) (fun _ _ _ h => h) (Or.inl ⟨by rfl, ?_⟩) (by assumption) ?_
        rotate_left
        · intro w hSw; (try dsimp only at hSw); go_simp; first | done | (with_reducible rfl) | (rw [if_pos (by omega)]) | (rw [if_neg (by omega)])
        try simp only [Act.put, List.setIfInBounds_toArray, List.set_cons_zero, List.set_cons_succ]
        refine wpAnyH_take (i := 8) (oi := ⟨some 43, _, _, _, _, _⟩) (v := ?_) rfl (by kernel_rfl) (by kernel_rfl) (by kernel_rfl) (fun _ _ _ h => h) (Or.inl ⟨by rfl, ?_⟩) (by assumption) ?_
        rotate_left
        · intro w hSw; (try dsimp only at hSw); go_simp; first | done | (with_reducible rfl) | (rw [if_pos (by omega)]) | (rw [if_neg (by omega)])
        try simp only [Act.put, List.setIfInBounds_toArray, List.set_cons_zero, List.set_cons_succ]
        refine wpAnyH_ready (rs := [9, 13]) (by kernel_rfl) (by simp) ?_
        refine AllReadyH.cons (o := ⟨some 44, _, _, _, _, _⟩) rfl (fun K hK => ?_) ?_
        · go_simp
          go_at_call 43; refine Rets.use (HT _).out ?_; intro y3
          refine hK.out _ _ ?_ (fun hHeld => ?_)
          · (try dsimp only); first | done | go_keep
          clear hK K
          try simp only [Act.put, List.setIfInBounds_toArray, List.set_cons_zero, List.set_cons_succ]
          refine wpAnyH_take (i := 10) (oi := ⟨some 34, _, _, _, _, _⟩) (v := ?_) rfl (by kernel_rfl) (by kernel_rfl) (by kernel_rfl) (fun _ _ _ h => h) (Or.inl ⟨by rfl, ?_⟩) (by assumption) ?_
          rotate_left
          · intro w hSw; (try dsimp only at hSw); go_simp; first | done | (with_reducible rfl) | (rw [if_pos (by omega)]) | (rw [if_neg (by omega)])
          try simp only [Act.put, List.setIfInBounds_toArray, List.set_cons_zero, List.set_cons_succ]
          refine wpAnyH_take (i := 11) (oi := ⟨some 45, _, _, _, _, _⟩) (v := ?_) rfl (by kernel_rfl) (by kernel_rfl) (by kernel_rfl) (fun _ _ _ h => h) (Or.inl ⟨by rfl, ?_⟩) (by assumption) ?_
          rotate_left
          · intro w hSw; (try dsimp only at hSw); go_simp; first | done | (with_reducible rfl) | (rw [if_pos (by omega)]) | (rw [if_neg (by omega)])
          try simp only [Act.put, List.setIfInBounds_toArray, List.set_cons_zero, List.set_cons_succ]
          refine wpAnyH_take (i := 12) (oi := ⟨some 46, _, _, _, _, _⟩) (v := ?_) rfl (by kernel_rfl) (by kernel_rfl) (by kernel_rfl) (fun _ _ _ h => h) (Or.inl ⟨by rfl, ?_⟩) (by assumption) ?_
          rotate_left
          · intro w hSw; (try dsimp only at hSw); go_simp; first | done | (with_reducible rfl) | (rw [if_pos (by omega)]) | (rw [if_neg (by omega)])
          try simp only [Act.put, List.setIfInBounds_toArray, List.set_cons_zero, List.set_cons_succ]
          refine wpAnyH_ready (rs := [13]) (by kernel_rfl) (by simp) ?_
          refine AllReadyH.cons (o := ⟨some 13, _, _, _, _, _⟩) rfl (fun K hK => ?_) ?_
          · go_simp
            refine hK.out _ _ ?_ (fun hHeld => ?_)
            · (try dsimp only); first | done | go_keep
            clear hK K
            try simp only [Act.put, List.setIfInBounds_toArray, List.set_cons_zero, List.set_cons_succ]
            refine wpAnyH_ready (rs := [14]) (by kernel_rfl) (by simp) ?_
            refine AllReadyH.cons (o := ⟨none, _, _, _, _, _⟩) rfl (fun K hK => ?_) ?_
            · go_simp
              refine hK.out _ _ ?_ (fun hHeld => ?_)
              · (try dsimp only); first | done | go_keep
              clear hK K
              try simp only [Act.put, List.setIfInBounds_toArray, List.set_cons_zero, List.set_cons_succ]
              refine wpAnyH_take (i := 15) (oi := ⟨some 14, _, _, _, _, _⟩) (v := ?_) rfl (by kernel_rfl) (by kernel_rfl) (by kernel_rfl) (fun _ _ _ h => h) (Or.inl ⟨by rfl, ?_⟩) (by assumption) ?_
              rotate_left
              · intro w hSw; (try dsimp only at hSw); go_simp; first | done | (with_reducible rfl) | (rw [if_pos (by omega)]) | (rw [if_neg (by omega)])
              try simp only [Act.put, List.setIfInBounds_toArray, List.set_cons_zero, List.set_cons_succ]
              refine wpAnyH_done (by kernel_rfl) ?_ _
              try go_wp2
              go_meet
              refine ⟨_, rfl, rfl, ?_, isext⟩
              first | exact holds4_new _ ⟨ta, tr, ts, tl⟩ _ | exact (hz.ext (W := y3.x) isext).write ⟨ta, tr, ts, tl⟩
            exact AllReadyH.nil
          exact AllReadyH.nil
        refine AllReadyH.cons (o := ⟨some 13, _, _, _, _, _⟩) rfl (fun K hK => ?_) ?_
        · go_simp
          refine hK.out _ _ ?_ (fun hHeld => ?_)
          · (try dsimp only); first | done | go_keep
          clear hK K
          try simp only [Act.put, List.setIfInBounds_toArray, List.set_cons_zero, List.set_cons_succ]
          refine wpAnyH_ready (rs := [9]) (by kernel_rfl) (by simp) ?_
          refine AllReadyH.cons (o := ⟨some 44, _, _, _, _, _⟩) rfl (fun K hK => ?_) ?_
          · go_simp
            go_at_call 43; refine Rets.use (HT _).out ?_; intro y3
            refine hK.out _ _ ?_ (fun hHeld => ?_)
            · (try dsimp only); first | done | go_keep
            clear hK K
            try simp only [Act.put, List.setIfInBounds_toArray, List.set_cons_zero, List.set_cons_succ]
            refine wpAnyH_take (i := 10) (oi := ⟨some 34, _, _, _, _, _⟩) (v := ?_) rfl (by kernel_rfl) (by kernel_rfl) (by kernel_rfl) (fun _ _ _ h => h) (Or.inl ⟨by rfl, ?_⟩) (by assumption) ?_
            rotate_left
            · intro w hSw; (try dsimp only at hSw); go_simp; first | done | (with_reducible rfl) | (rw [if_pos (by omega)]) | (rw [if_neg (by omega)])
            try simp only [Act.put, List.setIfInBounds_toArray, List.set_cons_zero, List.set_cons_succ]
            refine wpAnyH_take (i := 11) (oi := ⟨some 45, _, _, _, _, _⟩) (v := ?_) rfl (by kernel_rfl) (by kernel_rfl) (by kernel_rfl) (fun _ _ _ h => h) (Or.inl ⟨by rfl, ?_⟩) (by assumption) ?_
            rotate_left
            · intro w hSw; (try dsimp only at hSw); go_simp; first | done | (with_reducible rfl) | (rw [if_pos (by omega)]) | (rw [if_neg (by omega)])
            try simp only [Act.put, List.setIfInBounds_toArray, List.set_cons_zero, List.set_cons_succ]
            refine wpAnyH_take (i := 12) (oi := ⟨some 46, _, _, _, _, _⟩) (v := ?_) rfl (by kernel_rfl) (by kernel_rfl) (by kernel_rfl) (fun _ _ _ h => h) (Or.inl ⟨by rfl, ?_⟩) (by assumption) ?_
            rotate_left
            · intro w hSw; (try dsimp only at hSw); go_simp; first | done | (with_reducible rfl) | (rw [if_pos (by omega)]) | (rw [if_neg (by omega)])
            try simp only [Act.put, List.setIfInBounds_toArray, List.set_cons_zero, List.set_cons_succ]
            refine wpAnyH_ready (rs := [14]) (by kernel_rfl) (by simp) ?_
            refine AllReadyH.cons (o := ⟨none, _, _, _, _, _⟩) rfl (fun K hK => ?_) ?_
            · go_simp
              refine hK.out _ _ ?_ (fun hHeld => ?_)
              · (try dsimp only); first | done | go_keep
              clear hK K
              try simp only [Act.put, List.setIfInBounds_toArray, List.set_cons_zero, List.set_cons_succ]
              refine wpAnyH_take (i := 15) (oi := ⟨some 14, _, _, _, _, _⟩) (v := ?_) rfl (by kernel_rfl) (by kernel_rfl) (by kernel_rfl) (fun _ _ _ h => h) (Or.inl ⟨by rfl, ?_⟩) (by assumption) ?_
              rotate_left
              · intro w hSw; (try dsimp only at hSw); go_simp; first | done | (with_reducible rfl) | (rw [if_pos (by omega)]) | (rw [if_neg (by omega)])
              try simp only [Act.put, List.setIfInBounds_toArray, List.set_cons_zero, List.set_cons_succ]
              refine wpAnyH_done (by kernel_rfl) ?_ _
              try go_wp2
              go_meet
              refine ⟨_, rfl, rfl, ?_, isext⟩
              first | exact holds4_new _ ⟨ta, tr, ts, tl⟩ _ | exact (hz.ext (W := y3.x) isext).write ⟨ta, tr, ts, tl⟩
            exact AllReadyH.nil
          exact AllReadyH.nil
        exact AllReadyH.nil
      case rest =>
        obtain ⟨B, rfl, rfl, hB, hx2⟩ := hcut
        clear HT
        have hB2 := hB1.ext hx2
        clear hB1 e0 e1 e2 e3 g0 g1 g2 g3
        haveI : ExtC w wc := ⟨(y.hb.trans hx).trans hx2⟩
        haveI : ExtC y.x wc := ⟨hx.trans hx2⟩
        have hd : ∀ i, wc.cell? ⟨b, i, none⟩ = wr.cell? ⟨b, i, none⟩ := fun i => Below.cell (p := ⟨b, i, none⟩) hx2 (Nat.lt_of_lt_of_le m1 (Below.size (y.hb.trans hx)))
        have d9 := (hd _).trans c9
        clear hd c0 c1 c2 c3 c4 c5 c6 c7 c8 c9 c10
        have t0 := hB.c0
        have t1 := hB.c1
        have t2 := hB.c2
        have t3 := hB.c3
        have e0 := hB2.c0
        have e1 := hB2.c1
        have e2 := hB2.c2
        have e3 := hB2.c3
        have g0 := hB2.f0
        have g1 := hB2.f1
        have g2 := hB2.f2
        have g3 := hB2.f3
        rcases hcs with ⟨rfl, rfl⟩ | ⟨rfl, hs, rfl⟩ | ⟨rfl, rfl, rfl, rfl⟩ | ⟨rfl, rfl, rq, hle, rfl⟩ | ⟨rfl, rfl, rq, hle, rfl⟩
        · go_wp2
          go_roundw
          case rel => exact ⟨j + 1, _, by omega, by go_num, rfl, E, hB2.ext isext, isext⟩
          case measure => simp [intOf]; omega
        · clear hre
          go_wp2
          go_roundw
          case rel => exact ⟨j + 1, _, by omega, by go_num, rfl, E, hB2.ext isext, isext⟩
          case measure => simp [intOf]; omega
        · obtain rfl := hre rfl
          go_wp2
          go_roundw
          case rel => exact ⟨j + 1, _, by omega, by go_num, rfl, E, hB2.write ⟨ta, tr, ts, tl⟩, isext⟩
          case measure => simp [intOf]; omega
        · obtain rfl := hre rfl
          simp only at hle
          rw [rq]
          generalize (Rul.orNo q).at' = bt at *
          go_wp2
          go_roundw
          case rel => exact ⟨j + 1, _, by omega, by go_num, rfl, E, hB2.write ⟨ta, tr, ts, tl⟩, isext⟩
          case measure => simp [intOf]; omega
        · obtain rfl := hre rfl
          simp only at hle
          generalize hbt : (Rul.orNo q').at' = bt at *
          rw [rq]
          clear hbt
          go_wp2
          go_roundw
          case rel => exact ⟨j + 1, q', by omega, by go_num, by rw [rq], E, hB2.ext isext, isext⟩
          case measure => simp [intOf]; omega
    · have E : Hid (Rul.firstG l = q) := by have := he.out; rwa [List.take_of_length_le (by rw [Hn.out]; omega)] at this
      have EV : Hid ((Rul.orNo (Rul.firstG l)).l = (Rul.orNo q).l) := by show _ = _; rw [E.out]
      generalize Rul.orNo q = bb at *
      obtain ⟨ba, br, bs, bl⟩ := bb
      simp only at e0 e1 e2 e3
      go_wp2
      refine wp_region_past (by kernel_rfl) (by kernel_rfl) ?_
      repeat (go_big_quiet_step (fail))
      refine wpQuiet_nil ?_
      intro _
      go_wp2
      go_ret2
      exact ⟨by simp only; rw [EV.out]; rfl, done⟩
end Go.Proofs.YtcjnficcggjeiaaGreatDoor
