/- Walks of sources: the document's rule. -/
import Derived.Test.YtdhbgelijjlifaaGreatDoorSrcDocA
import Derived.Test.YtdhbgelijjlifaaGreatDoorSrcSet
import Derived.Test.YtdhbgelijjlifaaGreatDoorSrcRdQ
import Derived.Test.YtdhbgelijjlifaaGreatDoorCivWalkJ
import Derived.Deep.DeepCutAuto
import Derived.Deep.RegionHeld3
set_option linter.unusedVariables false
set_option linter.unusedSimpArgs false
namespace Go.Proofs.YtdhbgelijjlifaaGreatDoor
open Go.RowKit Go.Shelf
def faultS {α : Type} : Fault ⊕ α → Fault
 | .inl f => f
 | .inr _ => ⟨0, 0, 0⟩
def RuleEnd (w : World) (o : Fault ⊕ Rule) (e : Ending) (w' : World) : Prop :=
 ∃ (x : Rule) (y : Past w), e = .returned (.tuple #[.agg (ruleCells x).toArray, faultC (faultS o)]) ∧ (∀ r, o = .inr r → x = r) ∧ w' = y.x
theorem rule_bad {w w' : World} [h : ExtC w w'] {o : Fault ⊕ Rule} {x : Rule} {f : Fault} (ho : o = .inl f) : RuleEnd w o (.returned (.tuple #[.agg (ruleCells x).toArray, faultC f])) w' := by
 subst ho; exact ⟨x, ⟨w', h.ext⟩, rfl, (fun r hr => by cases hr), rfl⟩
theorem rule_good {w w' : World} [h : ExtC w w'] {o : Fault ⊕ Rule} {x : Rule} (ho : o = .inr x) : RuleEnd w o (.returned (.tuple #[.agg (ruleCells x).toArray, faultC ⟨0, 0, 0⟩])) w' := by
 subst ho; exact ⟨x, ⟨w', h.ext⟩, rfl, (fun r hr => by injection hr), rfl⟩
theorem ext_fill {W wB : World} {T : TypeId} {a0 a1 a2 a3 a4 a5 a6 a7 a8 a9 a10 b0 b1 b2 b3 b4 b5 b6 b7 b8 b9 b10 : Value} (h : Ext (W.alloc (.cells #[a0, a1, a2, a3, a4, a5, a6, a7, a8, a9, a10] T)) wB) : Ext (W.alloc (.cells #[b0, b1, b2, b3, b4, b5, b6, b7, b8, b9, b10] T)) (((((((((((wB.setCell ⟨W.heap.size, 0, none⟩ b0).setCell ⟨W.heap.size, 1, none⟩ b1).setCell ⟨W.heap.size, 2, none⟩ b2).setCell ⟨W.heap.size, 3, none⟩ b3).setCell ⟨W.heap.size, 4, none⟩ b4).setCell ⟨W.heap.size, 5, none⟩ b5).setCell ⟨W.heap.size, 6, none⟩ b6).setCell ⟨W.heap.size, 7, none⟩ b7).setCell ⟨W.heap.size, 8, none⟩ b8).setCell ⟨W.heap.size, 9, none⟩ b9).setCell ⟨W.heap.size, 10, none⟩ b10) := by
 have := ext_store (ext_store (ext_store (ext_store (ext_store (ext_store (ext_store (ext_store (ext_store (ext_store (ext_store (h) (p := ⟨W.heap.size, 0, none⟩) b0) (p := ⟨W.heap.size, 1, none⟩) b1) (p := ⟨W.heap.size, 2, none⟩) b2) (p := ⟨W.heap.size, 3, none⟩) b3) (p := ⟨W.heap.size, 4, none⟩) b4) (p := ⟨W.heap.size, 5, none⟩) b5) (p := ⟨W.heap.size, 6, none⟩) b6) (p := ⟨W.heap.size, 7, none⟩) b7) (p := ⟨W.heap.size, 8, none⟩) b8) (p := ⟨W.heap.size, 9, none⟩) b9) (p := ⟨W.heap.size, 10, none⟩) b10
 simpa [go_sem] using this
theorem Past.unset {w : World} (y : Past w) (n i : Nat) (v : Value) [InW n w] : (y.set n i v).x = y.x.setCell ⟨n, i, none⟩ v := rfl
theorem set11 {w : World} (y : Past w) (n : Nat) [InW n w] (v0 v1 v2 v3 v4 v5 v6 v7 v8 v9 v10 : Value) : (((((((((((y.set n 0 v0).set n 1 v1).set n 2 v2).set n 3 v3).set n 4 v4).set n 5 v5).set n 6 v6).set n 7 v7).set n 8 v8).set n 9 v9).set n 10 v10).x = (((((((((((y.x.setCell ⟨n, 0, none⟩ v0).setCell ⟨n, 1, none⟩ v1).setCell ⟨n, 2, none⟩ v2).setCell ⟨n, 3, none⟩ v3).setCell ⟨n, 4, none⟩ v4).setCell ⟨n, 5, none⟩ v5).setCell ⟨n, 6, none⟩ v6).setCell ⟨n, 7, none⟩ v7).setCell ⟨n, 8, none⟩ v8).setCell ⟨n, 9, none⟩ v9).setCell ⟨n, 10, none⟩ v10) := rfl
set_option maxRecDepth 100000 in
set_option maxHeartbeats 16000000 in
set_option synthInstance.maxSize 4000 in
set_option synthInstance.maxHeartbeats 400000 in
theorem drule_only (ws : List Src.Wd) (line : Int) (v : Value) (w : World) (hr : Reads w v ws.length (wordCells ws)) (hn10 : ws.length = 10) (hs : ∀ x ∈ ws, x.1.size ≤ 1000) (t1 : (Src.tx ws 3 == ⟨#[111, 110, 108, 121]⟩) = true) (t2 : ((Src.tx ws 3).toList == [111, 110, 108, 121]) = true) (t4 : (Src.tx ws 3 == ⟨#[109, 97, 120]⟩) = false) (t5 : ((Src.tx ws 3).toList == [109, 97, 120]) = false) (hto : Src.toP ws = Src.yearP (Src.tl ws 2)) :
 Calls Tryz.prog 55 #[v, .int .i64 line] w (RuleEnd w (Src.ruleP ws line)) := by
 have hlw : ∀ i, (Src.tx ws i).size ≤ 1000 := fun i => tx_size hs i
 have HB := fun e line a t w => Lib.hid (dbad_any e line a t w)
 have HY : ∀ k w, Hid (Rets Tryz.prog 92 #[.string (Src.tx ws k)] w (.int .i64 (Src.yearP (Src.tl ws k)))) := fun k w => Lib.hid (dyear_any (Src.tx ws k) (by have := hlw k; omega) w)
 have HSt : ∀ w, Hid (Rets Tryz.prog 13 #[.string (Src.tx ws 1)] w (.bool (Src.setB (Src.tl ws 1)))) := fun w => Lib.hid (dset_any (Src.tx ws 1) (by have := hlw 1; unfold maxLen; omega) w)
 have HLt : ∀ w, Hid (Rets Tryz.prog 74 #[.string (Src.tx ws 9)] w (.bool (Src.madeB (Src.tl ws 9) 8 [43, 45]))) := fun w => Lib.hid (dletters_any (Src.tx ws 9) (by have := hlw 9; unfold maxLen; omega) w)
 have HOf : ∀ w, Hid (Rets Tryz.prog 90 #[.string (Src.tx ws 8), .int .i64 43200] w (.tuple #[.int .i64 (Src.offP (Src.tl ws 8) 43200).1, .int .i64 (Src.offP (Src.tl ws 8) 43200).2])) := fun w => Lib.hid (doffset_any (Src.tx ws 8) 43200 (by omega) (by omega) (by have := hlw 8; omega) w)
 have HSp : ∀ w', Ext w w' → Hid (Rets Tryz.prog 93 #[v, .int .i64 5, .int .i64 line] w' (dspotV ws 5 line)) := fun w' hx => Lib.hid (dspot_any line ws 5 (by omega) (by omega) (by omega) hs v w' (hr.ext hx))
 have hres : ∃ o, Src.ruleP ws line = o := ⟨_, rfl⟩
 obtain ⟨OUT, hres⟩ := hres
 rw [hres]
 have Hres := Lib.hid hres
 clear hres
 rw [hn10] at hr
 rcases hr with ⟨_, _, e9, h9, _⟩ | ⟨bl, o, c9, e9, k1, k2, m1', hcw⟩
 · exact absurd h9 (by omega)
 subst e9
 haveI : InW bl w := ⟨m1'⟩
 obtain ⟨d1, q1⟩ := wd_at hcw 1 (by omega)
 obtain ⟨d2, q2⟩ := wd_at hcw 2 (by omega)
 obtain ⟨d3, q3⟩ := wd_at hcw 3 (by omega)
 obtain ⟨d4, q4⟩ := wd_at hcw 4 (by omega)
 obtain ⟨d8, q8⟩ := wd_at hcw 8 (by omega)
 obtain ⟨d9, q9⟩ := wd_at hcw 9 (by omega)
 clear hcw
 simp only [Nat.reduceMul] at d1 q1 d2 q2 d3 q3 d4 q4 d8 q8 d9 q9
 go_enter Tryz.func55, Tryz.ntmps55
 go_upto_region 1 with fail
 go_cut [6] (fun s6 wx => ∃ (W : World) (N : Nat) (z : Past (W.alloc (.cells #[.string (Src.tx ws 1), .int .i64 (Src.yearP (Src.tl ws 2)), .int .i64 (Src.yearP (Src.tl ws 3)), .int .i64 0, .int .i64 0, .int .i64 0, .int .i64 0, .int .i64 0, .int .i64 0, .int .i64 0, .string (Src.tx ws 9)] 61))), N = W.heap.size ∧ s6 = .pointer (some ⟨N, 0, none⟩) ∧ Ext ((w.alloc (.cells #[.string ⟨#[]⟩, .int .i64 0, .int .i64 0, .int .i64 0, .int .i64 0, .int .i64 0, .int .i64 0, .int .i64 0, .int .i64 0, .int .i64 0, .string ⟨#[]⟩] 61)).alloc (.cells #[.int .i64 0, .int .i64 0, .int .i64 0] 29)) W ∧ wx = z.x)
 case first =>
  refine wp_region_held_drew (S := fun w' => ∃ y : Past w, w' = y.x) (by kernel_rfl) (fin isext) (fun hHeld => ?_)
  refine wpAnyH_take (i := 0) (oi := ⟨some 11, _, _, _, _, _⟩) (v := ?_) rfl (by kernel_rfl) (by kernel_rfl) (by kernel_rfl) (fun _ _ _ h => h) (Or.inl ⟨by rfl, ?_⟩) (by assumption) ?_
  rotate_left
  · rintro w ⟨yS, rfl⟩; go_simp; first | done | with_reducible rfl | rw [if_pos (by omega)] | rw [if_neg (by omega)]
  try simp only [Act.put, putA, putZ, putS]
  refine wpAnyH_take (i := 1) (oi := ⟨some 12, _, _, _, _, _⟩) (v := ?_) rfl (by kernel_rfl) (by kernel_rfl) (by kernel_rfl) (fun _ _ _ h => h) (Or.inl ⟨by rfl, ?_⟩) (by assumption) ?_
  rotate_left
  · rintro w ⟨yS, rfl⟩; go_simp; first | done | with_reducible rfl | rw [if_pos (by omega)] | rw [if_neg (by omega)]
  try simp only [Act.put, putA, putZ, putS]
  refine wpAnyH_take (i := 2) (oi := ⟨some 13, _, _, _, _, _⟩) (v := ?_) rfl (by kernel_rfl) (by kernel_rfl) (by kernel_rfl) (fun _ _ _ h => h) (Or.inl ⟨by rfl, ?_⟩) (by assumption) ?_
  rotate_left
  · rintro w ⟨yS, rfl⟩; go_simp; first | done | with_reducible rfl | rw [if_pos (by omega)] | rw [if_neg (by omega)]
  try simp only [Act.put, putA, putZ, putS]
  refine wpAnyH_take (i := 3) (oi := ⟨some 14, _, _, _, _, _⟩) (v := ?_) rfl (by kernel_rfl) (by kernel_rfl) (by kernel_rfl) (fun _ _ _ h => h) (Or.inl ⟨by rfl, ?_⟩) (by assumption) ?_
  rotate_left
  · rintro w ⟨yS, rfl⟩; go_simp; first | done | with_reducible rfl | rw [if_pos (by omega)] | rw [if_neg (by omega)]
  try simp only [Act.put, putA, putZ, putS]
  refine wpAnyH_take (i := 4) (oi := ⟨some 15, _, _, _, _, _⟩) (v := ?_) rfl (by kernel_rfl) (by kernel_rfl) (by kernel_rfl) (fun _ _ _ h => h) (Or.inl ⟨by rfl, ?_⟩) (by assumption) ?_
  rotate_left
  · rintro w ⟨yS, rfl⟩; go_simp; first | done | with_reducible rfl | rw [if_pos (by omega)] | rw [if_neg (by omega)]
  try simp only [Act.put, putA, putZ, putS]
  refine wpAnyH_take (i := 5) (oi := ⟨some 16, _, _, _, _, _⟩) (v := ?_) rfl (by kernel_rfl) (by kernel_rfl) (by kernel_rfl) (fun _ _ _ h => h) (Or.inl ⟨by rfl, ?_⟩) (by assumption) ?_
  rotate_left
  · rintro w ⟨yS, rfl⟩; go_simp; first | done | with_reducible rfl | rw [if_pos (by omega)] | rw [if_neg (by omega)]
  try simp only [Act.put, putA, putZ, putS]
  refine wpAnyH_take (i := 6) (oi := ⟨some 17, _, _, _, _, _⟩) (v := ?_) rfl (by kernel_rfl) (by kernel_rfl) (by kernel_rfl) (fun _ _ _ h => h) (Or.inl ⟨by rfl, ?_⟩) (by assumption) ?_
  rotate_left
  · rintro w ⟨yS, rfl⟩; go_simp; first | done | with_reducible rfl | rw [if_pos (by omega)] | rw [if_neg (by omega)]
  try simp only [Act.put, putA, putZ, putS]
  refine wpAnyH_take (i := 7) (oi := ⟨some 18, _, _, _, _, _⟩) (v := ?_) rfl (by kernel_rfl) (by kernel_rfl) (by kernel_rfl) (fun _ _ _ h => h) (Or.inl ⟨by rfl, ?_⟩) (by assumption) ?_
  rotate_left
  · rintro w ⟨yS, rfl⟩; go_simp; first | done | with_reducible rfl | rw [if_pos (by omega)] | rw [if_neg (by omega)]
  try simp only [Act.put, putA, putZ, putS]
  refine wpAnyH_take (i := 9) (oi := ⟨some 20, _, _, _, _, _⟩) (v := ?_) rfl (by kernel_rfl) (by kernel_rfl) (by kernel_rfl) (fun _ _ _ h => h) (Or.inl ⟨by rfl, ?_⟩) (by assumption) ?_
  rotate_left
  · rintro w ⟨yS, rfl⟩; go_simp; first | done | with_reducible rfl | rw [if_pos (by omega)] | rw [if_neg (by omega)]
  try simp only [Act.put, putA, putZ, putS]
  refine wpAnyH_take (i := 10) (oi := ⟨some 21, _, _, _, _, _⟩) (v := ?_) rfl (by kernel_rfl) (by kernel_rfl) (by kernel_rfl) (fun _ _ _ h => h) (Or.inl ⟨by rfl, ?_⟩) (by assumption) ?_
  rotate_left
  · rintro w ⟨yS, rfl⟩; go_simp; first | done | with_reducible rfl | rw [if_pos (by omega)] | rw [if_neg (by omega)]
  try simp only [Act.put, putA, putZ, putS]
  refine wpAnyH_take (i := 11) (oi := ⟨some 22, _, _, _, _, _⟩) (v := ?_) rfl (by kernel_rfl) (by kernel_rfl) (by kernel_rfl) (fun _ _ _ h => h) (Or.inl ⟨by rfl, ?_⟩) (by assumption) ?_
  rotate_left
  · rintro w ⟨yS, rfl⟩; go_simp; first | done | with_reducible rfl | rw [if_pos (by omega)] | rw [if_neg (by omega)]
  try simp only [Act.put, putA, putZ, putS]
  refine wpAnyH_take (i := 12) (oi := ⟨some 23, _, _, _, _, _⟩) (v := ?_) rfl (by kernel_rfl) (by kernel_rfl) (by kernel_rfl) (fun _ _ _ h => h) (Or.inl ⟨by rfl, ?_⟩) (by assumption) ?_
  rotate_left
  · rintro w ⟨yS, rfl⟩; go_simp; first | done | with_reducible rfl | rw [if_pos (by omega)] | rw [if_neg (by omega)]
  try simp only [Act.put, putA, putZ, putS]
  refine wpAnyH_take (i := 14) (oi := ⟨some 25, _, _, _, _, _⟩) (v := ?_) rfl (by kernel_rfl) (by kernel_rfl) (by kernel_rfl) (fun _ _ _ h => h) (Or.inl ⟨by rfl, ?_⟩) (by assumption) ?_
  rotate_left
  · rintro w ⟨yS, rfl⟩; go_simp; first | done | with_reducible rfl | rw [if_pos (by omega)] | rw [if_neg (by omega)]
  try simp only [Act.put, putA, putZ, putS]
  refine wpAnyH_take (i := 15) (oi := ⟨some 26, _, _, _, _, _⟩) (v := ?_) rfl (by kernel_rfl) (by kernel_rfl) (by kernel_rfl) (fun _ _ _ h => h) (Or.inl ⟨by rfl, ?_⟩) (by assumption) ?_
  rotate_left
  · rintro w ⟨yS, rfl⟩; go_simp; first | done | with_reducible rfl | rw [if_pos (by omega)] | rw [if_neg (by omega)]
  try simp only [Act.put, putA, putZ, putS]
  refine wpAnyH_take (i := 16) (oi := ⟨some 27, _, _, _, _, _⟩) (v := ?_) rfl (by kernel_rfl) (by kernel_rfl) (by kernel_rfl) (fun _ _ _ h => h) (Or.inl ⟨by rfl, ?_⟩) (by assumption) ?_
  rotate_left
  · rintro w ⟨yS, rfl⟩; go_simp; first | done | with_reducible rfl | rw [if_pos (by omega)] | rw [if_neg (by omega)]
  try simp only [Act.put, putA, putZ, putS]
  refine wpAnyH_take (i := 17) (oi := ⟨some 28, _, _, _, _, _⟩) (v := ?_) rfl (by kernel_rfl) (by kernel_rfl) (by kernel_rfl) (fun _ _ _ h => h) (Or.inl ⟨by rfl, ?_⟩) (by assumption) ?_
  rotate_left
  · rintro w ⟨yS, rfl⟩; go_simp; first | done | with_reducible rfl | rw [if_pos (by omega)] | rw [if_neg (by omega)]
  try simp only [Act.put, putA, putZ, putS]
  refine wpAnyH_ready (rs := [8, 19]) (by kernel_rfl) (by simp) ?_
  refine AllReadyH.cons (o := ⟨some 19, _, _, _, _, _⟩) rfl (fun K hK => ?_) ?_
  · go_simp
    refine Rets.use (HY _ _).out ?_; intro yA
    refine hK.out _ _ ?_ (fun hHeld => ?_)
    · exact fin isext
    clear hK K
    try simp only [Act.put, putA, putZ, putS]
    refine wpAnyH_ready (rs := [13, 19]) (by kernel_rfl) (by simp) ?_
    refine AllReadyH.cons (o := ⟨some 24, _, _, _, _, _⟩) rfl (fun K hK => ?_) ?_
    · go_simp
      refine Rets.use (HY _ _).out ?_; intro yB
      refine hK.out _ _ ?_ (fun hHeld => ?_)
      · exact fin isext
      clear hK K
      try simp only [Act.put, putA, putZ, putS]
      refine wpAnyH_take (i := 18) (oi := ⟨some 29, _, _, _, _, _⟩) (v := ?_) rfl (by kernel_rfl) (by kernel_rfl) (by kernel_rfl) (fun _ _ _ h => h) (Or.inl ⟨by rfl, ?_⟩) (by assumption) ?_
      rotate_left
      · rintro w ⟨yS, rfl⟩; go_simp; first | done | with_reducible rfl | rw [if_pos (by omega)] | rw [if_neg (by omega)]
      try simp only [Act.put, putA, putZ, putS]
      refine wpAnyH_ready (rs := [19]) (by kernel_rfl) (by simp) ?_
      refine AllReadyH.cons (o := ⟨some 6, _, _, _, _, _⟩) rfl (fun K hK => ?_) ?_
      · go_simp
        refine hK.out _ _ ?_ (fun hHeld => ?_)
        · exact fin isext
        clear hK K
        try simp only [Act.put, putA, putZ, putS]
        refine wpAnyH_ready (rs := [20]) (by kernel_rfl) (by simp) ?_
        refine AllReadyH.cons (o := ⟨none, _, _, _, _, _⟩) rfl (fun K hK => ?_) ?_
        · go_simp
          refine hK.out _ _ ?_ (fun hHeld => ?_)
          · exact fin isext
          clear hK K
          try simp only [Act.put, putA, putZ, putS]
          refine wpAnyH_done (by kernel_rfl) ?_ _
          go_wp2_with fail
          go_meet
          exact ⟨yB.x, _, ⟨_, Ext.refl _⟩, rfl, rfl, isext, rfl⟩
        exact AllReadyH.nil
      exact AllReadyH.nil
    refine AllReadyH.cons (o := ⟨some 6, _, _, _, _, _⟩) rfl (fun K hK => ?_) ?_
    · go_simp
      refine hK.out _ _ ?_ (fun hHeld => ?_)
      · exact fin isext
      clear hK K
      try simp only [Act.put, putA, putZ, putS]
      refine wpAnyH_ready (rs := [13]) (by kernel_rfl) (by simp) ?_
      refine AllReadyH.cons (o := ⟨some 24, _, _, _, _, _⟩) rfl (fun K hK => ?_) ?_
      · go_simp
        refine Rets.use (HY _ _).out ?_; intro yB
        refine hK.out _ _ ?_ (fun hHeld => ?_)
        · exact fin isext
        clear hK K
        try simp only [Act.put, putA, putZ, putS]
        refine wpAnyH_take (i := 18) (oi := ⟨some 29, _, _, _, _, _⟩) (v := ?_) rfl (by kernel_rfl) (by kernel_rfl) (by kernel_rfl) (fun _ _ _ h => h) (Or.inl ⟨by rfl, ?_⟩) (by assumption) ?_
        rotate_left
        · rintro w ⟨yS, rfl⟩; go_simp; first | done | with_reducible rfl | rw [if_pos (by omega)] | rw [if_neg (by omega)]
        try simp only [Act.put, putA, putZ, putS]
        refine wpAnyH_ready (rs := [20]) (by kernel_rfl) (by simp) ?_
        refine AllReadyH.cons (o := ⟨none, _, _, _, _, _⟩) rfl (fun K hK => ?_) ?_
        · go_simp
          refine hK.out _ _ ?_ (fun hHeld => ?_)
          · exact fin isext
          clear hK K
          try simp only [Act.put, putA, putZ, putS]
          refine wpAnyH_done (by kernel_rfl) ?_ _
          go_wp2_with fail
          go_meet
          exact ⟨yA.x, _, ⟨_, ext_fill (W := yA.x) (wB := yB.x) (isext (w := yA.x.alloc (.cells #[.string ⟨#[]⟩, .int .i64 0, .int .i64 0, .int .i64 0, .int .i64 0, .int .i64 0, .int .i64 0, .int .i64 0, .int .i64 0, .int .i64 0, .string ⟨#[]⟩] 61)))⟩, rfl, rfl, isext, by simp only [Past.unset]⟩
        exact AllReadyH.nil
      exact AllReadyH.nil
    exact AllReadyH.nil
  refine AllReadyH.cons (o := ⟨some 6, _, _, _, _, _⟩) rfl (fun K hK => ?_) ?_
  · go_simp
    refine hK.out _ _ ?_ (fun hHeld => ?_)
    · exact fin isext
    clear hK K
    try simp only [Act.put, putA, putZ, putS]
    refine wpAnyH_ready (rs := [8]) (by kernel_rfl) (by simp) ?_
    refine AllReadyH.cons (o := ⟨some 19, _, _, _, _, _⟩) rfl (fun K hK => ?_) ?_
    · go_simp
      refine Rets.use (HY _ _).out ?_; intro yA
      refine hK.out _ _ ?_ (fun hHeld => ?_)
      · exact fin isext
      clear hK K
      try simp only [Act.put, putA, putZ, putS]
      refine wpAnyH_ready (rs := [13]) (by kernel_rfl) (by simp) ?_
      refine AllReadyH.cons (o := ⟨some 24, _, _, _, _, _⟩) rfl (fun K hK => ?_) ?_
      · go_simp
        refine Rets.use (HY _ _).out ?_; intro yB
        refine hK.out _ _ ?_ (fun hHeld => ?_)
        · exact fin isext
        clear hK K
        try simp only [Act.put, putA, putZ, putS]
        refine wpAnyH_take (i := 18) (oi := ⟨some 29, _, _, _, _, _⟩) (v := ?_) rfl (by kernel_rfl) (by kernel_rfl) (by kernel_rfl) (fun _ _ _ h => h) (Or.inl ⟨by rfl, ?_⟩) (by assumption) ?_
        rotate_left
        · rintro w ⟨yS, rfl⟩; go_simp; first | done | with_reducible rfl | rw [if_pos (by omega)] | rw [if_neg (by omega)]
        try simp only [Act.put, putA, putZ, putS]
        refine wpAnyH_ready (rs := [20]) (by kernel_rfl) (by simp) ?_
        refine AllReadyH.cons (o := ⟨none, _, _, _, _, _⟩) rfl (fun K hK => ?_) ?_
        · go_simp
          refine hK.out _ _ ?_ (fun hHeld => ?_)
          · exact fin isext
          clear hK K
          try simp only [Act.put, putA, putZ, putS]
          refine wpAnyH_done (by kernel_rfl) ?_ _
          go_wp2_with fail
          go_meet
          exact ⟨((w.alloc (.cells #[.string ⟨#[]⟩, .int .i64 0, .int .i64 0, .int .i64 0, .int .i64 0, .int .i64 0, .int .i64 0, .int .i64 0, .int .i64 0, .int .i64 0, .string ⟨#[]⟩] 61)).alloc (.cells #[.int .i64 0, .int .i64 0, .int .i64 0] 29)), _, ⟨_, ext_fill (W := ((w.alloc (.cells #[.string ⟨#[]⟩, .int .i64 0, .int .i64 0, .int .i64 0, .int .i64 0, .int .i64 0, .int .i64 0, .int .i64 0, .int .i64 0, .int .i64 0, .string ⟨#[]⟩] 61)).alloc (.cells #[.int .i64 0, .int .i64 0, .int .i64 0] 29))) (wB := yB.x) (isext (w := ((w.alloc (.cells #[.string ⟨#[]⟩, .int .i64 0, .int .i64 0, .int .i64 0, .int .i64 0, .int .i64 0, .int .i64 0, .int .i64 0, .int .i64 0, .int .i64 0, .string ⟨#[]⟩] 61)).alloc (.cells #[.int .i64 0, .int .i64 0, .int .i64 0] 29)).alloc (.cells #[.string ⟨#[]⟩, .int .i64 0, .int .i64 0, .int .i64 0, .int .i64 0, .int .i64 0, .int .i64 0, .int .i64 0, .int .i64 0, .int .i64 0, .string ⟨#[]⟩] 61)))⟩, by simp, rfl, isext, by (simp only [World.size_alloc]; exact set11 ..)⟩
        exact AllReadyH.nil
      exact AllReadyH.nil
    exact AllReadyH.nil
  exact AllReadyH.nil
 case rest =>
  obtain ⟨W, N, z, rfl, rfl, hxW, rfl⟩ := hcut
  haveI : ExtC ((w.alloc (.cells #[.string ⟨#[]⟩, .int .i64 0, .int .i64 0, .int .i64 0, .int .i64 0, .int .i64 0, .int .i64 0, .int .i64 0, .int .i64 0, .int .i64 0, .string ⟨#[]⟩] 61)).alloc (.cells #[.int .i64 0, .int .i64 0, .int .i64 0] 29)) W := ⟨hxW⟩
  obtain ⟨yw, rfl⟩ := fin hxW
  cases hs1 : Src.setB (Src.tl ws 1)
  · rw [hs1] at HSt
    go_wp2_with (go_at_call 13; refine Rets.use (HSt _).out ?_; intro y1)
    refine wp_region_past_tail 6 (by kernel_rfl) (by kernel_rfl) ?_
    simp only [List.take_succ_cons, List.take_zero, List.drop_succ_cons, List.drop_zero]
    repeat (go_big_quiet_step ((go_at_call 52; exact Rets.quiet (HB _ _ _ _ _).out)))
    refine wpQuiet_nil ?_
    intro yE
    go_wp2
    refine bodyPost_ret (v := .tuple #[.agg (ruleCells ⟨Src.tx ws 1, Src.yearP (Src.tl ws 2), Src.yearP (Src.tl ws 3), 0, 0, 0, 0, 0, 0, 0, Src.tx ws 9⟩).toArray, faultC ⟨6, line, Src.pt ws 1⟩]) ?_ rfl (rule_bad (x := ⟨Src.tx ws 1, Src.yearP (Src.tl ws 2), Src.yearP (Src.tl ws 3), 0, 0, 0, 0, 0, 0, 0, Src.tx ws 9⟩) (by rw [← Hres.out]; simp [Src.ruleP, hs1]))
    simp [results, Tryz.results55, go_sem, ruleCells]
  rw [hs1] at HSt
  by_cases u0 : Src.yearP (Src.tl ws 2) = 0
  · have g0 : (Src.yearP (Src.tl ws 2) == 0) = true := by simpa using u0
    have U0 := Lib.hid u0
    clear u0
    go_wp2_with (go_at_call 13; refine Rets.use (HSt _).out ?_; intro y1)
    refine wp_region_past_tail 6 (by kernel_rfl) (by kernel_rfl) ?_
    simp only [List.take_succ_cons, List.take_zero, List.drop_succ_cons, List.drop_zero]
    repeat (go_big_quiet_step ((go_at_call 52; exact Rets.quiet (HB _ _ _ _ _).out)))
    refine wpQuiet_nil ?_
    intro yE
    go_wp2
    refine bodyPost_ret (v := .tuple #[.agg (ruleCells ⟨Src.tx ws 1, Src.yearP (Src.tl ws 2), Src.yearP (Src.tl ws 3), 0, 0, 0, 0, 0, 0, 0, Src.tx ws 9⟩).toArray, faultC ⟨6, line, Src.pt ws 2⟩]) ?_ rfl (rule_bad (x := ⟨Src.tx ws 1, Src.yearP (Src.tl ws 2), Src.yearP (Src.tl ws 3), 0, 0, 0, 0, 0, 0, 0, Src.tx ws 9⟩) (by rw [← Hres.out]; simp [Src.ruleP, hs1, U0.out]))
    simp [results, Tryz.results55, go_sem, ruleCells]
  have g0 : (Src.yearP (Src.tl ws 2) == 0) = false := by simpa using u0
  have hT0 : ¬ Src.toP ws = 0 := by rw [hto]; exact u0
  rcases lit_cases (Src.tx ws 4) ⟨#[45]⟩ [45] (by decide +kernel) with ⟨l1, l2, l3⟩ | ⟨l1, l2, l3⟩
  rotate_left
  · have e4 : ¬ Src.tl ws 4 = [45] := l3
    clear l3
    have l4 : (Src.tx ws 4 != ⟨#[45]⟩) = true := by unfold bne; rw [l1]; rfl
    have l5 : ((Src.tx ws 4).toList != [45]) = true := by unfold bne; rw [l2]; rfl
    go_wp2_with (go_at_call 13; refine Rets.use (HSt _).out ?_; intro y1)
    refine wp_region_past_tail 6 (by kernel_rfl) (by kernel_rfl) ?_
    simp only [List.take_succ_cons, List.take_zero, List.drop_succ_cons, List.drop_zero]
    repeat (go_big_quiet_step ((go_at_call 52; exact Rets.quiet (HB _ _ _ _ _).out)))
    refine wpQuiet_nil ?_
    intro yE
    go_wp2
    refine bodyPost_ret (v := .tuple #[.agg (ruleCells ⟨Src.tx ws 1, Src.yearP (Src.tl ws 2), (Src.yearP (Src.tl ws 2)), 0, 0, 0, 0, 0, 0, 0, Src.tx ws 9⟩).toArray, faultC ⟨6, line, Src.pt ws 4⟩]) ?_ rfl (rule_bad (x := ⟨Src.tx ws 1, Src.yearP (Src.tl ws 2), (Src.yearP (Src.tl ws 2)), 0, 0, 0, 0, 0, 0, 0, Src.tx ws 9⟩) (by rw [← Hres.out]; simp [Src.ruleP, hs1, u0, hto, hT0, e4]))
    simp [results, Tryz.results55, go_sem, ruleCells]
  have e4 : Src.tl ws 4 = [45] := by unfold Src.tl; rw [l3]
  clear l3
  have l4 : (Src.tx ws 4 != ⟨#[45]⟩) = false := by unfold bne; rw [l1]; rfl
  have l5 : ((Src.tx ws 4).toList != [45]) = false := by unfold bne; rw [l2]; rfl
  go_wp2_with (go_at_call 13; refine Rets.use (HSt _).out ?_; intro y1)
  go_at_call 93
  unfold dspotV at HSp
  cases hsp : Src.spotP ws 5 with
  | inl q =>
    obtain ⟨k, e⟩ := q
    obtain ⟨j, rfl, hj, rfl⟩ := Src.spot_inl hsp
    rw [hsp] at HSp
    simp only [Int.toNat_natCast] at HSp
    refine Rets.use (HSp _ isext).out ?_
    intro y2
    go_wp2_with fail

    refine wp_region_held_drew (S := fun w' => w'.cell? ⟨yw.x.heap.size, 0, none⟩ = some (.string (Src.tx ws 1)) ∧ w'.cell? ⟨yw.x.heap.size, 1, none⟩ = some (.int .i64 (Src.yearP (Src.tl ws 2))) ∧ w'.cell? ⟨yw.x.heap.size, 2, none⟩ = some (.int .i64 (Src.yearP (Src.tl ws 2))) ∧ w'.cell? ⟨yw.x.heap.size, 3, none⟩ = some (.int .i64 0) ∧ w'.cell? ⟨yw.x.heap.size, 4, none⟩ = some (.int .i64 0) ∧ w'.cell? ⟨yw.x.heap.size, 5, none⟩ = some (.int .i64 0) ∧ w'.cell? ⟨yw.x.heap.size, 6, none⟩ = some (.int .i64 0) ∧ w'.cell? ⟨yw.x.heap.size, 7, none⟩ = some (.int .i64 0) ∧ w'.cell? ⟨yw.x.heap.size, 8, none⟩ = some (.int .i64 0) ∧ w'.cell? ⟨yw.x.heap.size, 9, none⟩ = some (.int .i64 0) ∧ w'.cell? ⟨yw.x.heap.size, 10, none⟩ = some (.string (Src.tx ws 9)) ∧ w'.cell? ⟨y2.x.heap.size + 1, 0, none⟩ = some (.int .i64 6) ∧ w'.cell? ⟨y2.x.heap.size + 1, 1, none⟩ = some (.int .i64 line) ∧ w'.cell? ⟨y2.x.heap.size + 1, 2, none⟩ = some (.int .i64 (Src.pt ws (5 + j)))) (by kernel_rfl) (by (try dsimp only); ((repeat' apply And.intro) <;> (go_simp; try (rw [cell_alloc_eq _ _ (by simp [Past.set])]; rfl)))) (fun hHeld => ?_)
    refine wpAnyH_take (i := 0) (oi := ⟨some 92, _, _, _, _, _⟩) (v := ?_) rfl (by kernel_rfl) (by kernel_rfl) (by kernel_rfl) (fun _ _ _ h => h) (Or.inl ⟨by rfl, ?_⟩) (by assumption) ?_
    rotate_left
    · intro w hSw; (try dsimp only at hSw); go_simp; first | done | with_reducible rfl | rw [if_pos (by omega)] | rw [if_neg (by omega)]
    try simp only [Act.put, putA, putZ, putS]
    refine wpAnyH_take (i := 1) (oi := ⟨some 93, _, _, _, _, _⟩) (v := ?_) rfl (by kernel_rfl) (by kernel_rfl) (by kernel_rfl) (fun _ _ _ h => h) (Or.inl ⟨by rfl, ?_⟩) (by assumption) ?_
    rotate_left
    · intro w hSw; (try dsimp only at hSw); go_simp; first | done | with_reducible rfl | rw [if_pos (by omega)] | rw [if_neg (by omega)]
    try simp only [Act.put, putA, putZ, putS]
    refine wpAnyH_ready (rs := [2]) (by kernel_rfl) (by simp) ?_
    refine AllReadyH.cons (o := ⟨none, _, _, _, _, _⟩) rfl (fun K hK => ?_) ?_
    · go_simp
      refine hK.out _ _ ?_ (fun hHeld => ?_)
      · (try dsimp only); ((repeat' apply And.intro) <;> (go_simp; try (rw [cell_alloc_eq _ _ (by simp [Past.set])]; rfl)))
      clear hK K
      try simp only [Act.put, putA, putZ, putS]
      refine wpAnyH_ready (rs := [3]) (by kernel_rfl) (by simp) ?_
      refine AllReadyH.cons (o := ⟨none, _, _, _, _, _⟩) rfl (fun K hK => ?_) ?_
      · go_simp
        refine hK.out _ _ ?_ (fun hHeld => ?_)
        · (try dsimp only); ((repeat' apply And.intro) <;> (go_simp; try (rw [cell_alloc_eq _ _ (by simp [Past.set])]; rfl)))
        clear hK K
        try simp only [Act.put, putA, putZ, putS]
        refine wpAnyH_done (by kernel_rfl) ?_ _
        go_wp2
        refine bodyPost_ret (v := .tuple #[.agg (ruleCells ⟨Src.tx ws 1, Src.yearP (Src.tl ws 2), (Src.yearP (Src.tl ws 2)), 0, 0, 0, 0, 0, 0, 0, Src.tx ws 9⟩).toArray, faultC ⟨6, line, Src.pt ws (5 + j)⟩]) ?_ rfl (rule_bad (x := ⟨Src.tx ws 1, Src.yearP (Src.tl ws 2), (Src.yearP (Src.tl ws 2)), 0, 0, 0, 0, 0, 0, 0, Src.tx ws 9⟩) (by rw [← Hres.out]; simp [Src.ruleP, hs1, u0, hto, hT0, e4, hsp]))
        simp [results, Tryz.results55, go_sem, ruleCells]
      exact AllReadyH.nil
    exact AllReadyH.nil
  | inr x =>
    obtain ⟨xm, xk, xwd, xd, xt, xr⟩ := x
    rw [hsp] at HSp
    simp only [Spot.cells] at HSp
    refine Rets.use (HSp _ isext).out ?_
    intro y2
    go_wp2_with fail
    go_at_call 90
    refine Rets.use (HOf _).out ?_
    intro y3
    by_cases o0 : (Src.offP (Src.tl ws 8) 43200).2 = 0
    rotate_left
    · have go : ((Src.offP (Src.tl ws 8) 43200).2 != 0) = true := by simpa using o0
      go_wp2_with fail
      refine wp_region_past_tail 7 (by kernel_rfl) (by kernel_rfl) ?_
      simp only [List.take_succ_cons, List.take_zero, List.drop_succ_cons, List.drop_zero]
      repeat (go_big_quiet_step ((go_at_call 52; exact Rets.quiet (HB _ _ _ _ _).out)))
      refine wpQuiet_nil ?_
      intro yE
      go_wp2
      refine bodyPost_ret (v := .tuple #[.agg (ruleCells ⟨Src.tx ws 1, Src.yearP (Src.tl ws 2), (Src.yearP (Src.tl ws 2)), xm, xk, xwd, xd, xt, xr, 0, Src.tx ws 9⟩).toArray, faultC ⟨(Src.offP (Src.tl ws 8) 43200).2, line, Src.pt ws 8⟩]) ?_ rfl (rule_bad (x := ⟨Src.tx ws 1, Src.yearP (Src.tl ws 2), (Src.yearP (Src.tl ws 2)), xm, xk, xwd, xd, xt, xr, 0, Src.tx ws 9⟩) (by rw [← Hres.out]; simp [Src.ruleP, hs1, u0, hto, hT0, e4, hsp, o0]))
      simp [results, Tryz.results55, go_sem, ruleCells]
    have go : ((Src.offP (Src.tl ws 8) 43200).2 != 0) = false := by simpa using o0
    go_wp2_with fail
    go_at_call 74
    cases hm9 : Src.madeB (Src.tl ws 9) 8 [43, 45]
    · rw [hm9] at HLt
      refine Rets.use (HLt _).out ?_
      intro y4
      go_wp2_with fail
      refine wp_region_past_tail 6 (by kernel_rfl) (by kernel_rfl) ?_
      simp only [List.take_succ_cons, List.take_zero, List.drop_succ_cons, List.drop_zero]
      repeat (go_big_quiet_step ((go_at_call 52; exact Rets.quiet (HB _ _ _ _ _).out)))
      refine wpQuiet_nil ?_
      intro yE
      go_wp2
      refine bodyPost_ret (v := .tuple #[.agg (ruleCells ⟨Src.tx ws 1, Src.yearP (Src.tl ws 2), (Src.yearP (Src.tl ws 2)), xm, xk, xwd, xd, xt, xr, (Src.offP (Src.tl ws 8) 43200).1, Src.tx ws 9⟩).toArray, faultC ⟨6, line, Src.pt ws 9⟩]) ?_ rfl (rule_bad (x := ⟨Src.tx ws 1, Src.yearP (Src.tl ws 2), (Src.yearP (Src.tl ws 2)), xm, xk, xwd, xd, xt, xr, (Src.offP (Src.tl ws 8) 43200).1, Src.tx ws 9⟩) (by rw [← Hres.out]; simp [Src.ruleP, hs1, u0, hto, hT0, e4, hsp, o0, hm9]))
      simp [results, Tryz.results55, go_sem, ruleCells]
    rw [hm9] at HLt
    refine Rets.use (HLt _).out ?_
    intro y4
    rcases lit_cases (Src.tx ws 9) ⟨#[45]⟩ [45] (by decide +kernel) with ⟨m1, m2, m3⟩ | ⟨m1, m2, m3⟩
    · have e9 : Src.tl ws 9 = [45] := by unfold Src.tl; rw [m3]
      clear m3
      go_wp2_with fail
      refine bodyPost_ret (v := .tuple #[.agg (ruleCells ⟨Src.tx ws 1, Src.yearP (Src.tl ws 2), (Src.yearP (Src.tl ws 2)), xm, xk, xwd, xd, xt, xr, (Src.offP (Src.tl ws 8) 43200).1, ⟨#[]⟩⟩).toArray, faultC ⟨0, 0, 0⟩]) ?_ rfl (rule_good (by rw [← Hres.out, rule_ok hs1 u0 hT0 e4 hsp o0 hm9, hto, letp_dash e9]))
      simp [results, Tryz.results55, go_sem, ruleCells]
    · have e9 : ¬ Src.tl ws 9 = [45] := m3
      clear m3
      go_wp2_with fail
      refine bodyPost_ret (v := .tuple #[.agg (ruleCells ⟨Src.tx ws 1, Src.yearP (Src.tl ws 2), (Src.yearP (Src.tl ws 2)), xm, xk, xwd, xd, xt, xr, (Src.offP (Src.tl ws 8) 43200).1, Src.tx ws 9⟩).toArray, faultC ⟨0, 0, 0⟩]) ?_ rfl (rule_good (by rw [← Hres.out, rule_ok hs1 u0 hT0 e4 hsp o0 hm9, hto, letp_text e9]))
      simp [results, Tryz.results55, go_sem, ruleCells]
end Go.Proofs.YtdhbgelijjlifaaGreatDoor
