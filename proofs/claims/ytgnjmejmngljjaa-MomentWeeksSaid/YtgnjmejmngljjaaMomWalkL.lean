/- Walks of moments: the document's days. -/
import Derived.Test.YtgnjmejmngljjaaMomWalkK
set_option linter.unusedVariables false
set_option linter.unusedSimpArgs false
namespace Go.Proofs.Ytgnjmejmngljjaa
open Go.RowKit

def DayEnd (w : World) (o : Option (Int × Int × Int)) (e : Ending) (w' : World) : Prop :=
  ∃ k d n : Int, ∃ y : Past w, e = .returned (.tuple #[.int .i64 k, .int .i64 d, .int .i64 n, .bool o.isSome]) ∧ (∀ x, o = some x → x = (k, d, n)) ∧ w' = y.x
theorem day_end {w w' : World} [h : ExtC w w'] {o : Option (Int × Int × Int)} {k d n : Int} {b : Bool} (hb : o.isSome = b) (ho : ∀ x, o = some x → x = (k, d, n)) : DayEnd w o (.returned (.tuple #[.int .i64 k, .int .i64 d, .int .i64 n, .bool b])) w' := by
  subst hb; exact ⟨k, d, n, ⟨w', h.ext⟩, rfl, ho, rfl⟩
theorem day_bd (l : List UInt8) : 0 ≤ ((Mom.dayI l : Nat) : Int) ∧ ((Mom.dayI l : Nat) : Int) ≤ 7 := by
  have := Mom.which_bd l Mom.daysL 1 (by omega)
  have e : Mom.daysL.length = 7 := rfl
  unfold Mom.dayI; omega
set_option maxRecDepth 100000 in
set_option maxHeartbeats 4000000 in
theorem rDay_last (l : List UInt8) (w : World) (hs : l.length ≤ 2000) (h4 : l.take 4 = [108, 97, 115, 116]) : Calls Try.prog 40 #[.string ⟨l.toArray⟩] w (DayEnd w (Mom.dayR l)) := by
  obtain ⟨S, hS⟩ : ∃ S : ByteArray, S = ⟨l.toArray⟩ := ⟨_, rfl⟩
  have hl : S.data.toList = l := by rw [hS]
  have hz : S.size = l.length := by rw [hS, lsz]
  have h5 : 4 ≤ S.size := by
    have := congrArg List.length h4
    rw [List.length_take] at this; simp at this; omega
  have T4 : S.extract 0 4 = ⟨#[108, 97, 115, 116]⟩ := by rw [ext_take, hl, h4]
  have T : Hid (S.extract 4 S.size = ⟨(l.drop 4).toArray⟩) := by show _ = _; rw [ext_drop, hl]
  have HW := fun w => Lib.hid (rweekday_any (l.drop 4) w (by rw [List.length_drop]; unfold maxLen; omega))
  have hb := day_bd (l.drop 4)
  have E : Hid (Mom.dayR l = Mom.dayL (l.drop 4)) := by show _ = _; unfold Mom.dayR; rw [if_pos h4]
  have hz2 : S.size ≤ 2000 := by omega
  rw [← hS, E.out]
  clear hS hl hz h4 E
  unfold Mom.dayL
  generalize Mom.dayI (l.drop 4) = d at *
  by_cases c : d = 0
  · subst c
    go_enter Try.func40, Try.ntmps40
    go_wp2_with fail
    rw [T.out]
    refine Rets.use (HW _).out ?_
    intro _
    go_wp2
    exact bodyPost_ret (v := .tuple #[.int .i64 1, .int .i64 0, .int .i64 0, .bool false]) (by simp [results, Try.results40, go_sem]) rfl (day_end rfl (by intro x hx; cases hx))
  · have c1 : (0 : Int) < (d : Int) := by omega
    have c2 : 0 < d := by omega
    rw [if_pos c]
    go_enter Try.func40, Try.ntmps40
    go_wp2_with fail
    rw [T.out]
    refine Rets.use (HW _).out ?_
    intro _
    go_wp2
    exact bodyPost_ret (v := .tuple #[.int .i64 1, .int .i64 d, .int .i64 0, .bool true]) (by simp [results, Try.results40, go_sem]) rfl (day_end rfl (by intro x hx; cases hx; rfl))
set_option maxRecDepth 100000 in
set_option maxHeartbeats 4000000 in
theorem rDay_other (l : List UInt8) (w : World) (hs : l.length ≤ 2000) (h4 : ¬ l.take 4 = [108, 97, 115, 116]) : Calls Try.prog 40 #[.string ⟨l.toArray⟩] w (DayEnd w (Mom.dayR l)) := by
  obtain ⟨S, hS⟩ : ∃ S : ByteArray, S = ⟨l.toArray⟩ := ⟨_, rfl⟩
  have hl : S.data.toList = l := by rw [hS]
  have hz : S.size = l.length := by rw [hS, lsz]
  have hz2 : S.size ≤ 2000 := by omega
  have E : Hid (Mom.dayR l = Mom.dayN l) := by show _ = _; unfold Mom.dayR; rw [if_neg h4]
  have g4 : (decide (4 ≤ S.size) = false ∧ decide ((4 : Int) ≤ S.size) = false) ∨ (4 ≤ S.size ∧ ((S.extract 0 4).toList == [108, 97, 115, 116]) = false ∧ ((S.extract 0 4) == ⟨#[108, 97, 115, 116]⟩) = false) := by
    by_cases c : 4 ≤ S.size
    · refine .inr ⟨c, ?_, ?_⟩
      · rw [Lib.toList_data, ext_take, hl, beq_eq_false_iff_ne]; exact h4
      · rw [beq_toListBytes, Lib.toList_data, Lib.toList_data, ext_take, hl, beq_eq_false_iff_ne]; exact h4
    · exact .inl ⟨decide_eq_false c, decide_eq_false (by omega)⟩
  have HS := fun c w => Lib.hid (hl ▸ sign_any S c w (by omega))
  have HW := Lib.hid (fun (r : List UInt8) (hr : r.length ≤ 2000) w => rweekday_any r w (by unfold maxLen; omega))
  have HD := Lib.hid (fun (r : List UInt8) (hr : r.length ≤ 2000) w => rday_any r w (by unfold maxLen; omega))
  have T1 : Hid (∀ i, S.extract 0 i = ⟨(l.take i).toArray⟩) := fun i => by rw [ext_take, hl]
  have T2 : Hid (∀ i, S.extract i S.size = ⟨(l.drop i).toArray⟩) := fun i => by rw [ext_drop, hl]
  have SL := Lib.hid (fun c i h => Mom.sign_lt c l i h)
  have EN : Hid (Mom.dayN l = match Mom.signL 62 l with
    | some i => Mom.dayAt 2 (l.take i) (l.drop (i + 2))
    | none => match Mom.signL 60 l with
      | some i => Mom.dayAt 3 (l.take i) (l.drop (i + 2))
      | none => if Mom.dnum l ≠ 0 then some (0, 0, Mom.dnum l) else none) := rfl
  have LB := Lib.hid hz
  have HSS : Hid (S = ⟨l.toArray⟩) := hS
  rw [E.out, ← hS]
  clear hS hl hz h4 E
  rcases g4 with ⟨a1, a2⟩ | ⟨a1, a2, a3⟩
  all_goals
    go_enter Try.func40, Try.ntmps40
    go_wp2
    go_loopw [7] (fun kv wr => ∃ K : Int, (K = 2 ∨ K = 3 ∧ Hid (Mom.signL 62 l = none) ∨ K = 4 ∧ Hid (Mom.signL 62 l = none) ∧ Hid (Mom.signL 60 l = none)) ∧ kv = .int .i64 K ∧ Ext w wr) (fun kv _ => 4 - (intOf kv).toNat)
    case atStart => exact ⟨2, .inl rfl, rfl, isext⟩
    case round =>
      obtain ⟨K, hK, rfl, hx⟩ := hrel
      obtain ⟨yr, rfl⟩ := fin hx
      clear hx
      rcases hK with rfl | ⟨rfl, h2⟩ | ⟨rfl, h2, h3⟩
      · obtain ⟨o, hc⟩ : ∃ o, Mom.signL 62 l = o := ⟨_, rfl⟩
        cases o with
        | some i0 =>
          have hsig : ∃ i, Mom.signL 62 l = some i := ⟨i0, hc⟩
          clear hc
          obtain ⟨i, hi⟩ := hsig
          have hi2 := SL.out 62 i hi
          have E2 : Hid (Mom.dayN l = Mom.dayAt 2 (l.take i) (l.drop (i + 2))) := by show _ = _; rw [EN.out]; simp only [hi]
          have HSc : ∀ w, Hid (Rets Try.prog 63 #[.string S, .int .u8 62] w (.int .i64 (i : Int))) := fun w => by
            have := (HS 62 w).out; rw [hi] at this; exact this
          have HWi : ∀ w, Hid (Rets Try.prog 13 #[.string (S.extract 0 i)] w (.int .i64 (Mom.dayI (l.take i) : Nat))) := fun w => by
            show Rets _ _ _ _ _; rw [T1.out]; exact HW.out _ (by rw [List.length_take]; have := LB.out; omega) w
          have HDi : ∀ w, Hid (Rets Try.prog 64 #[.string (S.extract (i + 2) S.size)] w (.int .i64 (Mom.dnum (l.drop (i + 2))))) := fun w => by
            show Rets _ _ _ _ _; rw [T2.out]; exact HD.out _ (by rw [List.length_drop]; have := LB.out; omega) w
          have db := day_bd (l.take i)
          have nb := Mom.dnum_bd (l.drop (i + 2))
          have iz : i + 2 ≤ S.size := by have := LB.out; omega
          have iz' : (i : Int) + 2 ≤ S.size := by omega
          have w1 : IntKind.i64.wrap ((i : Int) + 2) = (i : Int) + 2 := by rw [IntKind.wrap_i64]; omega
          have w2 : (0 : Int) ≤ (i : Int) + 2 := by omega
          have w3 : ((i : Int) + 2).toNat = i + 2 := by omega
          unfold Mom.dayAt at E2
          generalize Mom.dayI (l.take i) = d at *
          generalize Mom.dnum (l.drop (i + 2)) = n at *
          clear hi hi2
          have cs : (d = 0 ∧ decide (0 < d) = false ∧ decide ((0 : Int) < (d : Int)) = false) ∨ (d ≠ 0 ∧ 0 < d ∧ (0 : Int) < (d : Int) ∧ n = 0) ∨ (d ≠ 0 ∧ 0 < d ∧ (0 : Int) < (d : Int) ∧ n ≠ 0 ∧ 0 < n) := by
            by_cases c1 : d = 0
            · exact .inl ⟨c1, decide_eq_false (by omega), decide_eq_false (by omega)⟩
            · by_cases c2 : n = 0
              · exact .inr (.inl ⟨c1, by omega, by omega, c2⟩)
              · exact .inr (.inr ⟨c1, by omega, by omega, c2, by omega⟩)
          rcases cs with ⟨c1, c2, c3⟩ | ⟨c1, c2, c3, c4⟩ | ⟨c1, c2, c3, c4, c5⟩
          · have F : Hid (Mom.dayN l = none) := by show _ = _; rw [E2.out, if_neg (fun h => h.1 c1)]
            subst c1
            clear E2 db c2 c3
            go_wp2_with (go_at_call 63; refine Rets.use (HSc _).out ?_; intro _)
            refine wp_region_past (by kernel_rfl) (by kernel_rfl) ?_
            repeat (go_big_quiet_step ((first | (go_at_call 13; exact Rets.quiet (HWi _).out) | (go_at_call 64; exact Rets.quiet (HDi _).out))))
            refine wpQuiet_nil ?_
            intro _
            clear w1 w2 w3
            go_wp2
            exact bodyPost_ret (v := .tuple #[.int .i64 2, .int .i64 0, .int .i64 n, .bool false]) (by simp [results, Try.results40, go_sem]) rfl (day_end (by rw [F.out]; rfl) (by rw [F.out]; intro x hx; cases hx))
          · have F : Hid (Mom.dayN l = none) := by show _ = _; rw [E2.out, if_neg (fun h => h.2 c4)]
            subst c4
            clear E2 c1
            go_wp2_with (go_at_call 63; refine Rets.use (HSc _).out ?_; intro _)
            refine wp_region_past (by kernel_rfl) (by kernel_rfl) ?_
            repeat (go_big_quiet_step ((first | (go_at_call 13; exact Rets.quiet (HWi _).out) | (go_at_call 64; exact Rets.quiet (HDi _).out))))
            refine wpQuiet_nil ?_
            intro _
            clear w1 w2 w3
            go_wp2
            exact bodyPost_ret (v := .tuple #[.int .i64 2, .int .i64 d, .int .i64 0, .bool false]) (by simp [results, Try.results40, go_sem]) rfl (day_end (by rw [F.out]; rfl) (by rw [F.out]; intro x hx; cases hx))
          · have F : Hid (Mom.dayN l = some (2, (d : Int), n)) := by show _ = _; rw [E2.out, if_pos ⟨c1, c4⟩]
            clear E2 c1 c4
            go_wp2_with (go_at_call 63; refine Rets.use (HSc _).out ?_; intro _)
            refine wp_region_past (by kernel_rfl) (by kernel_rfl) ?_
            repeat (go_big_quiet_step ((first | (go_at_call 13; exact Rets.quiet (HWi _).out) | (go_at_call 64; exact Rets.quiet (HDi _).out))))
            refine wpQuiet_nil ?_
            intro _
            clear w1 w2 w3
            go_wp2
            exact bodyPost_ret (v := .tuple #[.int .i64 2, .int .i64 d, .int .i64 n, .bool true]) (by simp [results, Try.results40, go_sem]) rfl (day_end (by rw [F.out]; rfl) (by rw [F.out]; intro x hx; cases hx; rfl))
        | none =>
          have HSc : ∀ w, Hid (Rets Try.prog 63 #[.string S, .int .u8 62] w (.int .i64 (-1))) := fun w => by
            have := (HS 62 w).out; rw [hc] at this; exact this
          have HC := Lib.hid hc
          clear hc
          go_wp2_with (go_at_call 63; refine Rets.use (HSc _).out ?_; intro _)
          go_roundw
          case rel => exact ⟨3, .inr (.inl ⟨rfl, HC⟩), rfl, isext⟩
          case measure => simp [intOf]
      · obtain ⟨o, hc⟩ : ∃ o, Mom.signL 60 l = o := ⟨_, rfl⟩
        cases o with
        | some i0 =>
          have hsig : ∃ i, Mom.signL 60 l = some i := ⟨i0, hc⟩
          clear hc
          obtain ⟨i, hi⟩ := hsig
          have hi2 := SL.out 60 i hi
          have E2 : Hid (Mom.dayN l = Mom.dayAt 3 (l.take i) (l.drop (i + 2))) := by show _ = _; rw [EN.out]; simp only [h2.out, hi]
          have HSc : ∀ w, Hid (Rets Try.prog 63 #[.string S, .int .u8 60] w (.int .i64 (i : Int))) := fun w => by
            have := (HS 60 w).out; rw [hi] at this; exact this
          have HWi : ∀ w, Hid (Rets Try.prog 13 #[.string (S.extract 0 i)] w (.int .i64 (Mom.dayI (l.take i) : Nat))) := fun w => by
            show Rets _ _ _ _ _; rw [T1.out]; exact HW.out _ (by rw [List.length_take]; have := LB.out; omega) w
          have HDi : ∀ w, Hid (Rets Try.prog 64 #[.string (S.extract (i + 2) S.size)] w (.int .i64 (Mom.dnum (l.drop (i + 2))))) := fun w => by
            show Rets _ _ _ _ _; rw [T2.out]; exact HD.out _ (by rw [List.length_drop]; have := LB.out; omega) w
          have db := day_bd (l.take i)
          have nb := Mom.dnum_bd (l.drop (i + 2))
          have iz : i + 2 ≤ S.size := by have := LB.out; omega
          have iz' : (i : Int) + 2 ≤ S.size := by omega
          have w1 : IntKind.i64.wrap ((i : Int) + 2) = (i : Int) + 2 := by rw [IntKind.wrap_i64]; omega
          have w2 : (0 : Int) ≤ (i : Int) + 2 := by omega
          have w3 : ((i : Int) + 2).toNat = i + 2 := by omega
          unfold Mom.dayAt at E2
          generalize Mom.dayI (l.take i) = d at *
          generalize Mom.dnum (l.drop (i + 2)) = n at *
          clear hi hi2
          have cs : (d = 0 ∧ decide (0 < d) = false ∧ decide ((0 : Int) < (d : Int)) = false) ∨ (d ≠ 0 ∧ 0 < d ∧ (0 : Int) < (d : Int) ∧ n = 0) ∨ (d ≠ 0 ∧ 0 < d ∧ (0 : Int) < (d : Int) ∧ n ≠ 0 ∧ 0 < n) := by
            by_cases c1 : d = 0
            · exact .inl ⟨c1, decide_eq_false (by omega), decide_eq_false (by omega)⟩
            · by_cases c2 : n = 0
              · exact .inr (.inl ⟨c1, by omega, by omega, c2⟩)
              · exact .inr (.inr ⟨c1, by omega, by omega, c2, by omega⟩)
          rcases cs with ⟨c1, c2, c3⟩ | ⟨c1, c2, c3, c4⟩ | ⟨c1, c2, c3, c4, c5⟩
          · have F : Hid (Mom.dayN l = none) := by show _ = _; rw [E2.out, if_neg (fun h => h.1 c1)]
            subst c1
            clear E2 db c2 c3
            go_wp2_with (go_at_call 63; refine Rets.use (HSc _).out ?_; intro _)
            refine wp_region_past (by kernel_rfl) (by kernel_rfl) ?_
            repeat (go_big_quiet_step ((first | (go_at_call 13; exact Rets.quiet (HWi _).out) | (go_at_call 64; exact Rets.quiet (HDi _).out))))
            refine wpQuiet_nil ?_
            intro _
            clear w1 w2 w3
            go_wp2
            exact bodyPost_ret (v := .tuple #[.int .i64 3, .int .i64 0, .int .i64 n, .bool false]) (by simp [results, Try.results40, go_sem]) rfl (day_end (by rw [F.out]; rfl) (by rw [F.out]; intro x hx; cases hx))
          · have F : Hid (Mom.dayN l = none) := by show _ = _; rw [E2.out, if_neg (fun h => h.2 c4)]
            subst c4
            clear E2 c1
            go_wp2_with (go_at_call 63; refine Rets.use (HSc _).out ?_; intro _)
            refine wp_region_past (by kernel_rfl) (by kernel_rfl) ?_
            repeat (go_big_quiet_step ((first | (go_at_call 13; exact Rets.quiet (HWi _).out) | (go_at_call 64; exact Rets.quiet (HDi _).out))))
            refine wpQuiet_nil ?_
            intro _
            clear w1 w2 w3
            go_wp2
            exact bodyPost_ret (v := .tuple #[.int .i64 3, .int .i64 d, .int .i64 0, .bool false]) (by simp [results, Try.results40, go_sem]) rfl (day_end (by rw [F.out]; rfl) (by rw [F.out]; intro x hx; cases hx))
          · have F : Hid (Mom.dayN l = some (3, (d : Int), n)) := by show _ = _; rw [E2.out, if_pos ⟨c1, c4⟩]
            clear E2 c1 c4
            go_wp2_with (go_at_call 63; refine Rets.use (HSc _).out ?_; intro _)
            refine wp_region_past (by kernel_rfl) (by kernel_rfl) ?_
            repeat (go_big_quiet_step ((first | (go_at_call 13; exact Rets.quiet (HWi _).out) | (go_at_call 64; exact Rets.quiet (HDi _).out))))
            refine wpQuiet_nil ?_
            intro _
            clear w1 w2 w3
            go_wp2
            exact bodyPost_ret (v := .tuple #[.int .i64 3, .int .i64 d, .int .i64 n, .bool true]) (by simp [results, Try.results40, go_sem]) rfl (day_end (by rw [F.out]; rfl) (by rw [F.out]; intro x hx; cases hx; rfl))
        | none =>
          have HSc : ∀ w, Hid (Rets Try.prog 63 #[.string S, .int .u8 60] w (.int .i64 (-1))) := fun w => by
            have := (HS 60 w).out; rw [hc] at this; exact this
          have HC := Lib.hid hc
          clear hc
          go_wp2_with (go_at_call 63; refine Rets.use (HSc _).out ?_; intro _)
          go_roundw
          case rel => exact ⟨4, .inr (.inr ⟨rfl, h2, HC⟩), rfl, isext⟩
          case measure => simp [intOf]
      · have E2 : Hid (Mom.dayN l = if Mom.dnum l ≠ 0 then some (0, 0, Mom.dnum l) else none) := by show _ = _; rw [EN.out]; simp only [h2.out, h3.out]
        have HDi : ∀ w, Hid (Rets Try.prog 64 #[.string S] w (.int .i64 (Mom.dnum l))) := fun w => by
          show Rets _ _ _ _ _; rw [HSS.out]; exact HD.out _ (by have := LB.out; omega) w
        have nb := Mom.dnum_bd l
        generalize Mom.dnum l = n at *
        by_cases c : n = 0
        · have F : Hid (Mom.dayN l = none) := by show _ = _; rw [E2.out, if_neg (by simp [c])]
          subst c
          clear E2
          go_wp2_with (go_at_call 64; refine Rets.use (HDi _).out ?_; intro _)
          exact bodyPost_ret (v := .tuple #[.int .i64 0, .int .i64 0, .int .i64 0, .bool false]) (by simp [results, Try.results40, go_sem]) rfl (day_end (by rw [F.out]; rfl) (by rw [F.out]; intro x hx; cases hx))
        · have F : Hid (Mom.dayN l = some (0, 0, n)) := by show _ = _; rw [E2.out, if_pos c]
          have c1 : 0 < n := by omega
          clear E2 c
          go_wp2_with (go_at_call 64; refine Rets.use (HDi _).out ?_; intro _)
          exact bodyPost_ret (v := .tuple #[.int .i64 0, .int .i64 0, .int .i64 n, .bool true]) (by simp [results, Try.results40, go_sem]) rfl (day_end (by rw [F.out]; rfl) (by rw [F.out]; intro x hx; cases hx; rfl))
theorem rDay_any (l : List UInt8) (w : World) (hs : l.length ≤ 2000) : Calls Try.prog 40 #[.string ⟨l.toArray⟩] w (DayEnd w (Mom.dayR l)) := by
  by_cases h : l.take 4 = [108, 97, 115, 116]
  · exact rDay_last l w hs h
  · exact rDay_other l w hs h
end Go.Proofs.Ytgnjmejmngljjaa
