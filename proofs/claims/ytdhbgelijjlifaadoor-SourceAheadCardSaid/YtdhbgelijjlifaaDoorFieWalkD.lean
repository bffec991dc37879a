/- Walk: a line cut into fields. -/
import Derived.Test.YtdhbgelijjlifaaDoorFiePlainE
import Derived.Test.YtdhbgelijjlifaaDoorOwns
set_option linter.unusedVariables false
set_option linter.unusedSimpArgs false
namespace Go.Proofs.YtdhbgelijjlifaaDoor
open Go.RowKit

theorem Tryd.infoWord : (Tryd.prog.info? 61).map (fun i => (i.zero, i.size, i.bytes)) = some (some (.agg #[.string ByteArray.empty, .int .i64 0]), 2, 24) := by kernel_rfl

theorem tail_no {s : ByteArray} {en : Nat} (h : tailOk s en = false) : ∃ hl : en < s.size, ((s[en].toNat : Int) != 35) = true ∧ Fie.blank s[en] = false := by
  unfold tailOk at h
  by_cases hl : en < s.size
  · rw [dif_pos hl] at h
    simp only [Bool.or_eq_false_iff, decide_eq_false_iff_not] at h
    exact ⟨hl, by simpa using h.1, h.2⟩
  · rw [dif_neg hl] at h; cases h
theorem tail_yes {s : ByteArray} {en : Nat} (h : tailOk s en = true) : s.size ≤ en ∨ (∃ hl : en < s.size, ((s[en].toNat : Int) != 35) = false) ∨ (∃ hl : en < s.size, ((s[en].toNat : Int) != 35) = true ∧ Fie.blank s[en] = true) := by
  unfold tailOk at h
  by_cases hl : en < s.size
  · rw [dif_pos hl] at h
    by_cases c : (s[en].toNat : Int) = 35
    · exact .inr (.inl ⟨hl, by simpa using c⟩)
    · exact .inr (.inr ⟨hl, by simpa using c, by simpa [c] using h⟩)
  · exact .inl (by omega)
theorem wordCells_snoc (l : List (ByteArray × Int)) (x : ByteArray × Int) : wordCells (l ++ [x]) = wordCells l ++ [.string x.1, .int .i64 x.2] := by
  induction l with
  | nil => rfl
  | cons y l ih => simp [wordCells, ih]

/-- A call that returns a list of words, a place, an error's number. -/
def SplitSays (f : FuncId) (s : ByteArray) (w : World) (r : List (ByteArray × Int) × Int × Int) : Prop :=
  Calls Tryd.prog f #[.string s] w fun e w' => ∃ v, ∃ y : Past w, e = .returned (.tuple #[v, .int .i64 r.2.1, .int .i64 r.2.2]) ∧ Reads y.x v r.1.length (wordCells r.1) ∧ w' = y.x

/-- What is asked of the end. -/
def SplitEnd (w : World) (r : List (ByteArray × Int) × Int × Int) (e : Ending) (w' : World) : Prop :=
  ∃ v, ∃ y : Past w, e = .returned (.tuple #[v, .int .i64 r.2.1, .int .i64 r.2.2]) ∧ y.x.ownsRow w.heap.size 61 2 v r.1.length (wordCells r.1) ∧ w' = y.x
theorem split_bad {w w' : World} [h : ExtC w w'] {r : List (ByteArray × Int) × Int × Int} {p e : Int} (he : r = ([], p, e)) : SplitEnd w r (.returned (.tuple #[.slice none 0 0, .int .i64 p, .int .i64 e])) w' := by
  subst he
  exact ⟨_, ⟨w', h.ext⟩, rfl, World.ownsRow_nil _ _ _ _, rfl⟩
theorem split_good {w w' : World} [h : ExtC w w'] {r : List (ByteArray × Int) × Int × Int} {v : Value} {ws : List (ByteArray × Int)} {n : Nat} (hn : ws.length = n) [k : OwnsC w' w.heap.size 61 2 v n (wordCells ws)] (he : r = (ws, 0, 0)) :
    SplitEnd w r (.returned (.tuple #[v, .int .i64 0, .int .i64 0])) w' := by
  subst he
  subst hn
  exact ⟨_, ⟨w', h.ext⟩, rfl, k.own, rfl⟩

set_option maxHeartbeats 1000000 in
theorem split_long (s : ByteArray) (w : World) (hs : s.size ≤ maxLen) (h : 500 < s.size) : Calls Tryd.prog 17 #[.string s] w (SplitEnd w ([], 500, 12)) := by
  unfold maxLen at hs
  go_enter Tryd.func17, Tryd.ntmps17
  go_wp2
  go_ret3
  exact split_bad rfl

set_option maxRecDepth 100000 in
set_option maxHeartbeats 4000000 in
theorem split_any (s : ByteArray) (w : World) (hs : s.size ≤ 500) : Calls Tryd.prog 17 #[.string s] w (SplitEnd w (run s (Fie.stop Fie.blank s 0) [])) := by
  have hm : s.size ≤ maxLen := by unfold maxLen; omega
  have b0 := Fie.stop_le Fie.blank s 0 (by omega)
  obtain ⟨i0, hi, hz0, hz1, hz2⟩ := info_parts Tryd.infoWord
  go_enter Tryd.func17, Tryd.ntmps17
  go_wp2_with (go_at_call 27; refine Rets.use (while_blank s 0 _ (by omega) (by omega) hm) ?_; intro _)
  go_loopw [5, 6] (fun v i wr => ∃ (k n : Nat) (ws : List (ByteArray × Int)), k ≤ s.size ∧ n ≤ 16 ∧ Hid (ws.length = n) ∧ i = .int .i64 k ∧ Hid (run s (Fie.stop Fie.blank s 0) [] = run s k ws) ∧ OwnsC wr w.heap.size 61 2 v n (wordCells ws) ∧ Ext w wr) (fun _ i _ => s.size - (intOf i).toNat)
  case atStart => exact ⟨_, 0, [], b0.2, by omega, rfl, rfl, rfl, ⟨World.ownsRow_nil _ _ _ _⟩, isext⟩
  case round =>
    obtain ⟨k, n, ws, k1, n1, Hn, rfl, Hr, hown, hx⟩ := hrel
    obtain ⟨yr, rfl⟩ := fin hx
    clear hx
    obtain ⟨av, cap, rfl⟩ := owns_shape hown.own
    by_cases c0 : k < s.size
    rotate_left
    · have e := Lib.hid (run_end s k ws (by omega))
      go_wp2
      go_ret3
      exact split_good (v := .slice av n cap) Hn.out (Hr.out.trans e.out)
    by_cases c1 : (s[k].toNat : Int) = 35
    · have e := Lib.hid (run_hash s k ws c0 c1)
      have g1 : ((s[k].toNat : Int) != 35) = false := by simpa using c1
      clear c1
      go_wp2
      go_ret3
      exact split_good (v := .slice av n cap) Hn.out (Hr.out.trans e.out)
    have g0 : ((s[k].toNat : Int) == 35) = false := by simpa using c1
    have g1 : ((s[k].toNat : Int) != 35) = true := by simpa using c1
    by_cases c2 : (s[k].toNat : Int) = 34
    · have q1 : ((s[k].toNat : Int) == 34) = true := by simpa using c2
      by_cases c4 : n = 16
      · have e := Lib.hid (run_bad s k ws k 12 c0 c1 (by unfold cut; rw [dif_pos c0, if_pos c2, if_pos (by rw [Hn.out]; exact c4)]))
        subst c4
        clear c1 c2
        go_wp2
        go_ret3
        exact split_bad (Hr.out.trans e.out)
      have n4 : ¬ ws.length = 16 := by rw [Hn.out]; exact c4
      have N4 := Lib.hid n4
      clear n4
      have b1 := Fie.stop_le Fie.within s (k + 1) (by omega)
      have hk1 : ((k : Int) + 1).toNat = k + 1 := by omega
      obtain ⟨e, hen⟩ : ∃ e, Fie.stop Fie.within s (k + 1) = e := ⟨_, rfl⟩
      rw [hen] at b1
      by_cases c5 : e < s.size
      rotate_left
      · have E := Lib.hid (run_bad s k ws (wrongI s k e) 6 c0 c1 (by unfold cut; rw [dif_pos c0, if_pos c2, if_neg N4.out, dif_neg (by rw [hen]; exact c5), hen]))
        have g2 : ((e : Int) == (s.size : Int)) = true := beq_iff_eq.2 (by omega)
        clear c1 c2
        go_wp2_with fail
        refine Rets.use (while_within s (k + 1) _ (by omega) (by omega) hm) ?_
        intro _
        go_wp2_with (go_at_call 31; refine Rets.use (wrong_any s k e _ (by omega) (by omega) (by omega) hm) ?_; intro _)
        go_ret3
        exact split_bad (Hr.out.trans E.out)
      have g2 : ((e : Int) == (s.size : Int)) = false := beq_eq_false_iff_ne.2 (by omega)
      by_cases c6 : (s[e].toNat : Int) = 34
      rotate_left
      · have E := Lib.hid (run_bad s k ws (wrongI s k e) 6 c0 c1 (by unfold cut; rw [dif_pos c0, if_pos c2, if_neg N4.out]; simp only [hen]; rw [dif_pos c5, if_neg c6]))
        have g3 : ((s[e].toNat : Int) != 34) = true := by simpa using c6
        clear c1 c2 c6
        go_wp2_with fail
        refine Rets.use (while_within s (k + 1) _ (by omega) (by omega) hm) ?_
        intro _
        go_wp2_with (go_at_call 31; refine Rets.use (wrong_any s k e _ (by omega) (by omega) (by omega) hm) ?_; intro _)
        go_ret3
        exact split_bad (Hr.out.trans E.out)
      have g3 : ((s[e].toNat : Int) != 34) = false := by simpa using c6
      have he1 : ((e : Int) + 1).toNat = e + 1 := by omega
      cases c7 : tailOk s (e + 1)
      · have E := Lib.hid (run_bad s k ws ((e + 1 : Nat) : Int) 6 c0 c1 (by unfold cut; rw [dif_pos c0, if_pos c2, if_neg N4.out]; simp only [hen]; rw [dif_pos c5, if_pos c6, if_neg (by rw [c7]; simp)]))
        obtain ⟨t0, t1, t2⟩ := tail_no c7
        clear c1 c2 c6 c7
        go_wp2_with fail
        refine Rets.use (while_within s (k + 1) _ (by omega) (by omega) hm) ?_
        intro _
        go_wp2_with (go_at_call 28; refine Rets.use (blank_any _ _) ?_; intro _)
        go_ret3
        exact split_bad (Hr.out.trans E.out)
      · have E := Lib.hid (run_good s k ws (k + 1) e (e + 1) c0 c1 (by unfold cut; rw [dif_pos c0, if_pos c2, if_neg N4.out]; simp only [hen]; rw [dif_pos c5, if_pos c6, if_pos c7]))
        have b2 := Fie.stop_le Fie.blank s (e + 1) (by omega)
        rcases tail_yes c7 with t0 | ⟨t0, t1⟩ | ⟨t0, t1, t2⟩
        all_goals
          clear c1 c2 c6 c7
          go_wp2_with fail
          refine Rets.use (while_within s (k + 1) _ (by omega) (by omega) hm) ?_
          intro _
          go_wp2_with (first
            | (go_at_call 28; refine Rets.use (blank_any _ _) ?_; intro _)
            | (at_builtin; refine wpList_append_own _ rfl _ _ 45 rfl w.heap.size 61 i0 (.agg #[.string ByteArray.empty, .int .i64 0]) 2 24 Tryd.underlying45 hi hz0 hz1 hz2 rfl (by decide) (.slice av n cap) n (wordCells ws) rfl (OwnsC.own) _ 1 1 [.string (s.extract (k + 1) e), .int .i64 k] rfl rfl (new_cells _ _ _) (by simp [Value.oneCell']) (by unfold maxLen; omega) (by omega) (GeW.ge) ?_; intro v' w1 hown1 hgrow1 _; obtain ⟨av', cap', rfl⟩ := owns_shape hown1; obtain ⟨y1, rfl⟩ := fin (Ext.grown (a := w) isext (OwnsC.own (e := 61) (size := 2) (n := n) (xs := wordCells ws)) hgrow1); clear hgrow1; have hO : OwnsC y1.x w.heap.size 61 2 (.slice av' (n + 1) cap') (n + 1) (wordCells ws ++ [.string (s.extract (k + 1) e), .int .i64 k]) := ⟨hown1⟩))
          refine Rets.use (while_blank s (e + 1) _ (by omega) (by omega) hm) ?_
          intro _
          go_wp2
          go_roundw
          case rel => exact ⟨Fie.stop Fie.blank s (e + 1), n + 1, ws ++ [(s.extract (k + 1) e, (k : Int))], b2.2, by omega, by show _ = _; rw [List.length_append, Hn.out]; rfl, rfl, Hr.out.trans E.out, by rw [wordCells_snoc]; infer_instance, isext⟩
          case measure => simp [intOf]; omega
    · have q1 : ((s[k].toNat : Int) == 34) = false := by simpa using c2
      cases c3 : Fie.bare s[k]
      · have e := Lib.hid (run_bad s k ws k 6 c0 c1 (by unfold cut; rw [dif_pos c0, if_neg c2, if_pos c3]))
        clear c1 c2
        go_wp2_with (go_at_call 29; refine Rets.use (bare_any _ _) ?_; intro _)
        go_ret3
        exact split_bad (Hr.out.trans e.out)
      by_cases c4 : n = 16
      · have e := Lib.hid (run_bad s k ws k 12 c0 c1 (by unfold cut; rw [dif_pos c0, if_neg c2, if_neg (by rw [c3]; simp), if_pos (by rw [Hn.out]; exact c4)]))
        subst c4
        clear c1 c2
        go_wp2_with (go_at_call 29; refine Rets.use (bare_any _ _) ?_; intro _)
        go_ret3
        exact split_bad (Hr.out.trans e.out)
      have b1 := Fie.stop_le Fie.bare s k (by omega)
      obtain ⟨en, hen⟩ : ∃ en, Fie.stop Fie.bare s k = en := ⟨_, rfl⟩
      rw [hen] at b1
      cases c5 : tailOk s en
      · have e := Lib.hid (run_bad s k ws en 6 c0 c1 (by unfold cut; rw [dif_pos c0, if_neg c2, if_neg (by rw [c3]; simp), if_neg (by rw [Hn.out]; exact c4), hen, if_neg (by rw [c5]; simp)]))
        obtain ⟨t0, t1, t2⟩ := tail_no c5
        clear c1 c2 c5
        go_wp2_with (go_at_call 29; refine Rets.use (bare_any _ _) ?_; intro _)
        refine Rets.use (while_bare s k _ (by omega) (by omega) hm) ?_
        intro _
        go_wp2_with (go_at_call 28; refine Rets.use (blank_any _ _) ?_; intro _)
        go_ret3
        exact split_bad (Hr.out.trans e.out)
      · have e := Lib.hid (run_good s k ws k en en c0 c1 (by unfold cut; rw [dif_pos c0, if_neg c2, if_neg (by rw [c3]; simp), if_neg (by rw [Hn.out]; exact c4), hen, if_pos c5]))
        have b2 := Fie.stop_le Fie.blank s en (by omega)
        have b3 := (Fie.stop_le Fie.bare s (k + 1) (by omega)).1
        rw [← Fie.stop_yes Fie.bare s k c0 c3, hen] at b3
        rcases tail_yes c5 with t0 | ⟨t0, t1⟩ | ⟨t0, t1, t2⟩
        all_goals
          clear c1 c2 c5
          go_wp2_with (go_at_call 29; refine Rets.use (bare_any _ _) ?_; intro _)
          refine Rets.use (while_bare s k _ (by omega) (by omega) hm) ?_
          intro _
          go_wp2_with (first
            | (go_at_call 28; refine Rets.use (blank_any _ _) ?_; intro _)
            | (at_builtin; refine wpList_append_own _ rfl _ _ 45 rfl w.heap.size 61 i0 (.agg #[.string ByteArray.empty, .int .i64 0]) 2 24 Tryd.underlying45 hi hz0 hz1 hz2 rfl (by decide) (.slice av n cap) n (wordCells ws) rfl (OwnsC.own) _ 1 1 [.string (s.extract k en), .int .i64 k] rfl rfl (new_cells _ _ _) (by simp [Value.oneCell']) (by unfold maxLen; omega) (by omega) (GeW.ge) ?_; intro v' w1 hown1 hgrow1 _; obtain ⟨av', cap', rfl⟩ := owns_shape hown1; obtain ⟨y1, rfl⟩ := fin (Ext.grown (a := w) isext (OwnsC.own (e := 61) (size := 2) (n := n) (xs := wordCells ws)) hgrow1); clear hgrow1; have hO : OwnsC y1.x w.heap.size 61 2 (.slice av' (n + 1) cap') (n + 1) (wordCells ws ++ [.string (s.extract k en), .int .i64 k]) := ⟨hown1⟩))
          refine Rets.use (while_blank s en _ (by omega) (by omega) hm) ?_
          intro _
          go_wp2
          go_roundw
          case rel => exact ⟨Fie.stop Fie.blank s en, n + 1, ws ++ [(s.extract k en, (k : Int))], b2.2, by omega, by show _ = _; rw [List.length_append, Hn.out]; rfl, rfl, Hr.out.trans e.out, by rw [wordCells_snoc]; infer_instance, isext⟩
          case measure => simp [intOf]; omega
end Go.Proofs.YtdhbgelijjlifaaDoor
