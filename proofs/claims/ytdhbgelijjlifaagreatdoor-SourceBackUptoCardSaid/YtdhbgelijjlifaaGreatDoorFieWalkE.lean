/- Walk: a line cut into fields. -/
import Derived.Test.YtdhbgelijjlifaaGreatDoorFiePlainE
import Derived.Test.YtdhbgelijjlifaaGreatDoorOwns
set_option linter.unusedVariables false
set_option linter.unusedSimpArgs false
namespace Go.Proofs.YtdhbgelijjlifaaGreatDoor
open Go.RowKit
theorem Tryz.infoWord : (Tryz.prog.info? 68).map (fun i => (i.zero, i.size, i.bytes)) = some (some (.agg #[.string ByteArray.empty, .int .i64 0]), 2, 24) := by kernel_rfl
theorem tail_no {s : ByteArray} {en : Nat} (h : tailOk s en = false) : ∃ hl : en < s.size, ((s[en].toNat : Int) != 35) = true ∧ Fie.blank s[en] = false := by
 unfold tailOk at h
 by_cases hl : en < s.size
 · rw [dif_pos hl] at h
   simp only [Bool.or_eq_false_iff, decide_eq_false_iff_not] at h
   exact ⟨hl, by simpa using h.1, h.2⟩
 · rw [dif_neg hl] at h; cases h
theorem tail_yes {s : ByteArray} {en : Nat} (h : tailOk s en = true) : s.size ≤ en ∨ (∃ hl : en < s.size, ((s[en].toNat : Int) != 35) = false) ∨ (∃ hl : en < s.size, ((s[en].toNat : Int) != 35) = true ∧ Fie.blank s[en] = true) := by
 unfold tailOk at h
 by_cases hl : en < s.size
 · rw [dif_pos hl] at h
   by_cases c : (s[en].toNat : Int) = 35
   · exact .inr (.inl ⟨hl, by simpa using c⟩)
   · exact .inr (.inr ⟨hl, by simpa using c, by simpa [c] using h⟩)
 · exact .inl (by omega)
theorem wordCells_snoc (l : List (ByteArray × Int)) (x : ByteArray × Int) : wordCells (l ++ [x]) = wordCells l ++ [.string x.1, .int .i64 x.2] := by
 induction l with
 | nil => rfl
 | cons y l ih => simp [wordCells, ih]
def SplitEnd (w : World) (r : List (ByteArray × Int) × Int × Int) (e : Ending) (w' : World) : Prop :=
 ∃ v, ∃ y : Past w, e = .returned (.tuple #[v, .int .i64 r.2.1, .int .i64 r.2.2]) ∧ y.x.ownsRow w.heap.size 68 2 v r.1.length (wordCells r.1) ∧ w' = y.x
theorem split_bad {w w' : World} [h : ExtC w w'] {r : List (ByteArray × Int) × Int × Int} {p e : Int} (he : r = ([], p, e)) : SplitEnd w r (.returned (.tuple #[.slice none 0 0, .int .i64 p, .int .i64 e])) w' := by
 subst he
 exact ⟨_, ⟨w', h.ext⟩, rfl, World.ownsRow_nil _ _ _ _, rfl⟩
theorem split_good {w w' : World} [h : ExtC w w'] {r : List (ByteArray × Int) × Int × Int} {v : Value} {ws : List (ByteArray × Int)} {n : Nat} (hn : ws.length = n) [k : OwnsC w' w.heap.size 68 2 v n (wordCells ws)] (he : r = (ws, 0, 0)) :
 SplitEnd w r (.returned (.tuple #[v, .int .i64 0, .int .i64 0])) w' := by
 subst he
 subst hn
 exact ⟨_, ⟨w', h.ext⟩, rfl, k.own, rfl⟩
set_option maxHeartbeats 1000000 in
theorem split_long (s : ByteArray) (w : World) (hs : s.size ≤ maxLen) (h : 500 < s.size) : Calls Tryz.prog 47 #[.string s] w (SplitEnd w ([], 500, 12)) := by
 unfold maxLen at hs
 go_enter Tryz.func47, Tryz.ntmps47
 go_wp2
 go_ret3
 exact split_bad rfl
set_option maxRecDepth 100000 in
set_option maxHeartbeats 4000000 in
theorem split_any (s : ByteArray) (w : World) (hs : s.size ≤ 500) : Calls Tryz.prog 47 #[.string s] w (SplitEnd w (run s (Fie.stop Fie.blank s 0) [])) := by
 have hm : s.size ≤ maxLen := by unfold maxLen; omega
 have b0 := Fie.stop_le Fie.blank s 0 (by omega)
 obtain ⟨i0, hi, hz0, hz1, hz2⟩ := info_parts Tryz.infoWord
 go_enter Tryz.func47, Tryz.ntmps47
 go_wp2_with (go_at_call 78; refine Rets.use (while_blank s 0 _ (by omega) (by omega) hm) ?_; intro _)
 go_loopw [5, 6] (fun v i wr => ∃ (k n : Nat) (ws : List (ByteArray × Int)), k ≤ s.size ∧ n ≤ 16 ∧ Hid (ws.length = n) ∧ i = .int .i64 k ∧ Hid (run s (Fie.stop Fie.blank s 0) [] = run s k ws) ∧ OwnsC wr w.heap.size 68 2 v n (wordCells ws) ∧ Ext w wr) (fun _ i _ => s.size - (intOf i).toNat)
 case atStart => exact ⟨_, 0, [], b0.2, by omega, rfl, rfl, rfl, ⟨World.ownsRow_nil _ _ _ _⟩, isext⟩
 case round =>
  obtain ⟨k, n, ws, k1, n1, Hn, rfl, Hr, hown, hx⟩ := hrel
  obtain ⟨yr, rfl⟩ := fin hx
  clear hx
  obtain ⟨av, cap, rfl⟩ := owns_shape hown.own
  by_cases c0 : k < s.size
  rotate_left
  · have e := Lib.hid (run_end s k ws (by omega))
    go_wp2
    go_ret3
    exact split_good (v := .slice av n cap) Hn.out (Hr.out.trans e.out)
  by_cases c1 : (s[k].toNat : Int) = 35
  · have e := Lib.hid (run_hash s k ws c0 c1)
    have g1 : ((s[k].toNat : Int) != 35) = false := by simpa using c1
    clear c1
    go_wp2
    go_ret3
    exact split_good (v := .slice av n cap) Hn.out (Hr.out.trans e.out)
  have g0 : ((s[k].toNat : Int) == 35) = false := by simpa using c1
  have g1 : ((s[k].toNat : Int) != 35) = true := by simpa using c1
  by_cases c2 : (s[k].toNat : Int) = 34
  · have q1 : ((s[k].toNat : Int) == 34) = true := by simpa using c2
    by_cases c4 : n = 16
    · have e := Lib.hid (run_bad s k ws k 12 c0 c1 (by unfold cut; rw [dif_pos c0, if_pos c2, if_pos (by rw [Hn.out]; exact c4)]))
      subst c4
      clear c1 c2
      go_wp2
      go_ret3
      exact split_bad (Hr.out.trans e.out)
    have n4 : ¬ ws.length = 16 := by rw [Hn.out]; exact c4
    have N4 := Lib.hid n4
    clear n4
    have b1 := Fie.stop_le Fie.within s (k + 1) (by omega)
    have hk1 : ((k : Int) + 1).toNat = k + 1 := by omega
    obtain ⟨e, hen⟩ : ∃ e, Fie.stop Fie.within s (k + 1) = e := ⟨_, rfl⟩
    rw [hen] at b1
    by_cases c5 : e < s.size
    rotate_left
    · have E := Lib.hid (run_bad s k ws (wrongI s k e) 6 c0 c1 (by unfold cut; rw [dif_pos c0, if_pos c2, if_neg N4.out, dif_neg (by rw [hen]; exact c5), hen]))
      have g2 : ((e : Int) == (s.size : Int)) = true := beq_iff_eq.2 (by omega)
      clear c1 c2
      go_wp2_with fail
      refine Rets.use (while_within s (k + 1) _ (by omega) (by omega) hm) ?_
      intro _
      go_wp2_with (go_at_call 82; refine Rets.use (wrong_any s k e _ (by omega) (by omega) (by omega) hm) ?_; intro _)
      go_ret3
      exact split_bad (Hr.out.trans E.out)
    have g2 : ((e : Int) == (s.size : Int)) = false := beq_eq_false_iff_ne.2 (by omega)
    by_cases c6 : (s[e].toNat : Int) = 34
    rotate_left
    · have E := Lib.hid (run_bad s k ws (wrongI s k e) 6 c0 c1 (by unfold cut; rw [dif_pos c0, if_pos c2, if_neg N4.out]; simp only [hen]; rw [dif_pos c5, if_neg c6]))
      have g3 : ((s[e].toNat : Int) != 34) = true := by simpa using c6
      clear c1 c2 c6
      go_wp2_with fail
      refine Rets.use (while_within s (k + 1) _ (by omega) (by omega) hm) ?_
      intro _
      go_wp2_with (go_at_call 82; refine Rets.use (wrong_any s k e _ (by omega) (by omega) (by omega) hm) ?_; intro _)
      go_ret3
      exact split_bad (Hr.out.trans E.out)
    have g3 : ((s[e].toNat : Int) != 34) = false := by simpa using c6
    have he1 : ((e : Int) + 1).toNat = e + 1 := by omega
    cases c7 : tailOk s (e + 1)
    · have E := Lib.hid (run_bad s k ws ((e + 1 : Nat) : Int) 6 c0 c1 (by unfold cut; rw [dif_pos c0, if_pos c2, if_neg N4.out]; simp only [hen]; rw [dif_pos c5, if_pos c6, if_neg (by rw [c7]; simp)]))
      obtain ⟨t0, t1, t2⟩ := tail_no c7
      clear c1 c2 c6 c7
      go_wp2_with fail
      refine Rets.use (while_within s (k + 1) _ (by omega) (by omega) hm) ?_
      intro _
      go_wp2_with (go_at_call 79; refine Rets.use (blank_any _ _) ?_; intro _)
      go_ret3
      exact split_bad (Hr.out.trans E.out)
    · have E := Lib.hid (run_good s k ws (k + 1) e (e + 1) c0 c1 (by unfold cut; rw [dif_pos c0, if_pos c2, if_neg N4.out]; simp only [hen]; rw [dif_pos c5, if_pos c6, if_pos c7]))
      have b2 := Fie.stop_le Fie.blank s (e + 1) (by omega)
      rcases tail_yes c7 with t0 | ⟨t0, t1⟩ | ⟨t0, t1, t2⟩
      all_goals
       clear c1 c2 c6 c7
       go_wp2_with fail
       refine Rets.use (while_within s (k + 1) _ (by omega) (by omega) hm) ?_
       intro _
       go_wp2_with (first
        | (go_at_call 79; refine Rets.use (blank_any _ _) ?_; intro _)
        | (at_builtin; refine wpList_append_own _ rfl _ _ 37 rfl w.heap.size 68 i0 (.agg #[.string ByteArray.empty, .int .i64 0]) 2 24 Tryz.underlying37 hi hz0 hz1 hz2 rfl (by decide) (.slice av n cap) n (wordCells ws) rfl (OwnsC.own) _ 1 1 [.string (s.extract (k + 1) e), .int .i64 k] rfl rfl (new_cells _ _ _) (by simp [Value.oneCell']) (by unfold maxLen; omega) (by omega) (GeW.ge) ?_; intro v' w1 hown1 hgrow1 _; obtain ⟨av', cap', rfl⟩ := owns_shape hown1; obtain ⟨y1, rfl⟩ := fin (Ext.grown (a := w) isext (OwnsC.own (e := 68) (size := 2) (n := n) (xs := wordCells ws)) hgrow1); clear hgrow1; have hO : OwnsC y1.x w.heap.size 68 2 (.slice av' (n + 1) cap') (n + 1) (wordCells ws ++ [.string (s.extract (k + 1) e), .int .i64 k]) := ⟨hown1⟩))
       refine Rets.use (while_blank s (e + 1) _ (by omega) (by omega) hm) ?_
       intro _
       go_wp2
       go_roundw
       case rel => exact ⟨Fie.stop Fie.blank s (e + 1), n + 1, ws ++ [(s.extract (k + 1) e, (k : Int))], b2.2, by omega, by show _ = _; rw [List.length_append, Hn.out]; rfl, rfl, Hr.out.trans E.out, by rw [wordCells_snoc]; infer_instance, isext⟩
       case measure => simp [intOf]; omega
  · have q1 : ((s[k].toNat : Int) == 34) = false := by simpa using c2
    cases c3 : Fie.bare s[k]
    · have e := Lib.hid (run_bad s k ws k 6 c0 c1 (by unfold cut; rw [dif_pos c0, if_neg c2, if_pos c3]))
      clear c1 c2
      go_wp2_with (go_at_call 80; refine Rets.use (bare_any _ _) ?_; intro _)
      go_ret3
      exact split_bad (Hr.out.trans e.out)
    by_cases c4 : n = 16
    · have e := Lib.hid (run_bad s k ws k 12 c0 c1 (by unfold cut; rw [dif_pos c0, if_neg c2, if_neg (by rw [c3]; simp), if_pos (by rw [Hn.out]; exact c4)]))
      subst c4
      clear c1 c2
      go_wp2_with (go_at_call 80; refine Rets.use (bare_any _ _) ?_; intro _)
      go_ret3
      exact split_bad (Hr.out.trans e.out)
    have b1 := Fie.stop_le Fie.bare s k (by omega)
    obtain ⟨en, hen⟩ : ∃ en, Fie.stop Fie.bare s k = en := ⟨_, rfl⟩
    rw [hen] at b1
    cases c5 : tailOk s en
    · have e := Lib.hid (run_bad s k ws en 6 c0 c1 (by unfold cut; rw [dif_pos c0, if_neg c2, if_neg (by rw [c3]; simp), if_neg (by rw [Hn.out]; exact c4), hen, if_neg (by rw [c5]; simp)]))
      obtain ⟨t0, t1, t2⟩ := tail_no c5
      clear c1 c2 c5
      go_wp2_with (go_at_call 80; refine Rets.use (bare_any _ _) ?_; intro _)
      refine Rets.use (while_bare s k _ (by omega) (by omega) hm) ?_
      intro _
      go_wp2_with (go_at_call 79; refine Rets.use (blank_any _ _) ?_; intro _)
      go_ret3
      exact split_bad (Hr.out.trans e.out)
    · have e := Lib.hid (run_good s k ws k en en c0 c1 (by unfold cut; rw [dif_pos c0, if_neg c2, if_neg (by rw [c3]; simp), if_neg (by rw [Hn.out]; exact c4), hen, if_pos c5]))
      have b2 := Fie.stop_le Fie.blank s en (by omega)
      have b3 := (Fie.stop_le Fie.bare s (k + 1) (by omega)).1
      rw [← Fie.stop_yes Fie.bare s k c0 c3, hen] at b3
      rcases tail_yes c5 with t0 | ⟨t0, t1⟩ | ⟨t0, t1, t2⟩
      all_goals
       clear c1 c2 c5
       go_wp2_with (go_at_call 80; refine Rets.use (bare_any _ _) ?_; intro _)
       refine Rets.use (while_bare s k _ (by omega) (by omega) hm) ?_
       intro _
       go_wp2_with (first
        | (go_at_call 79; refine Rets.use (blank_any _ _) ?_; intro _)
        | (at_builtin; refine wpList_append_own _ rfl _ _ 37 rfl w.heap.size 68 i0 (.agg #[.string ByteArray.empty, .int .i64 0]) 2 24 Tryz.underlying37 hi hz0 hz1 hz2 rfl (by decide) (.slice av n cap) n (wordCells ws) rfl (OwnsC.own) _ 1 1 [.string (s.extract k en), .int .i64 k] rfl rfl (new_cells _ _ _) (by simp [Value.oneCell']) (by unfold maxLen; omega) (by omega) (GeW.ge) ?_; intro v' w1 hown1 hgrow1 _; obtain ⟨av', cap', rfl⟩ := owns_shape hown1; obtain ⟨y1, rfl⟩ := fin (Ext.grown (a := w) isext (OwnsC.own (e := 68) (size := 2) (n := n) (xs := wordCells ws)) hgrow1); clear hgrow1; have hO : OwnsC y1.x w.heap.size 68 2 (.slice av' (n + 1) cap') (n + 1) (wordCells ws ++ [.string (s.extract k en), .int .i64 k]) := ⟨hown1⟩))
       refine Rets.use (while_blank s en _ (by omega) (by omega) hm) ?_
       intro _
       go_wp2
       go_roundw
       case rel => exact ⟨Fie.stop Fie.blank s en, n + 1, ws ++ [(s.extract k en, (k : Int))], b2.2, by omega, by show _ = _; rw [List.length_append, Hn.out]; rfl, rfl, Hr.out.trans e.out, by rw [wordCells_snoc]; infer_instance, isext⟩
       case measure => simp [intOf]; omega
end Go.Proofs.YtdhbgelijjlifaaGreatDoor
namespace Go.Proofs.YtdhbgelijjlifaaGreatDoor
open Go.RowKit
set_option maxRecDepth 100000 in
set_option maxHeartbeats 400000 in
theorem rbare_same (c : UInt8) (w : World) : Calls Tryz.prog 34 #[.int .u8 c.toNat] w fun e w' => e = .returned (.bool (Fie.bare c)) ∧ w = w' := by
 go_enter Tryz.func34, Tryz.ntmps34
 go_wp2
 all_goals (go_ret; refine ⟨ret_bool ?_, rfl⟩; rw [Bool.eq_iff_iff]; simp [Fie.bare, *]; try omega)
set_option maxHeartbeats 400000 in
theorem rblank_same (c : UInt8) (w : World) : Calls Tryz.prog 33 #[.int .u8 c.toNat] w fun e w' => e = .returned (.bool (Fie.blank c)) ∧ w = w' := by
 go_enter Tryz.func33, Tryz.ntmps33
 go_wp2
 all_goals (go_ret; refine ⟨ret_bool ?_, rfl⟩; rw [Bool.eq_iff_iff]; simp [Fie.blank, *]; try omega)
set_option maxHeartbeats 1000000 in
theorem rsplit_long (s : ByteArray) (w : World) (hs : s.size ≤ maxLen) (h : 500 < s.size) : Calls Tryz.prog 17 #[.string s] w (SplitEnd w ([], 500, 12)) := by
 unfold maxLen at hs
 go_enter Tryz.func17, Tryz.ntmps17
 go_wp2
 go_ret3
 exact split_bad rfl
theorem within_yes {c : UInt8} (h : Fie.within c = true) : decide ((c.toNat : Int) < 32) = false ∧ decide (126 < (c.toNat : Int)) = false := by
 simp [Fie.within] at h; constructor <;> simp <;> omega
theorem within_no {c : UInt8} (h : Fie.within c = false) (hq : Fie.noq c = true) : (c.toNat : Int) < 32 ∨ (decide ((c.toNat : Int) < 32) = false ∧ 126 < (c.toNat : Int)) := by
 simp [Fie.within] at h; simp [Fie.noq] at hq
 by_cases g : (c.toNat : Int) < 32
 · exact .inl g
 · refine .inr ⟨decide_eq_false g, ?_⟩; omega
theorem noq_ahead (s : ByteArray) : ∀ (f k j : Nat) (_ : s.size - k = f) (_ : k ≤ j) (hj : j < s.size), j < Fie.stop Fie.noq s k → Fie.noq s[j] = true
 | 0, k, j, hf, h, hj, hs => by omega
 | f + 1, k, j, hf, h, hj, hs => by
   have hk : k < s.size := by omega
   cases hp : Fie.noq s[k]
   · rw [Fie.stop_no Fie.noq s k hk hp] at hs; omega
   · by_cases e : k = j
     · subst e; exact hp
     · rw [Fie.stop_yes Fie.noq s k hk hp] at hs
       exact noq_ahead s f (k + 1) j (by omega) (by omega) hj hs
theorem stop_at (p : UInt8 → Bool) (s : ByteArray) : ∀ (f k : Nat) (_ : s.size - k = f) (h : Fie.stop p s k < s.size), p s[Fie.stop p s k] = false
 | 0, k, hf, h => by rw [Fie.stop_end p s k (by omega)] at h; omega
 | f + 1, k, hf, h => by
   have hk : k < s.size := by omega
   cases hp : p s[k]
   · have e := Fie.stop_no p s k hk hp
     simp only [e]; exact hp
   · have e := Fie.stop_yes p s k hk hp
     simp only [e]
     exact stop_at p s f (k + 1) (by omega) (by rw [← e]; exact h)
theorem quote_none {s : ByteArray} {k cnt : Nat} (c0 : k < s.size) (c2 : (s[k].toNat : Int) = 34) (c4 : ¬ cnt = 16) (hq : Fie.stop Fie.noq s (k + 1) = s.size) : cut s k cnt = bad k 6 := by
 have hw : wrongI s k (Fie.stop Fie.within s (k + 1)) = k := if_pos hq
 unfold cut
 rw [dif_pos c0, if_pos c2, if_neg c4]
 by_cases c5 : Fie.stop Fie.within s (k + 1) < s.size
 · rw [dif_pos c5]
   have hn := noq_ahead s _ (k + 1) _ rfl (Fie.stop_le Fie.within s (k + 1) (by omega)).1 c5 (by omega)
   rw [if_neg (by simp [Fie.noq] at hn; omega), hw]
 · rw [dif_neg c5, hw]
theorem quote_at {s : ByteArray} {k q : Nat} (hq : Fie.stop Fie.noq s k = q) (h : q < s.size) : (s[q].toNat : Int) = 34 ∧ Fie.within s[q] = false := by
 subst hq
 have := stop_at Fie.noq s _ k rfl h
 have e : (s[Fie.stop Fie.noq s k].toNat : Int) = 34 := by simp [Fie.noq] at this; exact this
 exact ⟨e, by simp [Fie.within]; omega⟩
theorem quote_byte {s : ByteArray} {k cnt q j : Nat} (c0 : k < s.size) (c2 : (s[k].toNat : Int) = 34) (c4 : ¬ cnt = 16) (hq : Fie.stop Fie.noq s (k + 1) = q) (hj : Fie.stop Fie.within s (k + 1) = j) (d0 : j < q) (c5 : q < s.size) : cut s k cnt = bad j 6 := by
 have hw : wrongI s k j = j := if_neg (by omega)
 have hb := (Fie.stop_le Fie.within s (k + 1) (by omega)).1
 have hn := noq_ahead s _ (k + 1) j rfl (by omega) (by omega) (by omega)
 unfold cut
 rw [dif_pos c0, if_pos c2, if_neg c4]
 simp only [hj]
 rw [dif_pos (by omega), if_neg (by simp [Fie.noq] at hn; omega), hw]
theorem quote_full {s : ByteArray} {k cnt q : Nat} (c0 : k < s.size) (c2 : (s[k].toNat : Int) = 34) (c4 : ¬ cnt = 16) (hj : Fie.stop Fie.within s (k + 1) = q) (c5 : q < s.size) (c6 : (s[q].toNat : Int) = 34) : cut s k cnt = if tailOk s (q + 1) = true then good (k + 1) q (q + 1) else bad ((q + 1 : Nat) : Int) 6 := by
 unfold cut
 rw [dif_pos c0, if_pos c2, if_neg c4]
 simp only [hj]
 rw [dif_pos c5, if_pos c6]
set_option maxRecDepth 100000 in
set_option maxHeartbeats 4000000 in
theorem rsplit_any (s : ByteArray) (w : World) (hs : s.size ≤ 500) : Calls Tryz.prog 17 #[.string s] w (SplitEnd w (run s (Fie.stop Fie.blank s 0) [])) := by
 have hm : s.size ≤ maxLen := by unfold maxLen; omega
 obtain ⟨i0, hi, hz0, hz1, hz2⟩ := info_parts Tryz.infoWord
 go_enter Tryz.func17, Tryz.ntmps17
 go_wp2
 go_loopw [5, 6] (fun v i wr => ∃ (k n : Nat) (ws : List (ByteArray × Int)), k ≤ s.size ∧ n ≤ 16 ∧ Hid (ws.length = n) ∧ i = .int .i64 k ∧ Hid (run s (Fie.stop Fie.blank s 0) [] = run s (Fie.stop Fie.blank s k) ws) ∧ OwnsC wr w.heap.size 68 2 v n (wordCells ws) ∧ Ext w wr) (fun _ i _ => s.size - (intOf i).toNat)
 case atStart => exact ⟨0, 0, [], by omega, by omega, rfl, rfl, rfl, ⟨World.ownsRow_nil _ _ _ _⟩, isext⟩
 case round =>
  obtain ⟨k, n, ws, k1, n1, Hn, rfl, Hr, hown, hx⟩ := hrel
  obtain ⟨yr, rfl⟩ := fin hx
  clear hx
  obtain ⟨av, cap, rfl⟩ := owns_shape hown.own
  by_cases c0 : k < s.size
  rotate_left
  · have e := Lib.hid (run_end s (Fie.stop Fie.blank s k) ws (by rw [Fie.stop_end Fie.blank s k (by omega)]; omega))
    go_wp2
    go_ret3
    exact split_good (v := .slice av n cap) Hn.out (Hr.out.trans e.out)
  cases cb : Fie.blank s[k]
  rotate_left
  · have g1 : ((s[k].toNat : Int) != 35) = true := by simp [Fie.blank] at cb; simp; omega
    have e := Lib.hid (Fie.stop_yes Fie.blank s k c0 cb)
    go_wp2_with (go_at_call 33; refine (rblank_same _ _).mono ?_; rintro _ _ ⟨rfl, rfl⟩)
    go_roundw
    case rel => exact ⟨k + 1, n, ws, by omega, n1, Hn, by go_num, Hr.out.trans (by rw [e.out]), hown, isext⟩
    case measure => simp [intOf]; omega
  have hk0 := Fie.stop_no Fie.blank s k c0 cb
  have Hr' : Hid (run s (Fie.stop Fie.blank s 0) [] = run s k ws) := by show _ = _; rw [Hr.out, hk0]
  clear Hr hk0
  by_cases c1 : (s[k].toNat : Int) = 35
  · have e := Lib.hid (run_hash s k ws c0 c1)
    have g1 : ((s[k].toNat : Int) != 35) = false := by simpa using c1
    clear c1
    go_wp2
    go_ret3
    exact split_good (v := .slice av n cap) Hn.out (Hr'.out.trans e.out)
  have g1 : ((s[k].toNat : Int) != 35) = true := by simpa using c1
  by_cases c2 : (s[k].toNat : Int) = 34
  rotate_left
  · have q1 : ((s[k].toNat : Int) == 34) = false := by simpa using c2
    have q2 : ((s[k].toNat : Int) != 34) = true := by simpa using c2
    cases c3 : Fie.bare s[k]
    · have e := Lib.hid (run_bad s k ws k 6 c0 c1 (by unfold cut; rw [dif_pos c0, if_neg c2, if_pos c3]))
      clear c1 c2
      go_wp2_with (first | (go_at_call 33; refine (rblank_same _ _).mono ?_; rintro _ _ ⟨rfl, rfl⟩) | (go_at_call 34; refine (rbare_same _ _).mono ?_; rintro _ _ ⟨rfl, rfl⟩))
      go_ret3
      exact split_bad (Hr'.out.trans e.out)
    by_cases c4 : n = 16
    · have e := Lib.hid (run_bad s k ws k 12 c0 c1 (by unfold cut; rw [dif_pos c0, if_neg c2, if_neg (by rw [c3]; simp), if_pos (by rw [Hn.out]; exact c4)]))
      subst c4
      clear c1 c2
      go_wp2_with (first | (go_at_call 33; refine (rblank_same _ _).mono ?_; rintro _ _ ⟨rfl, rfl⟩) | (go_at_call 34; refine (rbare_same _ _).mono ?_; rintro _ _ ⟨rfl, rfl⟩))
      go_ret3
      exact split_bad (Hr'.out.trans e.out)
    have q4 : ((n : Int) == 16) = false := beq_eq_false_iff_ne.2 (by omega)
    have hcut : Hid (cut s k ws.length = if tailOk s (Fie.stop Fie.bare s k) = true then good k (Fie.stop Fie.bare s k) (Fie.stop Fie.bare s k) else bad (Fie.stop Fie.bare s k : Nat) 6) := by
     show _ = _; unfold cut; rw [dif_pos c0, if_neg c2, if_neg (by rw [c3]; simp), if_neg (by rw [Hn.out]; exact c4)]
    have C1 := Lib.hid c1
    clear c1 c2
    go_wp2_with (first | (go_at_call 33; refine (rblank_same _ _).mono ?_; rintro _ _ ⟨rfl, rfl⟩) | (go_at_call 34; refine (rbare_same _ _).mono ?_; rintro _ _ ⟨rfl, rfl⟩))
    go_loopw [6] (fun i wr => ∃ j : Nat, k ≤ j ∧ j ≤ s.size ∧ i = .int .i64 j ∧ Hid (Fie.stop Fie.bare s k = Fie.stop Fie.bare s j) ∧ wr = yr.x.alloc (.cells #[.string ⟨#[]⟩, .int .i64 k] 68)) (fun i _ => s.size - (intOf i).toNat)
    case atStart => exact ⟨k, by omega, by omega, rfl, rfl, rfl⟩
    case round =>
     obtain ⟨j, j1, j2, rfl, hj, rfl⟩ := hrel
     by_cases d0 : j < s.size
     · cases d1 : Fie.bare s[j]
       rotate_left
       · have e := Lib.hid (Fie.stop_yes Fie.bare s j d0 d1)
         go_wp2_with (first | (go_at_call 33; refine (rblank_same _ _).mono ?_; rintro _ _ ⟨rfl, rfl⟩) | (go_at_call 34; refine (rbare_same _ _).mono ?_; rintro _ _ ⟨rfl, rfl⟩))
         go_roundw
         case rel => exact ⟨j + 1, by omega, by omega, by go_num, hj.out.trans e.out, trivial⟩
         case measure => simp [intOf]; omega
       have hjk : k < j := by
        rcases Nat.lt_or_ge k j with h | h
        · exact h
        · have : j = k := by omega
          subst this; rw [c3] at d1; cases d1
       have ej : Hid (Fie.stop Fie.bare s k = j) := hj.out.trans (Fie.stop_no Fie.bare s j d0 d1)
       cases c5 : tailOk s j
       · have e := Lib.hid (run_bad s k ws (j : Nat) 6 c0 C1.out (by rw [hcut.out, ej.out, if_neg (by rw [c5]; simp)]))
         obtain ⟨_, t1, t2⟩ := tail_no c5
         clear c5
         go_wp2_with (first | (go_at_call 33; refine (rblank_same _ _).mono ?_; rintro _ _ ⟨rfl, rfl⟩) | (go_at_call 34; refine (rbare_same _ _).mono ?_; rintro _ _ ⟨rfl, rfl⟩))
         go_ret3
         exact split_bad (Hr'.out.trans e.out)
       · have e := Lib.hid (run_good s k ws k j j c0 C1.out (by rw [hcut.out, ej.out, if_pos c5]))
         have t1 : ((s[j].toNat : Int) != 35) = false ∧ Fie.blank s[j] = false ∨ Fie.blank s[j] = true := by
          rcases tail_yes c5 with t0 | ⟨t0, t1⟩ | ⟨t0, t1, t2⟩
          · omega
          · refine .inl ⟨t1, ?_⟩; simp at t1; simp [Fie.blank]; omega
          · exact .inr t2
         clear c5
         rcases t1 with ⟨t1, t2⟩ | t1
         all_goals
          go_wp2_with (first | (go_at_call 33; refine (rblank_same _ _).mono ?_; rintro _ _ ⟨rfl, rfl⟩) | (go_at_call 34; refine (rbare_same _ _).mono ?_; rintro _ _ ⟨rfl, rfl⟩) | (at_builtin; refine wpList_append_own _ rfl _ _ 37 rfl w.heap.size 68 i0 (.agg #[.string ByteArray.empty, .int .i64 0]) 2 24 Tryz.underlying37 hi hz0 hz1 hz2 rfl (by decide) (.slice av n cap) n (wordCells ws) rfl (OwnsC.own) _ 1 1 [.string (s.extract k j), .int .i64 k] rfl rfl (new_cells' _ _ _ _ (by simp)) (by simp [Value.oneCell']) (by unfold maxLen; omega) (by omega) (GeW.ge) ?_; intro v' w1 hown1 hgrow1 _; obtain ⟨av', cap', rfl⟩ := owns_shape hown1; obtain ⟨y1, rfl⟩ := fin (Ext.grown (a := w) isext (OwnsC.own (e := 68) (size := 2) (n := n) (xs := wordCells ws)) hgrow1); clear hgrow1; have hO : OwnsC y1.x w.heap.size 68 2 (.slice av' (n + 1) cap') (n + 1) (wordCells ws ++ [.string (s.extract k j), .int .i64 k]) := ⟨hown1⟩))
          go_roundw
          case rel => exact ⟨j, n + 1, ws ++ [(s.extract k j, (k : Int))], j2, by omega, by show _ = _; rw [List.length_append, Hn.out]; rfl, rfl, Hr'.out.trans e.out, by rw [wordCells_snoc]; infer_instance, isext⟩
          case measure => simp [intOf]; omega
     · have hjk : k < j := by omega
       have ej : Hid (Fie.stop Fie.bare s k = j) := hj.out.trans (Fie.stop_end Fie.bare s j (by omega))
       have c5 : tailOk s j = true := by unfold tailOk; rw [dif_neg d0]
       have e := Lib.hid (run_good s k ws k j j c0 C1.out (by rw [hcut.out, ej.out, if_pos c5]))
       clear c5
       go_wp2_with (first | (go_at_call 33; refine (rblank_same _ _).mono ?_; rintro _ _ ⟨rfl, rfl⟩) | (go_at_call 34; refine (rbare_same _ _).mono ?_; rintro _ _ ⟨rfl, rfl⟩) | (at_builtin; refine wpList_append_own _ rfl _ _ 37 rfl w.heap.size 68 i0 (.agg #[.string ByteArray.empty, .int .i64 0]) 2 24 Tryz.underlying37 hi hz0 hz1 hz2 rfl (by decide) (.slice av n cap) n (wordCells ws) rfl (OwnsC.own) _ 1 1 [.string (s.extract k j), .int .i64 k] rfl rfl (new_cells' _ _ _ _ (by simp)) (by simp [Value.oneCell']) (by unfold maxLen; omega) (by omega) (GeW.ge) ?_; intro v' w1 hown1 hgrow1 _; obtain ⟨av', cap', rfl⟩ := owns_shape hown1; obtain ⟨y1, rfl⟩ := fin (Ext.grown (a := w) isext (OwnsC.own (e := 68) (size := 2) (n := n) (xs := wordCells ws)) hgrow1); clear hgrow1; have hO : OwnsC y1.x w.heap.size 68 2 (.slice av' (n + 1) cap') (n + 1) (wordCells ws ++ [.string (s.extract k j), .int .i64 k]) := ⟨hown1⟩))
       go_roundw
       case rel => exact ⟨j, n + 1, ws ++ [(s.extract k j, (k : Int))], j2, by omega, by show _ = _; rw [List.length_append, Hn.out]; rfl, rfl, Hr'.out.trans e.out, by rw [wordCells_snoc]; infer_instance, isext⟩
       case measure => simp [intOf]; omega
  · have q1 : ((s[k].toNat : Int) == 34) = true := by simpa using c2
    have q2 : ((s[k].toNat : Int) != 34) = false := by simpa using c2
    by_cases c4 : n = 16
    · have e := Lib.hid (run_bad s k ws k 12 c0 c1 (by unfold cut; rw [dif_pos c0, if_pos c2, if_pos (by rw [Hn.out]; exact c4)]))
      subst c4
      clear c1 c2
      go_wp2_with (first | (go_at_call 33; refine (rblank_same _ _).mono ?_; rintro _ _ ⟨rfl, rfl⟩))
      go_ret3
      exact split_bad (Hr'.out.trans e.out)
    have q4 : ((n : Int) == 16) = false := beq_eq_false_iff_ne.2 (by omega)
    have N4 : Hid (¬ ws.length = 16) := by show ¬ _; rw [Hn.out]; exact c4
    have b1 := Fie.stop_le Fie.within s (k + 1) (by omega)
    have b2 := Fie.stop_le Fie.noq s (k + 1) (by omega)
    obtain ⟨q, hq⟩ : ∃ q, Fie.stop Fie.noq s (k + 1) = q := ⟨_, rfl⟩
    rw [hq] at b2
    by_cases c5 : q < s.size
    rotate_left
    · have eq0 : Hid (Fie.secondI s (k + 1) = -1) := by show _ = _; unfold Fie.secondI; rw [hq, if_neg c5]
      have E := Lib.hid (run_bad s k ws k 6 c0 c1 (quote_none c0 c2 N4.out (by omega)))
      clear c1 c2
      have sec : ∀ w, Rets Tryz.prog 35 #[.string s, .int .i64 k] w (.int .i64 (-1)) := fun w => by
       have := second_any s k w (by omega) (by omega) hm
       rw [Int.toNat_natCast, eq0.out] at this; exact this
      go_wp2_with (first | (go_at_call 33; refine (rblank_same _ _).mono ?_; rintro _ _ ⟨rfl, rfl⟩) | (go_at_call 35; refine Rets.use (sec _) ?_; intro _))
      go_ret3
      exact split_bad (Hr'.out.trans E.out)
    have eq0 : Hid (Fie.secondI s (k + 1) = q) := by show _ = _; unfold Fie.secondI; rw [hq, if_pos c5]
    have sec : ∀ w, Rets Tryz.prog 35 #[.string s, .int .i64 k] w (.int .i64 q) := fun w => by
     have := second_any s k w (by omega) (by omega) hm
     rw [Int.toNat_natCast, eq0.out] at this; exact this
    have C1 := Lib.hid c1
    have C2 := Lib.hid c2
    have HQ := Lib.hid hq
    have Ahead : Hid (∀ j (hj : j < s.size), k + 1 ≤ j → j < q → Fie.noq s[j] = true) := fun j hj h1 h2 => noq_ahead s _ (k + 1) j rfl h1 hj (by rw [hq]; exact h2)
    clear c1 c2 hq b1
    go_wp2_with (first | (go_at_call 33; refine (rblank_same _ _).mono ?_; rintro _ _ ⟨rfl, rfl⟩) | (go_at_call 35; refine Rets.use (sec _) ?_; intro z))
    clear sec
    go_loopw [9] (fun i wr => ∃ j : Nat, k + 1 ≤ j ∧ j ≤ q ∧ i = .int .i64 j ∧ Hid (Fie.stop Fie.within s (k + 1) = Fie.stop Fie.within s j) ∧ wr = z.x) (fun i _ => s.size - (intOf i).toNat)
    case atStart => exact ⟨k + 1, by omega, by omega, by go_num, rfl, rfl⟩
    case round =>
     obtain ⟨j, j1, j2, rfl, hj, rfl⟩ := hrel
     by_cases d0 : j < q
     · have js : j < s.size := by omega
       have hn := Ahead.out j js j1 d0
       cases d1 : Fie.within s[j]
       · have ej := hj.out.trans (Fie.stop_no Fie.within s j js d1)
         have E := Lib.hid (run_bad s k ws (j : Nat) 6 c0 C1.out (quote_byte c0 C2.out N4.out HQ.out ej d0 c5))
         have d2 := within_no d1 hn
         clear hn d1 ej
         rcases d2 with d2 | ⟨d2, d3⟩
         all_goals
          go_wp2
          go_ret3
          exact split_bad (Hr'.out.trans E.out)
       · have e := Lib.hid (Fie.stop_yes Fie.within s j js d1)
         obtain ⟨d2, d3⟩ := within_yes d1
         clear hn d1
         go_wp2
         go_roundw
         case rel => exact ⟨j + 1, by omega, by omega, by go_num, hj.out.trans e.out, trivial⟩
         case measure => simp [intOf]; omega
     · obtain rfl : j = q := by omega
       have hq34 := quote_at HQ.out c5
       have ej := hj.out.trans (Fie.stop_no Fie.within s j c5 hq34.2)
       cases c7 : tailOk s (j + 1)
       · have E := Lib.hid (run_bad s k ws ((j + 1 : Nat) : Int) 6 c0 C1.out (by rw [quote_full c0 C2.out N4.out ej c5 hq34.1, if_neg (by rw [c7]; simp)]))
         obtain ⟨t0, t1, t2⟩ := tail_no c7
         clear c7 hq34 ej
         go_wp2_with (first | (go_at_call 33; refine (rblank_same _ _).mono ?_; rintro _ _ ⟨rfl, rfl⟩))
         go_ret3
         exact split_bad (Hr'.out.trans E.out)
       · have E := Lib.hid (run_good s k ws (k + 1) j (j + 1) c0 C1.out (by rw [quote_full c0 C2.out N4.out ej c5 hq34.1, if_pos c7]))
         have t1 : s.size ≤ j + 1 ∨ (∃ h : j + 1 < s.size, ((s[j + 1].toNat : Int) != 35) = false ∧ Fie.blank s[j + 1] = false) ∨ (∃ h : j + 1 < s.size, Fie.blank s[j + 1] = true) := by
          rcases tail_yes c7 with t0 | ⟨t0, t1⟩ | ⟨t0, t1, t2⟩
          · exact .inl t0
          · refine .inr (.inl ⟨t0, t1, ?_⟩); simp at t1; simp [Fie.blank]; omega
          · exact .inr (.inr ⟨t0, t2⟩)
         clear c7 hq34 ej
         rcases t1 with t0 | ⟨t0, t1, t2⟩ | ⟨t0, t1⟩
         all_goals
          go_wp2_with (first | (go_at_call 33; refine (rblank_same _ _).mono ?_; rintro _ _ ⟨rfl, rfl⟩) | (at_builtin; refine wpList_append_own _ rfl _ _ 37 rfl w.heap.size 68 i0 (.agg #[.string ByteArray.empty, .int .i64 0]) 2 24 Tryz.underlying37 hi hz0 hz1 hz2 rfl (by decide) (.slice av n cap) n (wordCells ws) rfl (OwnsC.own) _ 1 1 [.string (s.extract (k + 1) j), .int .i64 k] rfl rfl (new_cells' _ _ _ _ (by simp)) (by simp [Value.oneCell']) (by unfold maxLen; omega) (by omega) (GeW.ge) ?_; intro v' w1 hown1 hgrow1 _; obtain ⟨av', cap', rfl⟩ := owns_shape hown1; obtain ⟨y1, rfl⟩ := fin (Ext.grown (a := w) isext (OwnsC.own (e := 68) (size := 2) (n := n) (xs := wordCells ws)) hgrow1); clear hgrow1; have hO : OwnsC y1.x w.heap.size 68 2 (.slice av' (n + 1) cap') (n + 1) (wordCells ws ++ [.string (s.extract (k + 1) j), .int .i64 k]) := ⟨hown1⟩))
          go_roundw
          case rel => exact ⟨j + 1, n + 1, ws ++ [(s.extract (k + 1) j, (k : Int))], by omega, by omega, by show _ = _; rw [List.length_append, Hn.out]; rfl, by go_num, Hr'.out.trans E.out, by rw [wordCells_snoc]; infer_instance, isext⟩
          case measure => simp [intOf]; omega
end Go.Proofs.YtdhbgelijjlifaaGreatDoor
