/- Walks of rules: a year's turns, by the document. -/
import Derived.Test.YtodcgalcpnckaaaRulWalkU
import Derived.Test.YtodcgalcpnckaaaAppend
import Derived.Test.YtodcgalcpnckaaaRulWalkI
set_option linter.unusedVariables false
set_option linter.unusedSimpArgs false
namespace Go.Proofs.Ytodcgalcpnckaaa
open Go.RowKit Go.Sort Go.Shelf

theorem sort_snoc (l : List Turn) (t : Turn) : Rul.sortT (l ++ [t]) = Rul.insT (Rul.sortT l) t := by unfold Rul.sortT; rw [List.foldl_append]; rfl
theorem cut_zero (l : List Turn) (a : Int) : Rul.cutT l a 0 = 0 := rfl
theorem cut_less {l : List Turn} {a : Int} {k : Nat} (hk : k < l.length) (h : a < l[k].at') : Rul.cutT l a (k + 1) = Rul.cutT l a k := by
  rw [Rul.cutT, if_pos (by rw [List.getD_eq_getElem?_getD, List.getElem?_eq_getElem hk]; exact h)]
theorem cut_stop {l : List Turn} {a : Int} {k : Nat} (hk : k < l.length) (h : ¬ a < l[k].at') : Rul.cutT l a (k + 1) = k + 1 := by
  rw [Rul.cutT, if_neg (by rw [List.getD_eq_getElem?_getD, List.getElem?_eq_getElem hk]; exact h)]
theorem turn_one (t : Turn) : turnRow [t] = turnCells t := rfl
theorem turnRow_one : ∀ (l : List Turn), ∀ u ∈ turnRow l, u.oneCell' = true
  | [], u, h => by simp [turnRow] at h
  | t :: l, u, h => by
    rcases List.mem_append.1 h with h | h
    · simp at h
      rcases h with rfl | rfl | rfl | rfl <;> rfl
    · exact turnRow_one l u h
theorem row_take (l : List Turn) (k : Nat) : ∀ j u, (turnRow (l.take k))[j]? = some u → (turnRow l)[0 + j]? = some u := by
  intro j u h
  rw [Nat.zero_add]
  have e : turnRow l = turnRow (l.take k) ++ turnRow (l.drop k) := by rw [← turnRow_append, List.take_append_drop]
  rw [e, List.getElem?_append_left (List.getElem?_eq_some_iff.1 h).1]; exact h
theorem row_drop (l : List Turn) (k : Nat) (hk : k ≤ l.length) : ∀ j u, (turnRow (l.drop k))[j]? = some u → (turnRow l)[k * 4 + j]? = some u := by
  intro j u h
  have e : turnRow l = turnRow (l.take k) ++ turnRow (l.drop k) := by rw [← turnRow_append, List.take_append_drop]
  have hl : (turnRow (l.take k)).length = k * 4 := by rw [turnRow_length, List.length_take]; omega
  rw [e, List.getElem?_append_right (by omega), hl, show k * 4 + j - k * 4 = j by omega]; exact h
theorem ins_row (l : List Turn) (t : Turn) (k : Nat) (hk : Rul.cutT l t.at' l.length = k) : turnRow (Rul.insT l t) = (turnRow (l.take k) ++ turnCells t) ++ turnRow (l.drop k) := by
  unfold Rul.insT
  rw [hk, turnRow_append]
  show turnRow (l.take k) ++ (turnCells t ++ turnRow (l.drop k)) = _
  simp
set_option maxRecDepth 100000 in
set_option maxHeartbeats 16000000 in
theorem rturns_any (l : List Rule) (n : Nat) (hn : l.length = n) (h9 : n ≤ 1000) (y : Int) (v : Value) (w : World) (hr : Reads w v n (ruleRow l)) :
    Calls Try.prog 14 #[v, .int .i64 y] w (TurnsEnd w (Rul.turnsG l y)) := by
  obtain ⟨i0, hi, hz0, hz1, hz2⟩ := info_partsT Try.infoTurn
  have hG : Hid (Rul.turnsG l y = Rul.sortT (Rul.turnL l y)) := rfl
  generalize Rul.turnsG l y = G at *
  by_cases h0 : n = 0
  · obtain ⟨a9, c9, rfl⟩ := nil_shape hr h0
    obtain rfl := List.eq_nil_of_length_eq_zero (hn.trans h0)
    have hG : Hid (G = []) := hG.out
    clear hr hn
    go_enter Try.func14, Try.ntmps14
    go_wp2
    refine wp_loop_rounds 1 ?_
    simp only [rounds_succ]
    go_wp2
    go_ret
    exact ⟨_, ⟨_, isext⟩, rfl, by rw [hG.out]; exact Reads.nil _, rfl⟩
  · rcases hr with ⟨_, _, rfl, h1, _⟩ | ⟨b, o, c, rfl, k1, k2, m1, hc⟩
    · exact absurd h1 h0
    haveI : InW b w := ⟨m1⟩
    have HC := Lib.hid hc
    have Hn := Lib.hid hn
    clear hc hn
    go_enter Try.func14, Try.ntmps14
    go_wp2
    go_loopw [5, 6] (fun ov iv wr => ∃ (j m : Nat) (ls : List Turn), j ≤ n ∧ m ≤ j ∧ iv = .int .i64 j ∧ Hid (ls.length = m) ∧ Hid (Rul.sortT (Rul.turnL (l.take j) y) = ls) ∧ OwnsC wr w.heap.size 30 4 ov m (turnRow ls) ∧ Ext w wr) (fun _ i _ => n - (intOf i).toNat)
    case atStart => exact ⟨0, 0, [], by omega, by omega, rfl, rfl, rfl, ⟨World.ownsRow_nil _ _ _ _⟩, isext⟩
    case round =>
      obtain ⟨j, m, ls, j2, m2, rfl, Hm, Hl, hown, hx⟩ := hrel
      obtain ⟨yr, rfl⟩ := fin hx
      clear hx
      by_cases hlt : j < n
      · have hj : j < l.length := by rw [Hn.out]; exact hlt
        obtain ⟨c0, c1, c2, c3, c4, c5, c6, c7, c8, c9, c10⟩ := rule_at HC.out j hj
        have HT := fun w => Lib.hid (rturn_any l[j] y w)
        have HQ : Rul.turnB l[j] y = true → Hid (Rul.rturnOf l[j] y = Rul.turnOf l[j] y) := fun h => by show _ = _; unfold Rul.rturnOf; rw [if_pos h]
        have Eno := fun h => Lib.hid (Rul.turnL_no (y := y) hj h)
        have Eyes := fun h => Lib.hid (Rul.turnL_yes (y := y) hj h)
        generalize Rul.turnOf l[j] y = tt at *
        generalize Rul.rturnOf l[j] y = rt at *
        generalize Rul.turnB l[j] y = tb at *
        generalize l[j] = x at *
        obtain ⟨nm, a, b', mm, k, wd, d, t, r, s, lt⟩ := x
        simp only at c0 c1 c2 c3 c4 c5 c6 c7 c8 c9 c10
        cases tb
        · have E : Hid (Rul.sortT (Rul.turnL (l.take (j + 1)) y) = ls) := by show _ = _; rw [(Eno rfl).out, Hl.out]
          obtain ⟨ta, tr, ts, tl⟩ := rt
          clear Eno Eyes HQ
          obtain ⟨av, cap, rfl⟩ := owns_shape hown.own
          go_wp2_with (go_at_call 33; refine Rets.use (HT _).out ?_; intro y2)
          go_roundw
          case rel => exact ⟨j + 1, m, ls, by omega, by omega, by go_num, Hm, E, inferInstance, isext⟩
          case measure => simp [intOf]; omega
        · obtain rfl : rt = tt := (HQ rfl).out
          have E : Hid (Rul.sortT (Rul.turnL (l.take (j + 1)) y) = Rul.insT ls rt) := by show _ = _; rw [(Eyes rfl).out, sort_snoc, Hl.out]
          clear Eno Eyes HQ
          obtain ⟨ta, tr, ts, tl⟩ := rt
          have hHK : Hid (Rul.cutT ls ta ls.length = Rul.cutT ls ta m) := by show _ = _; rw [Hm.out]
          rcases owns_none hown.own with ⟨rfl, rfl⟩ | ⟨g, cap, rfl, g1, g2, g3, g4⟩
          · have HK : Hid (Rul.cutT ls (⟨ta, tr, ts, tl⟩ : Turn).at' ls.length = 0) := hHK.out
            go_wp2_with (go_at_call 33; refine Rets.use (HT _).out ?_; intro y2)
            refine wp_loop_rounds 1 ?_
            simp only [rounds_succ]
            go_wp2_with fail
            refine wp_region_past (by kernel_rfl) (by kernel_rfl) ?_
            repeat (go_big_quiet_step (fail))
            refine wpQuiet_nil ?_
            intro z
            have hls : ls = [] := List.eq_nil_of_length_eq_zero Hm.out
            have sr1 : SrcRow z.x (.slice none 0 0) 0 (turnRow (ls.take 0)) := .inl ⟨0, rfl, rfl, by rw [hls]; simp [turnRow]⟩
            have sr3 : SrcRow z.x (.slice none 0 0) 0 (turnRow (ls.drop 0)) := .inl ⟨0, rfl, rfl, by rw [hls]; simp [turnRow]⟩
            clear hls
            go_wp2_with (first | (at_builtin; refine wpList_append_src _ rfl _ _ 24 rfl z.x.heap.size 30 i0 (.agg #[.int .i64 0, .int .i64 0, .int .i64 0, .string ByteArray.empty]) 4 40 Try.underlying24 hi hz0 hz1 hz2 rfl (by decide) (.slice none 0 0) 0 [] rfl (World.ownsRow_nil z.x z.x.heap.size 30 4) (.slice none 0 0) 0 (turnRow (ls.take 0)) rfl sr1 (by rw [turnRow_length, List.length_take, Hm.out]; omega) (turnRow_one _) (by unfold maxLen; omega) (by omega) (Below.size isext) ?_; intro v1 w1 hown1 hgrow1; simp only [Nat.zero_add, List.nil_append] at hown1; obtain ⟨av1, cap1, rfl⟩ := owns_shape hown1; obtain ⟨y1, rfl⟩ := fin (Ext.grown (a := z.x) isext (World.ownsRow_nil z.x z.x.heap.size 30 4) hgrow1); clear hgrow1; have hO1 : OwnsC y1.x z.x.heap.size 30 4 (.slice av1 (0) cap1) (0) (turnRow (ls.take 0)) := ⟨hown1⟩; clear hown1) | (at_builtin; refine wpList_append_src _ rfl _ _ 24 rfl z.x.heap.size 30 i0 (.agg #[.int .i64 0, .int .i64 0, .int .i64 0, .string ByteArray.empty]) 4 40 Try.underlying24 hi hz0 hz1 hz2 rfl (by decide) (.slice av1 0 cap1) 0 (turnRow (ls.take 0)) rfl OwnsC.own _ 1 [.int .i64 ta, .int .i64 tr, .int .i64 ts, .string tl] rfl (src_new _ _ _ _ 1 1 (by simp)) rfl (by simp [Value.oneCell']) (by unfold maxLen; omega) (by omega) (Below.size isext) ?_; intro v2 w2 hown2 hgrow2; obtain ⟨av2, cap2, rfl⟩ := owns_shape hown2; obtain ⟨y2, rfl⟩ := fin (Ext.grown (a := z.x) isext (OwnsC.own (e := 30) (size := 4) (n := 0) (xs := turnRow (ls.take 0))) hgrow2); clear hgrow2; have hO2 : OwnsC y2.x z.x.heap.size 30 4 (.slice av2 (0 + 1) cap2) (0 + 1) (turnRow (ls.take 0) ++ turnCells ⟨ta, tr, ts, tl⟩) := ⟨hown2⟩; clear hown2) | (at_builtin; refine wpList_append_src _ rfl _ _ 24 rfl z.x.heap.size 30 i0 (.agg #[.int .i64 0, .int .i64 0, .int .i64 0, .string ByteArray.empty]) 4 40 Try.underlying24 hi hz0 hz1 hz2 rfl (by decide) (.slice av2 (0 + 1) cap2) (0 + 1) (turnRow (ls.take 0) ++ turnCells ⟨ta, tr, ts, tl⟩) rfl OwnsC.own (.slice none 0 0) 0 (turnRow (ls.drop 0)) rfl (src_ext sr3 isext) (by first | (rw [turnRow_length, List.length_drop, Hm.out]; done) | (rw [turnRow_length, List.length_drop, Hm.out]; omega)) (turnRow_one _) (by unfold maxLen; omega) (by omega) (Below.size isext) ?_; intro v3 w3 hown3 hgrow3; obtain ⟨av3, cap3, rfl⟩ := owns_shape hown3; obtain ⟨y3, rfl⟩ := fin (Ext.grown (a := z.x) isext (OwnsC.own (e := 30) (size := 4) (n := 0 + 1) (xs := turnRow (ls.take 0) ++ turnCells ⟨ta, tr, ts, tl⟩)) hgrow3); clear hgrow3; have hO3 : OwnsC y3.x z.x.heap.size 30 4 (.slice av3 (0 + 1 + 0) cap3) (0 + 1 + 0) ((turnRow (ls.take 0) ++ turnCells ⟨ta, tr, ts, tl⟩) ++ turnRow (ls.drop 0)) := ⟨hown3⟩; clear hown3))
            go_roundw
            case rel => exact ⟨j + 1, 0 + 1 + 0, Rul.insT ls ⟨ta, tr, ts, tl⟩, by omega, by omega, by go_num, by show _ = _; first | (rw [Rul.insT_length, Hm.out]; done) | (rw [Rul.insT_length, Hm.out]; omega), E, ⟨by rw [ins_row ls ⟨ta, tr, ts, tl⟩ 0 HK.out]; exact owns_mono hO3.own (Below.size isext)⟩, isext⟩
            case measure => simp [intOf]; omega
          · haveI : InW g yr.x := ⟨g2⟩
            go_wp2_with (go_at_call 33; refine Rets.use (HT _).out ?_; intro y2)
            go_loopw [9] (fun kv wr2 => ∃ k : Nat, k ≤ m ∧ kv = .int .i64 k ∧ Hid (Rul.cutT ls ta ls.length = Rul.cutT ls ta k) ∧ Ext (y2.x.alloc (.cells #[.int .i64 ta, .int .i64 tr, .int .i64 ts, .string tl] 30)) wr2) (fun kv _ => (intOf kv).toNat)
            case atStart => exact ⟨m, by omega, rfl, hHK, isext⟩
            case round =>
              obtain ⟨k, k2, rfl, hK, hx2⟩ := hrel
              obtain ⟨yk, rfl⟩ := fin hx2
              clear hx2
              rcases Nat.eq_zero_or_pos k with rfl | hk0
              · have HK : Hid (Rul.cutT ls (⟨ta, tr, ts, tl⟩ : Turn).at' ls.length = 0) := hK.out
                go_wp2_with fail
                refine wp_region_past1 (by kernel_rfl) (by kernel_rfl) ?_
                repeat (go_big_quiet_step (fail))
                refine wpQuiet_nil ?_
                intro z
                have hO0 : OwnsC z.x w.heap.size 30 4 (.slice (some ⟨g, 0, none⟩) m cap) m (turnRow ls) := inferInstance
                have sr1 : SrcRow z.x (.slice (some ⟨g, 0, none⟩) 0 cap) 0 (turnRow (ls.take 0)) := src_part hO0.own (row_take ls 0)
                have sr3 : SrcRow z.x (.slice (some ⟨g, 0, none⟩) m cap) m (turnRow (ls.drop 0)) := src_part hO0.own (by intro j u h; rw [List.drop_zero] at h; rw [Nat.zero_add]; exact h)
                go_wp2_with (first | (at_builtin; refine wpList_append_src _ rfl _ _ 24 rfl z.x.heap.size 30 i0 (.agg #[.int .i64 0, .int .i64 0, .int .i64 0, .string ByteArray.empty]) 4 40 Try.underlying24 hi hz0 hz1 hz2 rfl (by decide) (.slice none 0 0) 0 [] rfl (World.ownsRow_nil z.x z.x.heap.size 30 4) (.slice (some ⟨g, 0, none⟩) 0 cap) 0 (turnRow (ls.take 0)) rfl sr1 (by rw [turnRow_length, List.length_take, Hm.out]; omega) (turnRow_one _) (by unfold maxLen; omega) (by omega) (Below.size isext) ?_; intro v1 w1 hown1 hgrow1; simp only [Nat.zero_add, List.nil_append] at hown1; obtain ⟨av1, cap1, rfl⟩ := owns_shape hown1; obtain ⟨y1, rfl⟩ := fin (Ext.grown (a := z.x) isext (World.ownsRow_nil z.x z.x.heap.size 30 4) hgrow1); clear hgrow1; have hO1 : OwnsC y1.x z.x.heap.size 30 4 (.slice av1 (0) cap1) (0) (turnRow (ls.take 0)) := ⟨hown1⟩; clear hown1) | (at_builtin; refine wpList_append_src _ rfl _ _ 24 rfl z.x.heap.size 30 i0 (.agg #[.int .i64 0, .int .i64 0, .int .i64 0, .string ByteArray.empty]) 4 40 Try.underlying24 hi hz0 hz1 hz2 rfl (by decide) (.slice av1 0 cap1) 0 (turnRow (ls.take 0)) rfl OwnsC.own _ 1 [.int .i64 ta, .int .i64 tr, .int .i64 ts, .string tl] rfl (src_new _ _ _ _ 1 1 (by simp)) rfl (by simp [Value.oneCell']) (by unfold maxLen; omega) (by omega) (Below.size isext) ?_; intro v2 w2 hown2 hgrow2; obtain ⟨av2, cap2, rfl⟩ := owns_shape hown2; obtain ⟨y2, rfl⟩ := fin (Ext.grown (a := z.x) isext (OwnsC.own (e := 30) (size := 4) (n := 0) (xs := turnRow (ls.take 0))) hgrow2); clear hgrow2; have hO2 : OwnsC y2.x z.x.heap.size 30 4 (.slice av2 (0 + 1) cap2) (0 + 1) (turnRow (ls.take 0) ++ turnCells ⟨ta, tr, ts, tl⟩) := ⟨hown2⟩; clear hown2) | (at_builtin; refine wpList_append_src _ rfl _ _ 24 rfl z.x.heap.size 30 i0 (.agg #[.int .i64 0, .int .i64 0, .int .i64 0, .string ByteArray.empty]) 4 40 Try.underlying24 hi hz0 hz1 hz2 rfl (by decide) (.slice av2 (0 + 1) cap2) (0 + 1) (turnRow (ls.take 0) ++ turnCells ⟨ta, tr, ts, tl⟩) rfl OwnsC.own (.slice (some ⟨g, 0, none⟩) m cap) m (turnRow (ls.drop 0)) rfl (src_ext sr3 isext) (by first | (rw [turnRow_length, List.length_drop, Hm.out]; done) | (rw [turnRow_length, List.length_drop, Hm.out]; omega)) (turnRow_one _) (by unfold maxLen; omega) (by omega) (Below.size isext) ?_; intro v3 w3 hown3 hgrow3; obtain ⟨av3, cap3, rfl⟩ := owns_shape hown3; obtain ⟨y3, rfl⟩ := fin (Ext.grown (a := z.x) isext (OwnsC.own (e := 30) (size := 4) (n := 0 + 1) (xs := turnRow (ls.take 0) ++ turnCells ⟨ta, tr, ts, tl⟩)) hgrow3); clear hgrow3; have hO3 : OwnsC y3.x z.x.heap.size 30 4 (.slice av3 (0 + 1 + m) cap3) (0 + 1 + m) ((turnRow (ls.take 0) ++ turnCells ⟨ta, tr, ts, tl⟩) ++ turnRow (ls.drop 0)) := ⟨hown3⟩; clear hown3))
                go_roundw
                case rel => exact ⟨j + 1, 0 + 1 + m, Rul.insT ls ⟨ta, tr, ts, tl⟩, by omega, by omega, by go_num, by show _ = _; first | (rw [Rul.insT_length, Hm.out]; done) | (rw [Rul.insT_length, Hm.out]; omega), E, ⟨by rw [ins_row ls ⟨ta, tr, ts, tl⟩ 0 HK.out]; exact owns_mono hO3.own (Below.size isext)⟩, isext⟩
                case measure => simp [intOf]; omega
              · obtain ⟨k', rfl⟩ : ∃ k', k = k' + 1 := ⟨k - 1, by omega⟩
                have hkl : k' < ls.length := by rw [Hm.out]; omega
                have hO1 : OwnsC yr.x w.heap.size 30 4 (.slice (some ⟨g, 0, none⟩) m cap) m (turnRow ls) := hown
                have p0 : yr.x.cell? ⟨g, k' * 4, none⟩ = some (.int .i64 ls[k'].at') := by
                  have hcl := @World.ownsRow.cells _ _ _ _ _ _ _ hO1.own
                  have := hcl rfl (k' * 4) _ (turnRow_at ls k' hkl 0 _ rfl)
                  rwa [add_lit0, Nat.zero_add] at this
                have EL := fun h => Lib.hid (cut_less (a := ta) hkl h)
                have ES := fun h => Lib.hid (cut_stop (a := ta) hkl h)
                generalize ls[k'].at' = pa at *
                have hk1 : decide ((0 : Int) < (k' : Int) + 1) = true := decide_eq_true (by omega)
                by_cases hl : ta < pa
                · have HK2 : Hid (Rul.cutT ls ta ls.length = Rul.cutT ls ta k') := by show _ = _; rw [hK.out, (EL hl).out]
                  clear EL ES
                  go_wp2_with fail
                  refine wp_region_past1 (by kernel_rfl) (by kernel_rfl) ?_
                  repeat (go_big_quiet_step (fail))
                  refine wpQuiet_nil ?_
                  intro z
                  go_wp2
                  go_roundw
                  case rel => exact ⟨k', by omega, by go_num, HK2, isext⟩
                  case measure => simp [intOf]
                · have HK : Hid (Rul.cutT ls (⟨ta, tr, ts, tl⟩ : Turn).at' ls.length = k' + 1) := by show _ = _; rw [hK.out, (ES hl).out]
                  have hl' : decide (ta < pa) = false := decide_eq_false hl
                  clear EL ES
                  have hks : k' + 1 ≤ m := k2
                  rcases Nat.lt_or_ge (k' + 1) cap with hcap | hcap
                  · go_wp2_with fail
                    refine wp_region_past1 (by kernel_rfl) (by kernel_rfl) ?_
                    repeat (go_big_quiet_step (fail))
                    refine wpQuiet_nil ?_
                    intro z
                    have hO0 : OwnsC z.x w.heap.size 30 4 (.slice (some ⟨g, 0, none⟩) m cap) m (turnRow ls) := inferInstance
                    have sr1 : SrcRow z.x (.slice (some ⟨g, 0, none⟩) (k' + 1) cap) (k' + 1) (turnRow (ls.take (k' + 1))) := src_part hO0.own (row_take ls _)
                    have sr3 : SrcRow z.x (.slice (some ⟨g, (k' + 1) * 4, none⟩) (m - (k' + 1)) (cap - (k' + 1))) (m - (k' + 1)) (turnRow (ls.drop (k' + 1))) := src_part hO0.own (row_drop ls _ (by rw [Hm.out]; omega))
                    go_wp2_with (first | (at_builtin; refine wpList_append_src _ rfl _ _ 24 rfl z.x.heap.size 30 i0 (.agg #[.int .i64 0, .int .i64 0, .int .i64 0, .string ByteArray.empty]) 4 40 Try.underlying24 hi hz0 hz1 hz2 rfl (by decide) (.slice none 0 0) 0 [] rfl (World.ownsRow_nil z.x z.x.heap.size 30 4) (.slice (some ⟨g, 0, none⟩) (k' + 1) cap) (k' + 1) (turnRow (ls.take (k' + 1))) rfl sr1 (by rw [turnRow_length, List.length_take, Hm.out]; omega) (turnRow_one _) (by unfold maxLen; omega) (by omega) (Below.size isext) ?_; intro v1 w1 hown1 hgrow1; simp only [Nat.zero_add, List.nil_append] at hown1; obtain ⟨av1, cap1, rfl⟩ := owns_shape hown1; obtain ⟨y1, rfl⟩ := fin (Ext.grown (a := z.x) isext (World.ownsRow_nil z.x z.x.heap.size 30 4) hgrow1); clear hgrow1; have hO1 : OwnsC y1.x z.x.heap.size 30 4 (.slice av1 ((k' + 1)) cap1) ((k' + 1)) (turnRow (ls.take (k' + 1))) := ⟨hown1⟩; clear hown1) | (at_builtin; refine wpList_append_src _ rfl _ _ 24 rfl z.x.heap.size 30 i0 (.agg #[.int .i64 0, .int .i64 0, .int .i64 0, .string ByteArray.empty]) 4 40 Try.underlying24 hi hz0 hz1 hz2 rfl (by decide) (.slice av1 (k' + 1) cap1) (k' + 1) (turnRow (ls.take (k' + 1))) rfl OwnsC.own _ 1 [.int .i64 ta, .int .i64 tr, .int .i64 ts, .string tl] rfl (src_new _ _ _ _ 1 1 (by simp)) rfl (by simp [Value.oneCell']) (by unfold maxLen; omega) (by omega) (Below.size isext) ?_; intro v2 w2 hown2 hgrow2; obtain ⟨av2, cap2, rfl⟩ := owns_shape hown2; obtain ⟨y2, rfl⟩ := fin (Ext.grown (a := z.x) isext (OwnsC.own (e := 30) (size := 4) (n := (k' + 1)) (xs := turnRow (ls.take (k' + 1)))) hgrow2); clear hgrow2; have hO2 : OwnsC y2.x z.x.heap.size 30 4 (.slice av2 ((k' + 1) + 1) cap2) ((k' + 1) + 1) (turnRow (ls.take (k' + 1)) ++ turnCells ⟨ta, tr, ts, tl⟩) := ⟨hown2⟩; clear hown2) | (at_builtin; refine wpList_append_src _ rfl _ _ 24 rfl z.x.heap.size 30 i0 (.agg #[.int .i64 0, .int .i64 0, .int .i64 0, .string ByteArray.empty]) 4 40 Try.underlying24 hi hz0 hz1 hz2 rfl (by decide) (.slice av2 ((k' + 1) + 1) cap2) ((k' + 1) + 1) (turnRow (ls.take (k' + 1)) ++ turnCells ⟨ta, tr, ts, tl⟩) rfl OwnsC.own (.slice (some ⟨g, (k' + 1) * 4, none⟩) (m - (k' + 1)) (cap - (k' + 1))) (m - (k' + 1)) (turnRow (ls.drop (k' + 1))) rfl (src_ext sr3 isext) (by first | (rw [turnRow_length, List.length_drop, Hm.out]; done) | (rw [turnRow_length, List.length_drop, Hm.out]; omega)) (turnRow_one _) (by unfold maxLen; omega) (by omega) (Below.size isext) ?_; intro v3 w3 hown3 hgrow3; obtain ⟨av3, cap3, rfl⟩ := owns_shape hown3; obtain ⟨y3, rfl⟩ := fin (Ext.grown (a := z.x) isext (OwnsC.own (e := 30) (size := 4) (n := (k' + 1) + 1) (xs := turnRow (ls.take (k' + 1)) ++ turnCells ⟨ta, tr, ts, tl⟩)) hgrow3); clear hgrow3; have hO3 : OwnsC y3.x z.x.heap.size 30 4 (.slice av3 ((k' + 1) + 1 + (m - (k' + 1))) cap3) ((k' + 1) + 1 + (m - (k' + 1))) ((turnRow (ls.take (k' + 1)) ++ turnCells ⟨ta, tr, ts, tl⟩) ++ turnRow (ls.drop (k' + 1))) := ⟨hown3⟩; clear hown3))
                    go_roundw
                    case rel => exact ⟨j + 1, (k' + 1) + 1 + (m - (k' + 1)), Rul.insT ls ⟨ta, tr, ts, tl⟩, by omega, by omega, by go_num, by show _ = _; first | (rw [Rul.insT_length, Hm.out]; done) | (rw [Rul.insT_length, Hm.out]; omega), E, ⟨by rw [ins_row ls ⟨ta, tr, ts, tl⟩ (k' + 1) HK.out]; exact owns_mono hO3.own (Below.size isext)⟩, isext⟩
                    case measure => simp [intOf]; omega
                  · obtain rfl : m = k' + 1 := by omega
                    obtain rfl : cap = k' + 1 := by omega
                    go_wp2_with fail
                    refine wp_region_past1 (by kernel_rfl) (by kernel_rfl) ?_
                    repeat (go_big_quiet_step (fail))
                    refine wpQuiet_nil ?_
                    intro z
                    have hO0 : OwnsC z.x w.heap.size 30 4 (.slice (some ⟨g, 0, none⟩) (k' + 1) (k' + 1)) (k' + 1) (turnRow ls) := inferInstance
                    have sr1 : SrcRow z.x (.slice (some ⟨g, 0, none⟩) (k' + 1) (k' + 1)) (k' + 1) (turnRow (ls.take (k' + 1))) := src_part hO0.own (row_take ls _)
                    have hd : ls.drop (k' + 1) = [] := List.drop_eq_nil_of_le (by rw [Hm.out]; omega)
                    have sr3 : SrcRow z.x (.slice (some ⟨g, 0, none⟩) 0 0) 0 (turnRow (ls.drop (k' + 1))) := .inr ⟨_, _, rfl, fun j u hu => by rw [hd] at hu; simp [turnRow] at hu⟩
                    clear hd
                    go_wp2_with (first | (at_builtin; refine wpList_append_src _ rfl _ _ 24 rfl z.x.heap.size 30 i0 (.agg #[.int .i64 0, .int .i64 0, .int .i64 0, .string ByteArray.empty]) 4 40 Try.underlying24 hi hz0 hz1 hz2 rfl (by decide) (.slice none 0 0) 0 [] rfl (World.ownsRow_nil z.x z.x.heap.size 30 4) (.slice (some ⟨g, 0, none⟩) (k' + 1) (k' + 1)) (k' + 1) (turnRow (ls.take (k' + 1))) rfl sr1 (by rw [turnRow_length, List.length_take, Hm.out]; omega) (turnRow_one _) (by unfold maxLen; omega) (by omega) (Below.size isext) ?_; intro v1 w1 hown1 hgrow1; simp only [Nat.zero_add, List.nil_append] at hown1; obtain ⟨av1, cap1, rfl⟩ := owns_shape hown1; obtain ⟨y1, rfl⟩ := fin (Ext.grown (a := z.x) isext (World.ownsRow_nil z.x z.x.heap.size 30 4) hgrow1); clear hgrow1; have hO1 : OwnsC y1.x z.x.heap.size 30 4 (.slice av1 ((k' + 1)) cap1) ((k' + 1)) (turnRow (ls.take (k' + 1))) := ⟨hown1⟩; clear hown1) | (at_builtin; refine wpList_append_src _ rfl _ _ 24 rfl z.x.heap.size 30 i0 (.agg #[.int .i64 0, .int .i64 0, .int .i64 0, .string ByteArray.empty]) 4 40 Try.underlying24 hi hz0 hz1 hz2 rfl (by decide) (.slice av1 (k' + 1) cap1) (k' + 1) (turnRow (ls.take (k' + 1))) rfl OwnsC.own _ 1 [.int .i64 ta, .int .i64 tr, .int .i64 ts, .string tl] rfl (src_new _ _ _ _ 1 1 (by simp)) rfl (by simp [Value.oneCell']) (by unfold maxLen; omega) (by omega) (Below.size isext) ?_; intro v2 w2 hown2 hgrow2; obtain ⟨av2, cap2, rfl⟩ := owns_shape hown2; obtain ⟨y2, rfl⟩ := fin (Ext.grown (a := z.x) isext (OwnsC.own (e := 30) (size := 4) (n := (k' + 1)) (xs := turnRow (ls.take (k' + 1)))) hgrow2); clear hgrow2; have hO2 : OwnsC y2.x z.x.heap.size 30 4 (.slice av2 ((k' + 1) + 1) cap2) ((k' + 1) + 1) (turnRow (ls.take (k' + 1)) ++ turnCells ⟨ta, tr, ts, tl⟩) := ⟨hown2⟩; clear hown2) | (at_builtin; refine wpList_append_src _ rfl _ _ 24 rfl z.x.heap.size 30 i0 (.agg #[.int .i64 0, .int .i64 0, .int .i64 0, .string ByteArray.empty]) 4 40 Try.underlying24 hi hz0 hz1 hz2 rfl (by decide) (.slice av2 ((k' + 1) + 1) cap2) ((k' + 1) + 1) (turnRow (ls.take (k' + 1)) ++ turnCells ⟨ta, tr, ts, tl⟩) rfl OwnsC.own (.slice (some ⟨g, 0, none⟩) 0 0) 0 (turnRow (ls.drop (k' + 1))) rfl (src_ext sr3 isext) (by first | (rw [turnRow_length, List.length_drop, Hm.out]; done) | (rw [turnRow_length, List.length_drop, Hm.out]; omega)) (turnRow_one _) (by unfold maxLen; omega) (by omega) (Below.size isext) ?_; intro v3 w3 hown3 hgrow3; obtain ⟨av3, cap3, rfl⟩ := owns_shape hown3; obtain ⟨y3, rfl⟩ := fin (Ext.grown (a := z.x) isext (OwnsC.own (e := 30) (size := 4) (n := (k' + 1) + 1) (xs := turnRow (ls.take (k' + 1)) ++ turnCells ⟨ta, tr, ts, tl⟩)) hgrow3); clear hgrow3; have hO3 : OwnsC y3.x z.x.heap.size 30 4 (.slice av3 ((k' + 1) + 1 + 0) cap3) ((k' + 1) + 1 + 0) ((turnRow (ls.take (k' + 1)) ++ turnCells ⟨ta, tr, ts, tl⟩) ++ turnRow (ls.drop (k' + 1))) := ⟨hown3⟩; clear hown3))
                    go_roundw
                    case rel => exact ⟨j + 1, (k' + 1) + 1 + 0, Rul.insT ls ⟨ta, tr, ts, tl⟩, by omega, by omega, by go_num, by show _ = _; first | (rw [Rul.insT_length, Hm.out]; done) | (rw [Rul.insT_length, Hm.out]; omega), E, ⟨by rw [ins_row ls ⟨ta, tr, ts, tl⟩ (k' + 1) HK.out]; exact owns_mono hO3.own (Below.size isext)⟩, isext⟩
                    case measure => simp [intOf]; omega
      · have E : Hid (G = ls) := by
          have := Hl.out
          rw [List.take_of_length_le (by rw [Hn.out]; omega)] at this
          exact hG.out.trans this
        obtain ⟨av, cap, rfl⟩ := owns_shape hown.own
        go_wp2
        go_ret
        exact ⟨_, ⟨_, isext⟩, rfl, by rw [E.out, Hm.out]; exact owns_reads hown.own (by omega), rfl⟩
end Go.Proofs.Ytodcgalcpnckaaa
set_option linter.unusedVariables false
set_option linter.unusedSimpArgs false
namespace Go.Proofs.Ytodcgalcpnckaaa
open Go.RowKit Go.Sort Go.Shelf

namespace Rul
def farB (a b : Turn) : Bool := !(decide (a.at' - b.at' < 172800) && decide (-172800 < a.at' - b.at'))
/-- Of some turns, and of those ahead of them: is none near? -/
def nearB (now had : List Turn) : Bool := !((List.range now.length).all fun i => (now.take i ++ had).all fun u => farB (now.getD i default) u)
theorem near_no {now had : List Turn} (h : ∀ i, i < now.length → ∀ k (hk : k < (now.take i ++ had).length), farB (now.getD i default) (now.take i ++ had)[k] = true) : nearB now had = false := by
  unfold nearB
  rw [Bool.not_eq_false', List.all_eq_true]
  intro i hi
  rw [List.all_eq_true]
  intro u hu
  obtain ⟨k, hk, rfl⟩ := List.getElem_of_mem hu
  exact h i (List.mem_range.1 hi) k hk
theorem near_yes {now had : List Turn} {i : Nat} (hi : i < now.length) {k : Nat} (hk : k < (now.take i ++ had).length) (h : farB (now.getD i default) (now.take i ++ had)[k] = false) : nearB now had = true := by
  unfold nearB
  rw [Bool.not_eq_true', List.all_eq_false]
  refine ⟨i, List.mem_range.2 hi, ?_⟩
  rw [Bool.not_eq_true, List.all_eq_false]
  exact ⟨_, List.getElem_mem hk, by rw [h]; simp⟩
end Rul
def okAt (l : List Turn) : Prop := ∀ t ∈ l, -9000000000000 ≤ t.at' ∧ t.at' ≤ 9000000000000
theorem far_cases (a b : Turn) : (a.at' - b.at' < 172800 ∧ -172800 < a.at' - b.at' ∧ Rul.farB a b = false) ∨ (a.at' - b.at' < 172800 ∧ decide (-172800 < a.at' - b.at') = false ∧ Rul.farB a b = true) ∨ (decide (a.at' - b.at' < 172800) = false ∧ Rul.farB a b = true) := by
  unfold Rul.farB
  by_cases h1 : a.at' - b.at' < 172800
  · by_cases h2 : -172800 < a.at' - b.at'
    · exact .inl ⟨h1, h2, by simp [h1, h2]⟩
    · exact .inr (.inl ⟨h1, decide_eq_false h2, by simp [h2]⟩)
  · exact .inr (.inr ⟨decide_eq_false h1, by simp [h1]⟩)
set_option maxRecDepth 100000 in
set_option maxHeartbeats 8000000 in
theorem nearer_any (la lb : List Turn) (na nb : Nat) (hna : la.length = na) (hnb : lb.length = nb) (a9 : na ≤ 1000) (b9 : nb ≤ 1000) (oka : okAt la) (okb : okAt lb) (va vb : Value) (w : World) (ha : Reads w va na (turnRow la)) (hb : Reads w vb nb (turnRow lb)) :
    Rets Try.prog 43 #[va, vb] w (.bool (Rul.nearB la lb)) := by
  obtain ⟨i0, hi, hz0, hz1, hz2⟩ := info_partsT Try.infoTurn
  by_cases h0 : na = 0
  · obtain ⟨a9, c9, rfl⟩ := nil_shape ha h0
    obtain rfl := List.eq_nil_of_length_eq_zero (hna.trans h0)
    have E : Hid (Rul.nearB [] lb = false) := rfl
    generalize Rul.nearB [] lb = NB at *
    clear ha hb hna hnb oka okb
    unfold Rets
    go_enter Try.func43, Try.ntmps43
    go_wp2
    refine wp_loop_rounds 1 ?_
    simp only [rounds_succ]
    go_wp2
    go_ret
    exact ⟨by rw [E.out]; first | done | rfl, done⟩
  · rcases ha with ⟨_, _, rfl, h1, _⟩ | ⟨b, o, c, rfl, k1, k2, m1, hc⟩
    · exact absurd h1 h0
    haveI : InW b w := ⟨m1⟩
    have HC := Lib.hid hc
    have Hna := Lib.hid hna
    have Hnb := Lib.hid hnb
    have Ka := Lib.hid oka
    have Kb := Lib.hid okb
    have HS := Lib.hid (src_reads hb)
    have HF := fun h => Lib.hid (Rul.near_no (now := la) (had := lb) h)
    have HT := fun (i : Nat) (hi : i < la.length) (k : Nat) (hk : k < (la.take i ++ lb).length) h => Lib.hid (Rul.near_yes (now := la) (had := lb) hi hk h)
    generalize Rul.nearB la lb = NB at *
    clear hc hna hnb hb oka okb
    unfold Rets
    go_enter Try.func43, Try.ntmps43
    go_wp2
    go_loopw [12] (fun iv wr => ∃ j : Nat, j ≤ na ∧ iv = .int .i64 j ∧ Hid (∀ i, i < j → ∀ k (hk : k < (la.take i ++ lb).length), Rul.farB (la.getD i default) (la.take i ++ lb)[k] = true) ∧ Ext w wr) (fun i _ => na - (intOf i).toNat)
    case atStart => exact ⟨0, by omega, rfl, fun i h => absurd h (Nat.not_lt_zero _), isext⟩
    case round =>
      obtain ⟨j, j2, rfl, Hj, hx⟩ := hrel
      obtain ⟨yr, rfl⟩ := fin hx
      clear hx
      by_cases hlt : j < na
      · have hj : j < la.length := by rw [Hna.out]; exact hlt
        obtain ⟨p0, p1, p2, p3⟩ := turn_at HC.out j hj
        have hgd : Hid (la.getD j default = la[j]) := by show _ = _; rw [List.getD_eq_getElem?_getD, List.getElem?_eq_getElem hj]; rfl
        have hxo := Ka.out _ (List.getElem_mem hj)
        have hlen : (la.take j ++ lb).length = j + nb := by rw [List.length_append, List.length_take, Hna.out, Hnb.out]; omega
        have Hlen := Lib.hid hlen
        have HTj := fun (k : Nat) (hk : k < (la.take j ++ lb).length) h => HT j hj k hk h
        have hok : okAt (la.take j ++ lb) := by
          intro t ht
          rcases List.mem_append.1 ht with h | h
          · exact Ka.out t (List.mem_of_mem_take h)
          · exact Kb.out t h
        have Hok := Lib.hid hok
        have HJ1 : (∀ k (hk : k < (la.take j ++ lb).length), Rul.farB la[j] (la.take j ++ lb)[k] = true) → Hid (∀ i, i < j + 1 → ∀ k (hk : k < (la.take i ++ lb).length), Rul.farB (la.getD i default) (la.take i ++ lb)[k] = true) := by
          intro h i hi k hk
          rcases Nat.lt_or_ge i j with h1 | h1
          · exact Hj.out i h1 k hk
          · obtain rfl : i = j := by omega
            rw [hgd.out]; exact h k hk
        rw [hgd.out] at HTj
        have src1 : ∀ q u, (turnRow (la.take j))[q]? = some u → w.cell? ⟨b, o + q, none⟩ = some u := fun q u hq => by
          have := row_take la j q u hq
          rw [Nat.zero_add] at this
          exact HC.out q u this
        have Hs1 := Lib.hid src1
        have hrow : Hid (turnRow (la.take j) ++ turnRow lb = turnRow (la.take j ++ lb)) := (turnRow_append _ _).symm
        have htl : Hid ((la.take j).length = j) := by show _ = _; rw [List.length_take]; omega
        clear hlen hok src1
        generalize la.take j ++ lb = L at *
        generalize la[j] = x at *
        obtain ⟨xa, xr, xs, xl⟩ := x
        simp only at p0 p1 p2 p3 hxo
        go_wp2_with (at_builtin; refine wpList_append_full _ rfl _ _ 24 rfl 30 i0 (.agg #[.int .i64 0, .int .i64 0, .int .i64 0, .string ByteArray.empty]) 4 40 Try.underlying24 hi hz0 hz1 hz2 rfl (by decide) b o j (turnRow (la.take j)) rfl (inferInstance : InW b _).lt (by rw [turnRow_length, htl.out]) (fun q u hq => (Below.cell (p := ⟨b, o + q, none⟩) isext m1).trans (Hs1.out q u hq)) _ nb (turnRow lb) rfl (src_ext HS.out isext) (by rw [turnRow_length, Hnb.out]) (turnRow_one _) (by unfold maxLen; omega) (by omega) ?_; intro v1 w1 hr1 hx1; obtain ⟨y1, rfl⟩ := fin hx1; clear hx1; rw [hrow.out] at hr1; obtain ⟨a1, c1, rfl⟩ := reads_shape hr1)
        rcases Nat.eq_zero_or_pos (j + nb) with hz | hz
        · obtain ⟨rfl, rfl⟩ : j = 0 ∧ nb = 0 := by omega
          have HJ2 := HJ1 (fun k hk => by have := Hlen.out; omega)
          clear HJ1 HTj hz hr1
          refine wp_loop_rounds 1 ?_
          simp only [rounds_succ]
          go_wp2
          go_roundw
          case rel => exact ⟨1, by omega, by go_num, HJ2, isext⟩
          case measure => simp [intOf]; omega
        · rcases hr1 with ⟨_, _, _, h1, _⟩ | ⟨b1, o1, c2, e1, q1, q2, q3, hc1⟩
          · omega
          injection e1 with e1 e2 e3
          subst e1
          clear e2 e3
          haveI : InW b1 y1.x := ⟨q3⟩
          have HC1 := Lib.hid hc1
          clear hc1
          go_loopw [24] (fun kv wr2 => ∃ k : Nat, k ≤ j + nb ∧ kv = .int .i64 k ∧ Hid (∀ k' (hk' : k' < L.length), k' < k → Rul.farB ⟨xa, xr, xs, xl⟩ L[k'] = true) ∧ Ext y1.x wr2) (fun kv _ => j + nb - (intOf kv).toNat)
          case atStart => exact ⟨0, by omega, rfl, fun k' hk' h => absurd h (Nat.not_lt_zero _), isext⟩
          case round =>
            obtain ⟨k, k2, rfl, Hk, hx2⟩ := hrel
            obtain ⟨yk, rfl⟩ := fin hx2
            clear hx2
            by_cases hlk : k < j + nb
            · have hkl : k < L.length := by rw [Hlen.out]; exact hlk
              obtain ⟨r0, r1, r2, r3⟩ := turn_at HC1.out k hkl
              have hyo := Hok.out _ (List.getElem_mem hkl)
              have hfc := far_cases ⟨xa, xr, xs, xl⟩ L[k]
              have HTk := HTj k hkl
              have HKn : Rul.farB ⟨xa, xr, xs, xl⟩ L[k] = true → Hid (∀ k' (hk' : k' < L.length), k' < k + 1 → Rul.farB ⟨xa, xr, xs, xl⟩ L[k'] = true) := fun h k' hk' h' => by
                rcases Nat.lt_or_ge k' k with h1 | h1
                · exact Hk.out k' hk' h1
                · obtain rfl : k' = k := by omega
                  exact h
              clear HTj HJ1
              generalize Rul.farB ⟨xa, xr, xs, xl⟩ L[k] = fb at *
              generalize L[k] = t at *
              obtain ⟨ta, tr, ts, tl⟩ := t
              simp only at r0 r1 r2 r3 hyo hfc
              have hlkz : (k : Int) < (j : Int) + nb := by omega
              have hsub : IntKind.i64.wrap (xa - ta) = xa - ta := by rw [IntKind.wrap_i64]; omega
              rcases hfc with ⟨f1, f2, rfl⟩ | ⟨f1, f2, rfl⟩ | ⟨f1, rfl⟩
              · have HY := HTk rfl
                clear HTk HKn
                go_wp2
                go_ret
                exact ⟨by rw [HY.out]; first | done | rfl, done⟩
              · have HK2 := HKn rfl
                clear HTk HKn
                go_wp2
                clear hsub
                go_roundw
                case rel => exact ⟨k + 1, by omega, by go_num, HK2, isext⟩
                case measure => simp [intOf]; omega
              · have HK2 := HKn rfl
                clear HTk HKn
                go_wp2
                clear hsub
                go_roundw
                case rel => exact ⟨k + 1, by omega, by go_num, HK2, isext⟩
                case measure => simp [intOf]; omega
            · have HJ2 := HJ1 (fun k' hk' => Hk.out k' hk' (by have := Hlen.out; omega))
              have hlkz : decide ((k : Int) < (j : Int) + nb) = false := decide_eq_false (by omega)
              clear HJ1 HTj
              go_wp2
              go_roundw
              case rel => exact ⟨j + 1, by omega, by go_num, HJ2, isext⟩
              case measure => simp [intOf]; omega
      · have hne : Hid (NB = false) := HF (fun i hi k hk => Hj.out i (by rw [Hna.out] at hi; omega) k hk)
        go_wp2
        go_ret
        exact ⟨by rw [hne.out]; first | done | rfl, done⟩
end Go.Proofs.Ytodcgalcpnckaaa
