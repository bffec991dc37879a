/- Walks of sources: the document's year, offset, fault, number of fields, spot. -/
import Derived.Test.YtdhbgelijjlifaaGreatDoorSrcReadC
import Derived.Test.YtdhbgelijjlifaaGreatDoorSrcWalkJ
import Derived.Test.YtdhbgelijjlifaaGreatDoorMomWalkJ
import Derived.Test.YtdhbgelijjlifaaGreatDoorMomWalkO
set_option linter.unusedVariables false
set_option linter.unusedSimpArgs false
namespace Go.Proofs.YtdhbgelijjlifaaGreatDoor
open Go.RowKit Go.Shelf
theorem dig_same (c : UInt8) : Src.digB c = Mom.isD c := rfl
theorem dbad_any (e line a : Int) (t : ByteArray) (w : World) : Rets Tryz.prog 52 #[.int .i64 e, .int .i64 line, .agg #[.string t, .int .i64 a]] w (faultC ⟨e, line, a⟩) := by
 unfold Rets
 go_enter Tryz.func52, Tryz.ntmps52
 go_wp2
 refine bodyPost_ret (v := faultC ⟨e, line, a⟩) ?_ rfl ⟨rfl, done⟩
 simp [results, Tryz.results52, go_sem]
set_option maxHeartbeats 2000000 in
theorem dyear_any (s : ByteArray) (hs : s.size ≤ 1048576) (w : World) : Rets Tryz.prog 92 #[.string s] w (.int .i64 (Src.yearP s.data.toList)) := by
 have hz : Hid (s.data.toList.length = s.size) := by show _ = _; simp
 have HD := fun (c : UInt8) w => Lib.hid (ddigit_any c w)
 have EY : Hid (Src.yearP s.data.toList = if s.data.toList.all Mom.isD = true ∧ s.size ≤ 4 then ((Mom.numOf s.data.toList : Nat) : Int) else 0) := by show _ = _; rw [← hz.out]; rfl
 generalize Src.yearP s.data.toList = Y at *
 unfold Rets
 go_enter Tryz.func92, Tryz.ntmps92
 go_wp2_with fail
 go_loopw [3, 4] (fun n i wr => ∃ j m : Nat, j ≤ s.size ∧ m ≤ 9999 ∧ i = .int .i64 j ∧ n = .int .i64 m ∧ Hid (m = Mom.numOf (s.data.toList.take (min j 4))) ∧ Hid ((s.data.toList.take j).all Mom.isD = true) ∧ Ext w wr) (fun _ i _ => s.size - (intOf i).toNat)
 case atStart => exact ⟨0, 0, by omega, by omega, rfl, rfl, Lib.hid (by simp [Mom.numOf]), Lib.hid (by simp), isext⟩
 case round =>
  obtain ⟨j, m, j1, m1, rfl, rfl, Hm, ha, hx⟩ := hrel
  obtain ⟨yr, rfl⟩ := fin hx
  clear hx
  by_cases c0 : j < s.size
  · have HDj := HD s[j]
    rw [dig_same] at HDj
    cases d : Mom.isD s[j]
    · have E := Lib.hid (EY.out.trans (if_neg (fun h => by rw [not_all c0 d] at h; exact absurd h.1 (by simp))))
      rw [d] at HDj
      clear d
      go_wp2_with (go_at_call 30; refine Rets.use1 (HDj _).out ?_; intro yd)
      go_ret
      exact ⟨by rw [E.out]; first | done | rfl | simp, done⟩
    · have A := Lib.hid ((all_take s j c0 ha.out).trans d)
      obtain ⟨d1, d2⟩ := isD_yes d
      rw [d] at HDj
      by_cases c4 : j < 4
      · have g4 : (j : Int) < 4 := by omega
        have E : Hid (((Mom.numOf (s.data.toList.take (min (j + 1) 4)) : Nat) : Int) = (m : Int) * 10 + ((s[j].toNat : Int) - 48)) := by
         show _ = _
         rw [show min (j + 1) 4 = j + 1 by omega, take_byte s j c0, Mom.numOf_snoc, Hm.out, show min j 4 = j by omega]; omega
        have B : Mom.numOf (s.data.toList.take (min (j + 1) 4)) ≤ 9999 := by
         have h := Mom.numOf_bd (s.data.toList.take (min (j + 1) 4)) 0 (fun c hc => List.all_eq_true.1 A.out c (List.mem_of_mem_take (by rw [List.take_take, show min (min (j + 1) 4) (j + 1) = min (j + 1) 4 by omega]; exact hc)))
         have h2 : (s.data.toList.take (min (j + 1) 4)).length ≤ 4 := by rw [List.length_take]; omega
         have h3 : (10 : Nat) ^ (s.data.toList.take (min (j + 1) 4)).length ≤ 10 ^ 4 := Nat.pow_le_pow_right (by omega) h2
         unfold Mom.numOf; omega
        clear d
        go_wp2_with (go_at_call 30; refine Rets.use1 (HDj _).out ?_; intro yd)
        go_roundw
        case rel => exact ⟨j + 1, _, by omega, B, by go_num, by rw [E.out], Lib.hid rfl, A, isext⟩
        case measure => simp [intOf]; omega
      · have g4 : decide ((j : Int) < 4) = false := decide_eq_false (by omega)
        have E : Hid (m = Mom.numOf (s.data.toList.take (min (j + 1) 4))) := by
         show _ = _
         rw [Hm.out, show min (j + 1) 4 = min j 4 by omega]
        clear d
        go_wp2_with (go_at_call 30; refine Rets.use1 (HDj _).out ?_; intro yd)
        go_roundw
        case rel => exact ⟨j + 1, m, by omega, m1, by go_num, rfl, E, A, isext⟩
        case measure => simp [intOf]; omega
  · have e : s.data.toList.take j = s.data.toList := List.take_of_length_le (by rw [hz.out]; omega)
    rw [e] at ha
    by_cases c4 : 4 < s.size
    · have g4 : (4 : Int) < s.size := by omega
      have E := Lib.hid (EY.out.trans (if_neg (fun h => by omega)))
      go_wp2_with fail
      go_ret
      exact ⟨by rw [E.out]; first | done | rfl | simp, done⟩
    · have g4 : decide ((4 : Int) < s.size) = false := decide_eq_false (by omega)
      have E : Hid (Y = m) := by
       show _ = _
       rw [EY.out, if_pos ⟨ha.out, by omega⟩, Hm.out, List.take_of_length_le (by rw [hz.out]; omega)]
      go_wp2_with fail
      go_ret
      exact ⟨by rw [E.out]; first | done | rfl | simp, done⟩
theorem offP_some {t : List UInt8} {most n : Int} (h : Mom.spanR t = some n) : Src.offP t most = if n ≤ -86400 ∨ 86400 ≤ n ∨ most < n ∨ n < -most then (0, 11) else (n, 0) := by unfold Src.offP; rw [h]
theorem offP_none {t : List UInt8} {most : Int} (h : Mom.spanR t = none) : Src.offP t most = (0, 6) := by unfold Src.offP; rw [h]
set_option maxHeartbeats 2000000 in
theorem doffset_any (s : ByteArray) (most : Int) (hm1 : 0 ≤ most) (hm2 : most ≤ 1000000) (hs : s.size ≤ 4000) (w : World) : Rets Tryz.prog 90 #[.string s, .int .i64 most] w (.tuple #[.int .i64 (Src.offP s.data.toList most).1, .int .i64 (Src.offP s.data.toList most).2]) := by
 have HS := fun w => Lib.hid (rspan_any s.data.toList w (by simp; exact hs))
 rw [show (⟨s.data.toList.toArray⟩ : ByteArray) = s from by simp] at HS
 obtain ⟨P, hP⟩ : ∃ P, Src.offP s.data.toList most = P := ⟨_, rfl⟩
 rw [hP]
 unfold Rets
 cases hr : Mom.spanR s.data.toList with
 | none =>
   rw [offP_none hr] at hP
   subst hP
   rw [hr] at HS
   unfold optV at HS
   clear hr
   go_enter Tryz.func90, Tryz.ntmps90
   go_wp2_with (go_at_call 113; refine Rets.use (HS _).out ?_; intro _)
   go_ret2
   exact ⟨rfl, done⟩
 | some n =>
   have hO := offP_some (most := most) hr
   rw [hP] at hO
   rw [hr] at HS
   unfold optV at HS
   clear hr hP
   by_cases c1 : n ≤ -86400
   · rw [if_pos (.inl c1)] at hO
     subst hO
     go_enter Tryz.func90, Tryz.ntmps90
     go_wp2_with (go_at_call 113; refine Rets.use (HS _).out ?_; intro _)
     go_ret2
     exact ⟨rfl, done⟩
   have g1 : decide (n ≤ -86400) = false := decide_eq_false c1
   by_cases c2 : 86400 ≤ n
   · rw [if_pos (.inr (.inl c2))] at hO
     subst hO
     go_enter Tryz.func90, Tryz.ntmps90
     go_wp2_with (go_at_call 113; refine Rets.use (HS _).out ?_; intro _)
     go_ret2
     exact ⟨rfl, done⟩
   have g2 : decide (86400 ≤ n) = false := decide_eq_false c2
   by_cases c3 : most < n
   · rw [if_pos (.inr (.inr (.inl c3)))] at hO
     subst hO
     go_enter Tryz.func90, Tryz.ntmps90
     go_wp2_with (go_at_call 113; refine Rets.use (HS _).out ?_; intro _)
     go_ret2
     exact ⟨rfl, done⟩
   have g3 : decide (most < n) = false := decide_eq_false c3
   by_cases c4 : n < -most
   · rw [if_pos (.inr (.inr (.inr c4)))] at hO
     subst hO
     go_enter Tryz.func90, Tryz.ntmps90
     go_wp2_with (go_at_call 113; refine Rets.use (HS _).out ?_; intro _)
     go_ret2
     exact ⟨rfl, done⟩
   have g4 : decide (n < -most) = false := decide_eq_false c4
   rw [if_neg (by omega)] at hO
   subst hO
   go_enter Tryz.func90, Tryz.ntmps90
   go_wp2_with (go_at_call 113; refine Rets.use (HS _).out ?_; intro _)
   go_ret2
   exact ⟨rfl, done⟩
def faultO : Option Fault → Fault
 | some f => f
 | none => ⟨0, 0, 0⟩
set_option maxHeartbeats 2000000 in
theorem dcount_any (ws : List Src.Wd) (all : ByteArray) (line : Int) (least most : Nat) (hm : most ≤ 100) (hl : least ≤ 100) (hall : all.size ≤ 1048576) (v : Value) (w : World) (hr : Reads w v ws.length (wordCells ws)) :
 Rets Tryz.prog 53 #[v, .string all, .int .i64 line, .int .i64 least, .int .i64 most] w (faultC (faultO (Src.countP ws all.size line least most))) := by
 obtain ⟨n, hn⟩ : ∃ n, ws.length = n := ⟨_, rfl⟩
 rw [hn] at hr
 obtain ⟨a, c, rfl⟩ := shape_of hr
 have b1 := len_of hr
 have HB := fun e line a t w => Lib.hid (dbad_any e line a t w)
 unfold Src.countP Rets
 rw [hn]
 by_cases c1 : n < least
 · have g1 : (n : Int) < least := by omega
   rw [if_pos c1]
   go_enter Tryz.func53, Tryz.ntmps53
   go_wp2
   refine bodyPost_ret (v := faultC ⟨14, line, all.size⟩) ?_ rfl ⟨rfl, done⟩
   simp [results, Tryz.results53, go_sem]
 · have g1 : decide ((n : Int) < least) = false := decide_eq_false (by omega)
   rw [if_neg c1]
   by_cases c2 : most < n
   · have g2 : (most : Int) < n := by omega
     rw [if_pos c2]
     rcases hr with ⟨_, _, e9, h9, _⟩ | ⟨bl, o, c9, e9, k1, k2, m1, hc⟩
     · exact absurd h9 (by omega)
     injection e9 with e9 e8 e7
     subst e9
     clear e8 e7
     haveI : InW bl w := ⟨m1⟩
     obtain ⟨d0, d1⟩ := wd_at hc most (by omega)
     clear hc
     go_enter Tryz.func53, Tryz.ntmps53
     go_wp2_with (go_at_call 52; refine Rets.use (HB _ _ _ _ _).out ?_; intro y)
     refine bodyPost_ret (v := faultC ⟨15, line, Src.pt ws most⟩) ?_ rfl ⟨rfl, done⟩
     simp [results, Tryz.results53, go_sem]
   · have g2 : decide ((most : Int) < n) = false := decide_eq_false (by omega)
     rw [if_neg c2]
     clear hr
     go_enter Tryz.func53, Tryz.ntmps53
     go_wp2
     refine bodyPost_ret (v := faultC ⟨0, 0, 0⟩) ?_ rfl ⟨rfl, done⟩
     simp [results, Tryz.results53, go_sem]
def dspotV (ws : List Src.Wd) (i : Nat) (line : Int) : Value := match Src.spotP ws i with
 | .inl (k, e) => .tuple #[.agg #[.int .i64 0, .int .i64 0, .int .i64 0, .int .i64 0, .int .i64 0, .int .i64 0], faultC ⟨e, line, Src.pt ws (i + k.toNat)⟩]
 | .inr x => .tuple #[.agg x.cells, faultC ⟨0, 0, 0⟩]
set_option maxRecDepth 100000 in
set_option maxHeartbeats 4000000 in
theorem dspot_any (line : Int) (ws : List Src.Wd) (i : Nat) (hi : i ≤ ws.length) (hw : 0 < ws.length) (hw16 : ws.length ≤ 100) (hs : ∀ x ∈ ws, x.1.size ≤ 1000) (v : Value) (w : World) (hr : Reads w v ws.length (wordCells ws)) :
 Rets Tryz.prog 93 #[v, .int .i64 i, .int .i64 line] w (dspotV ws i line) := by
 obtain ⟨i0, hi0, hz0, hz1, hz2⟩ := info_parts Tryz.infoText
 have HB := fun e line a t w => Lib.hid (dbad_any e line a t w)
 have hT := spotT_len ws i
 have hTa := fun j h => @spotT_at ws i j h
 have hTs : ∀ s ∈ spotT ws i, s.length ≤ 2000 := by
  intro s hm
  obtain ⟨x, hx, rfl⟩ := List.mem_map.1 hm
  have := hs x (List.mem_of_mem_drop (List.mem_of_mem_take hx))
  have e : x.1.data.toList.length = x.1.size := Array.length_toList
  omega
 have hcs : (∃ (j : Nat), dspotV ws i line = .tuple #[.agg #[.int .i64 0, .int .i64 0, .int .i64 0, .int .i64 0, .int .i64 0, .int .i64 0], faultC ⟨6, line, Src.pt ws (i + j)⟩] ∧ i + j < ws.length ∧ parseR (spotT ws i) = .inl ((j : Int), 6)) ∨ ∃ x, dspotV ws i line = .tuple #[.agg x.cells, faultC ⟨0, 0, 0⟩] ∧ parseR (spotT ws i) = .inr x := by
  have e : Src.spotP ws i = parseR (spotT ws i) := rfl
  unfold dspotV
  cases hp : Src.spotP ws i with
  | inl q =>
    obtain ⟨k, e'⟩ := q
    obtain ⟨j, rfl, h2, rfl⟩ := Src.spot_inl hp
    exact .inl ⟨j, by simp, h2, by rw [← e, hp]⟩
  | inr x => exact .inr ⟨x, rfl, by rw [← e, hp]⟩
 have hPa := fun n hn v w hr hs => rparse_any (spotT ws i) n hn v w hr hs
 generalize dspotV ws i line = G at *
 generalize spotT ws i = T at *
 obtain ⟨n, hn⟩ : ∃ n, ws.length = n := ⟨_, rfl⟩
 rw [hn] at hr hT
 rcases hr with ⟨_, _, e9, h9, _⟩ | ⟨bl, o, c9, e9, k1, k2, m1', hc⟩
 · exact absurd h9 (by omega)
 subst e9
 haveI : InW bl w := ⟨m1'⟩
 have Hc := Lib.hid hc
 obtain ⟨M, hM⟩ : ∃ M : Nat, min n (i + 3) - i = M := ⟨_, rfl⟩
 rw [hM] at hT
 have hin : i ≤ n := by omega
 have HP : ∀ v w', Reads w' v M (strs T) → Hid (Rets Tryz.prog 114 #[v] w' (parseV (parseR T))) := fun v w' hr => Lib.hid (hPa M hT v w' hr (fun _ => hTs))
 have HT := Lib.hid hT
 have HTa := Lib.hid hTa
 clear hc hTs hPa hT hTa
 unfold Rets
 go_enter Tryz.func93, Tryz.ntmps93
 go_wp2_with fail
 go_loopw [8, 9] (fun v iv wr => ∃ j : Nat, j ≤ M ∧ iv = .int .i64 (i + j : Nat) ∧ OwnsC wr (w.heap.size + 1 + 1) 9 1 v j (strs (T.take j)) ∧ Ext ((w.alloc (.cells #[.int .i64 0, .int .i64 0, .int .i64 0, .int .i64 0, .int .i64 0, .int .i64 0] 54)).alloc (.cells #[.int .i64 0, .int .i64 0, .int .i64 0] 29)) wr) (fun _ iv _ => i + M - (intOf iv).toNat)
 case atStart => exact ⟨0, by omega, rfl, ⟨World.ownsRow_nil _ _ _ _⟩, isext⟩
 case round =>
  obtain ⟨j, j2, rfl, hown, hx⟩ := hrel
  obtain ⟨yr, rfl⟩ := fin hx
  clear hx
  obtain ⟨av, cap, rfl⟩ := owns_shape hown.own
  by_cases hlt : j < M
  · have g1 : ((i + j : Nat) : Int) < n := by omega
    have g2 : ((i + j : Nat) : Int) < (i : Int) + 3 := by omega
    obtain ⟨d0, d1⟩ := wd_at Hc.out (i + j) (by omega)
    have HRow : Hid (strs (T.take (j + 1)) = strs (T.take j) ++ [.string (Src.tx ws (i + j))]) := by
     show _ = _
     rw [strs_take (by rw [HT.out]; exact hlt), HTa.out, tx_eq ws (i + j)]
    generalize Src.tx ws (i + j) = X at *
    generalize hij : i + j = ij at *
    go_wp2_with (at_builtin; refine wpList_append_own _ rfl _ _ 35 rfl (w.heap.size + 1 + 1) 9 i0 (.string ByteArray.empty) 1 16 Tryz.underlying35 hi0 hz0 hz1 hz2 rfl (by decide) (.slice av j cap) j (strs (T.take j)) rfl (OwnsC.own) _ 1 1 [.string X] rfl rfl (new_cells' _ _ _ _ (by simp)) (by simp [Value.oneCell']) (by unfold maxLen; omega) (by omega) (leB (a := ((w.alloc (.cells #[.int .i64 0, .int .i64 0, .int .i64 0, .int .i64 0, .int .i64 0, .int .i64 0] 54)).alloc (.cells #[.int .i64 0, .int .i64 0, .int .i64 0] 29))) (by simp only [World.size_alloc]; omega)) ?_; intro v' w1 hown1 hgrow1 _; obtain ⟨av', cap', rfl⟩ := owns_shape hown1; obtain ⟨y2, rfl⟩ := fin (grownB (a := ((w.alloc (.cells #[.int .i64 0, .int .i64 0, .int .i64 0, .int .i64 0, .int .i64 0, .int .i64 0] 54)).alloc (.cells #[.int .i64 0, .int .i64 0, .int .i64 0] 29))) (N := w.heap.size + 1 + 1) (by simp only [World.size_alloc]; omega) isext (OwnsC.own (e := 9) (size := 1) (n := j) (xs := strs (T.take j))) hgrow1); clear hgrow1; have hO : OwnsC y2.x (w.heap.size + 1 + 1) 9 1 (.slice av' (j + 1) cap') (j + 1) (strs (T.take (j + 1))) := ⟨by rw [HRow.out]; exact hown1⟩)
    go_roundw
    case rel => exact ⟨j + 1, by omega, by rw [← Nat.add_assoc, hij]; go_num, inferInstance, isext⟩
    case measure => simp [intOf]; omega
  · obtain rfl : j = M := by omega
    have hTk : T.take j = T := List.take_of_length_le (by rw [HT.out]; omega)
    rw [hTk] at hown
    have gg : decide (((i : Int) + j) < n) = false ∨ (((i : Int) + j) < n ∧ j = 3) := by
     by_cases h : i + j < n
     · exact .inr ⟨by omega, by omega⟩
     · exact .inl (decide_eq_false (by omega))
    rcases hcs with ⟨q, rfl, hq, hpr⟩ | ⟨x, rfl, hpr⟩
    · rw [hpr] at HP
      obtain ⟨d0, d1⟩ := wd_at Hc.out (i + q) hq
      have hqn : ((i : Int) + q) < n := by omega
      clear hTk
      rcases gg with g1 | ⟨g1, rfl⟩
      all_goals
       go_wp2_with fail
       go_at_call 114
       refine Rets.use (HP _ _ (owns_reads (OwnsC.own (base := w.heap.size + 1 + 1) (e := 9) (size := 1)) (by omega))).out ?_
       intro y2
       unfold parseV
       go_wp2_with (go_at_call 52; refine Rets.use (HB _ _ _ _ _).out ?_; intro y3)
       refine bodyPost_ret (v := .tuple #[.agg #[.int .i64 0, .int .i64 0, .int .i64 0, .int .i64 0, .int .i64 0, .int .i64 0], faultC ⟨6, line, Src.pt ws (i + q)⟩]) ?_ rfl ⟨rfl, done⟩
       simp [results, Tryz.results93, go_sem]
    · rw [hpr] at HP
      obtain ⟨xm, xk, xwd, xd, xt, xr⟩ := x
      clear hTk
      rcases gg with g1 | ⟨g1, rfl⟩
      all_goals
       go_wp2_with fail
       go_at_call 114
       refine Rets.use (HP _ _ (owns_reads (OwnsC.own (base := w.heap.size + 1 + 1) (e := 9) (size := 1)) (by omega))).out ?_
       intro y2
       unfold parseV Spot.cells
       go_wp2
       refine bodyPost_ret (v := .tuple #[.agg #[.int .i64 xm, .int .i64 xk, .int .i64 xwd, .int .i64 xd, .int .i64 xt, .int .i64 xr], faultC ⟨0, 0, 0⟩]) ?_ rfl ⟨rfl, done⟩
       simp [results, Tryz.results93, go_sem]
end Go.Proofs.YtdhbgelijjlifaaGreatDoor
