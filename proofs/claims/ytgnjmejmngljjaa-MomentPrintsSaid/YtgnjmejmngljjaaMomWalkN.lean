/- Walks of moments: a moment out of texts, on both sides. -/
import Derived.Test.YtgnjmejmngljjaaMomWalkM
set_option linter.unusedVariables false
set_option linter.unusedSimpArgs false
namespace Go.Proofs.Ytgnjmejmngljjaa
open Go.RowKit

/-- A moment: month, kind, weekday, day, time, clock. -/
structure Spot where
  m : Int
  k : Int
  wd : Int
  d : Int
  t : Int
  r : Int
def Spot.cells (x : Spot) : Array Value := #[.int .i64 x.m, .int .i64 x.k, .int .i64 x.wd, .int .i64 x.d, .int .i64 x.t, .int .i64 x.r]
abbrev Pr := (Int × Int) ⊕ Spot
def contR : Nat → Spot → List (List UInt8) → Pr
  | _, x, [] => .inr x
  | 0, x, a :: ws => if Mom.monthI a = 0 then .inl (0, 6) else contR 1 { x with m := (Mom.monthI a : Nat) } ws
  | 1, x, b :: ws => match Mom.dayR b with
    | none => .inl (1, 6)
    | some (k, wd, d) => contR 2 { x with k := k, wd := wd, d := d } ws
  | 2, x, c :: ws => match Mom.clockR c with
    | none => .inl (2, 6)
    | some (t, r) => contR 3 { x with t := t, r := r } ws
  | _, _, _ => .inl (3, 12)
def spot0 : Spot := ⟨1, 0, 0, 1, 0, 0⟩
def parseR (ws : List (List UInt8)) : Pr := if 3 < ws.length then .inl (3, 12) else contR 0 spot0 ws
def parseV : Pr → Value
  | .inl (i, e) => .tuple #[.agg #[.int .i64 0, .int .i64 0, .int .i64 0, .int .i64 0, .int .i64 0, .int .i64 0], .int .i64 i, .int .i64 e]
  | .inr x => .tuple #[.agg x.cells, .int .i64 0, .int .i64 0]
set_option maxRecDepth 100000 in
set_option maxHeartbeats 2000000 in
theorem parse_many (ws : List (List UInt8)) (n : Nat) (hn : ws.length = n) (h3 : 3 < n) (v : Value) (w : World) (hr : Reads w v n (strs ws)) : Rets Try.prog 15 #[v] w (parseV (parseR ws)) := by
  have E : Hid (parseV (parseR ws) = .tuple #[.agg #[.int .i64 0, .int .i64 0, .int .i64 0, .int .i64 0, .int .i64 0, .int .i64 0], .int .i64 3, .int .i64 12]) := by
    show _ = _; unfold parseR; rw [if_pos (by omega)]; rfl
  obtain ⟨a, c, rfl⟩ : ∃ a c, v = .slice a n c := by
    rcases hr with ⟨a, c, rfl, rfl, _⟩ | ⟨b, o, c, rfl, _⟩ <;> exact ⟨_, _, rfl⟩
  have h3' : (3 : Int) < n := by omega
  clear hr hn
  unfold Rets
  go_enter Try.func15, Try.ntmps15
  go_wp2
  exact bodyPost_ret (v := .tuple #[.agg #[.int .i64 0, .int .i64 0, .int .i64 0, .int .i64 0, .int .i64 0, .int .i64 0], .int .i64 3, .int .i64 12]) (by simp [results, Try.results15, go_sem]) rfl ⟨by rw [E.out], done⟩
set_option maxRecDepth 100000 in
set_option maxHeartbeats 2000000 in
theorem rparse_many (ws : List (List UInt8)) (n : Nat) (hn : ws.length = n) (h3 : 3 < n) (v : Value) (w : World) (hr : Reads w v n (strs ws)) : Rets Try.prog 16 #[v] w (parseV (parseR ws)) := by
  have E : Hid (parseV (parseR ws) = .tuple #[.agg #[.int .i64 0, .int .i64 0, .int .i64 0, .int .i64 0, .int .i64 0, .int .i64 0], .int .i64 3, .int .i64 12]) := by
    show _ = _; unfold parseR; rw [if_pos (by omega)]; rfl
  obtain ⟨a, c, rfl⟩ : ∃ a c, v = .slice a n c := by
    rcases hr with ⟨a, c, rfl, rfl, _⟩ | ⟨b, o, c, rfl, _⟩ <;> exact ⟨_, _, rfl⟩
  have h3' : (3 : Int) < n := by omega
  clear hr hn
  unfold Rets
  go_enter Try.func16, Try.ntmps16
  go_wp2
  exact bodyPost_ret (v := .tuple #[.agg #[.int .i64 0, .int .i64 0, .int .i64 0, .int .i64 0, .int .i64 0, .int .i64 0], .int .i64 3, .int .i64 12]) (by simp [results, Try.results16, go_sem]) rfl ⟨by rw [E.out], done⟩

theorem when_back {w0 : World} {C C' : Array Value} {T : TypeId} (y : Past (w0.alloc (.cells C T))) (B i : Nat) (v : Value) (hB : B = w0.heap.size) {w' : World} (hx : Ext (setB (y.x.setCell ⟨B, i, none⟩ v) B C' T) w') : Ext (w0.alloc (.cells C' T)) w' := by
  subst hB
  rw [((blk_new w0 C T).past y).set i v, setB_setB] at hx
  exact (ext_setB y).trans hx
/-- A store into the newest block, the world being a past one. -/
theorem ext_put {w0 : World} {C : Array Value} {T : TypeId} (z : Past (w0.alloc (.cells C T))) (B i : Nat) (v : Value) (hB : B = w0.heap.size) : Ext (w0.alloc (.cells (C.setIfInBounds i v) T)) (z.x.setCell ⟨B, i, none⟩ v) := ext_set_new z B i v hB
theorem ext_put2 {w0 : World} {C : Array Value} {T : TypeId} (z : Past (w0.alloc (.cells C T))) (B i j : Nat) (v u : Value) (hB : B = w0.heap.size) : Ext (w0.alloc (.cells ((C.setIfInBounds i v).setIfInBounds j u) T)) ((z.x.setCell ⟨B, i, none⟩ v).setCell ⟨B, j, none⟩ u) := by
  subst hB
  have h1 := (blk_new w0 C T).past z
  rw [h1.set i v, (setB_blk h1).set j u, setB_setB]
  exact ext_setB z
def PInv (w : World) (ws : List (List UInt8)) (j : Nat) (x : Spot) (wr : World) : Prop :=
  Hid (parseR ws = contR j x (ws.drop j)) ∧ (j ≤ 1 → x.k = 0 ∧ x.wd = 0) ∧
  Ext ((w.alloc (.cells #[.int .i64 0, .int .i64 0, .int .i64 0, .int .i64 0, .int .i64 0, .int .i64 0] 29)).alloc (.cells x.cells 29)) wr
set_option maxRecDepth 100000 in
set_option maxHeartbeats 4000000 in
theorem parse_few (ws : List (List UInt8)) (n : Nat) (hn : ws.length = n) (h3 : n ≤ 3) (v : Value) (w : World) (mx : Int) (hr : Reads w v n (strs ws)) (hs : ∀ s ∈ ws, s.length ≤ 2000) (hm : w.cell? ⟨0, 0, none⟩ = some (.int .i64 mx)) (hw0 : 0 < w.heap.size) :
    Rets Try.prog 15 #[v] w (parseV (parseR ws)) := by
  haveI : InW 0 w := ⟨hw0⟩
  by_cases hz : n = 0
  · subst hz
    obtain rfl : ws = [] := List.eq_nil_of_length_eq_zero hn
    have E : Hid (parseV (parseR []) = .tuple #[.agg #[.int .i64 1, .int .i64 0, .int .i64 0, .int .i64 1, .int .i64 0, .int .i64 0], .int .i64 0, .int .i64 0]) := rfl
    obtain ⟨a, c, rfl⟩ : ∃ a c, v = .slice a 0 c := by
      rcases hr with ⟨a, c, rfl, _⟩ | ⟨b, o, c, rfl, _⟩ <;> exact ⟨_, _, rfl⟩
    clear hr hn hs hm
    unfold Rets
    go_enter Try.func15, Try.ntmps15
    go_wp2
    refine wp_loop_rounds 1 ?_
    simp only [rounds_succ]
    go_wp2
    exact bodyPost_ret (v := .tuple #[.agg #[.int .i64 1, .int .i64 0, .int .i64 0, .int .i64 1, .int .i64 0, .int .i64 0], .int .i64 0, .int .i64 0]) (by simp [results, Try.results15, go_sem]) rfl ⟨by rw [E.out], done⟩
  rcases hr with ⟨a9, c9, rfl, h0, _⟩ | ⟨b, o, c, rfl, k1, k2, hbw, hc⟩
  · exact absurd h0 hz
  haveI : InW b w := ⟨hbw⟩
  have HC := Lib.hid hc
  have HN := Lib.hid hn
  have HS := Lib.hid hs
  have S0 : Hid (parseR ws = contR 0 spot0 (ws.drop 0)) := by show _ = _; unfold parseR; rw [if_neg (by omega)]; rfl
  clear hc hn hs
  unfold Rets
  go_enter Try.func15, Try.ntmps15
  go_wp2
  go_loopw [17] (fun iv wr => ∃ (j : Nat) (x : Spot), j ≤ n ∧ iv = .int .i64 j ∧ PInv w ws j x wr) (fun iv _ => n - (intOf iv).toNat)
  case atStart => exact ⟨0, spot0, by omega, rfl, S0, fun _ => ⟨rfl, rfl⟩, Ext.refl _⟩
  case round =>
    obtain ⟨j, x, j1, rfl, hP, hk, hx⟩ := hrel
    obtain ⟨yr, rfl⟩ := fin hx
    clear hx
    obtain ⟨xm, xk, xwd, xd, xt, xr⟩ := x
    unfold Spot.cells at yr
    simp only at yr
    by_cases c0 : j < n
    · have hj : j < ws.length := by rw [HN.out]; exact c0
      have f1 := strs_at HC.out j hj
      have hl := HS.out _ (List.getElem_mem hj)
      have P := Lib.hid (hP.out.trans (by rw [List.drop_eq_getElem_cons hj]))
      generalize ws[j] = s at *
      have hw2 : w.heap.size + 1 = (w.alloc (.cells #[.int .i64 0, .int .i64 0, .int .i64 0, .int .i64 0, .int .i64 0, .int .i64 0] 29)).heap.size := by simp
      have HW2 := Lib.hid hw2
      clear hw2 hj
      rcases (by omega : j = 0 ∨ j = 1 ∨ j = 2) with rfl | rfl | rfl
      · replace f1 : w.cell? ⟨b, o, none⟩ = some (.string ⟨s.toArray⟩) := f1
        have HM := fun w => Lib.hid (month_any s w (by unfold maxLen; omega))
        unfold foundN at HM
        have NO : Hid (Mom.monthI s = 0 → parseR ws = .inl (0, 6)) := fun h => by rw [P.out]; simp only [contR]; rw [if_pos h]
        have YES : Hid (Mom.monthI s ≠ 0 → parseR ws = contR 1 ⟨(Mom.monthI s : Nat), xk, xwd, xd, xt, xr⟩ (ws.drop 1)) := fun h => by rw [P.out]; simp only [contR]; rw [if_neg h]
        generalize Mom.monthI s = q at *
        clear P
        by_cases c1 : q = 0
        · have E : Hid (parseV (parseR ws) = .tuple #[.agg #[.int .i64 0, .int .i64 0, .int .i64 0, .int .i64 0, .int .i64 0, .int .i64 0], .int .i64 0, .int .i64 6]) := by show _ = _; rw [NO.out c1]; rfl
          subst c1
          go_wp2_with (first | (go_at_call 10; refine Rets.use1 (HM _).out ?_; intro z))
          exact bodyPost_ret (v := .tuple #[.agg #[.int .i64 0, .int .i64 0, .int .i64 0, .int .i64 0, .int .i64 0, .int .i64 0], .int .i64 0, .int .i64 6]) (by simp [results, Try.results15, go_sem]) rfl ⟨by rw [E.out], done⟩
        · have E := Lib.hid (YES.out c1)
          have c2 : decide (q ≠ 0) = true := decide_eq_true c1
          have c3 : decide (q = 0) = false := decide_eq_false c1
          have hk0 := Lib.hid (hk (by omega))
          clear c1 hk
          go_wp2_with (first | (go_at_call 10; refine Rets.use1 (HM _).out ?_; intro z))
          go_roundw
          case rel => exact ⟨1, ⟨q, xk, xwd, xd, xt, xr⟩, by omega, by first | rfl | go_num, E, fun _ => hk0.out, ext_put z _ 0 _ HW2.out⟩
          case measure => simp [intOf]; omega
      · obtain ⟨hk1, hk2⟩ := hk (by omega)
        simp only at hk1 hk2
        subst hk1; subst hk2
        have NO : Hid (Mom.dayR s = none → parseR ws = .inl (1, 6)) := fun h => by rw [P.out]; simp only [contR, h]
        have YES : Hid (∀ v1 v2 v3, Mom.dayR s = some (v1, v2, v3) → parseR ws = contR 2 ⟨xm, v1, v2, v3, xt, xr⟩ (ws.drop 2)) := fun v1 v2 v3 h => by rw [P.out]; simp only [contR, h]
        clear P hk
        have B0 : Blk yr.x (w.heap.size + 1) #[.int .i64 xm, .int .i64 0, .int .i64 0, .int .i64 xd, .int .i64 xt, .int .i64 xr] 29 := by rw [HW2.out]; exact (blk_new _ _ _).past yr
        have B1 : Blk (yr.x.setCell ⟨w.heap.size + 1, 3, none⟩ (.int .i64 0)) (w.heap.size + 1) #[.int .i64 xm, .int .i64 0, .int .i64 0, .int .i64 0, .int .i64 xt, .int .i64 xr] 29 := by
          rw [B0.set]; exact setB_blk B0
        have M1 : (yr.x.setCell ⟨w.heap.size + 1, 3, none⟩ (.int .i64 0)).cell? ⟨0, 0, none⟩ = some (.int .i64 mx) := by
          rw [World.cell?_setCell_other (w := yr.x) (a := ⟨w.heap.size + 1, 3, none⟩) (b := ⟨0, 0, none⟩) _ (by intro e; injection e with e1 _; omega), Past.cell?]
          rw [cell_alloc_in, cell_alloc_in]; exact hm
        have HWn := Lib.hid (when_any s _ (w.heap.size + 1) xm xt xr mx (by omega) B1 M1)
        have BK := Lib.hid (fun v1 v2 v3 w' hx => when_back (C' := #[.int .i64 xm, .int .i64 v1, .int .i64 v2, .int .i64 v3, .int .i64 xt, .int .i64 xr]) yr (w.heap.size + 1) 3 (.int .i64 0) HW2.out (w' := w') hx)
        clear B0 B1 M1
        obtain ⟨o1, ho⟩ : ∃ o1, Mom.dayR s = o1 := ⟨_, rfl⟩
        rw [ho] at HWn
        cases o1 with
        | none =>
          have E : Hid (parseV (parseR ws) = .tuple #[.agg #[.int .i64 0, .int .i64 0, .int .i64 0, .int .i64 0, .int .i64 0, .int .i64 0], .int .i64 1, .int .i64 6]) := by show _ = _; rw [NO.out ho]; rfl
          clear NO YES ho
          go_wp2_with fail
          refine HWn.out.mono ?_
          rintro _ w9 ⟨v1, v2, v3, rfl, hv, hx⟩
          obtain ⟨z, rfl⟩ := fin (BK.out v1 v2 v3 w9 hx)
          clear hx hv
          go_wp2
          exact bodyPost_ret (v := .tuple #[.agg #[.int .i64 0, .int .i64 0, .int .i64 0, .int .i64 0, .int .i64 0, .int .i64 0], .int .i64 1, .int .i64 6]) (by simp [results, Try.results15, go_sem]) rfl ⟨by rw [E.out], done⟩
        | some x1 =>
          obtain ⟨a1, a2, a3⟩ := x1
          have E := Lib.hid (YES.out _ _ _ ho)
          clear NO YES ho
          go_wp2_with fail
          refine HWn.out.mono ?_
          rintro _ w9 ⟨v1, v2, v3, rfl, hv, hx⟩
          obtain ⟨z, rfl⟩ := fin (BK.out v1 v2 v3 w9 hx)
          have hv2 := hv _ rfl
          simp only [Prod.mk.injEq] at hv2
          obtain ⟨rfl, rfl, rfl⟩ := hv2
          clear hx hv
          go_wp2
          go_roundw
          case rel => exact ⟨2, ⟨xm, a1, a2, a3, xt, xr⟩, by omega, by first | rfl | go_num, E, fun h => by omega, z.hb⟩
          case measure => simp [intOf]; omega
      · have NO : Hid (Mom.clockR s = none → parseR ws = .inl (2, 6)) := fun h => by rw [P.out]; simp only [contR, h]
        have YES : Hid (∀ v1 v2, Mom.clockR s = some (v1, v2) → parseR ws = contR 3 ⟨xm, xk, xwd, xd, v1, v2⟩ (ws.drop 3)) := fun v1 v2 h => by rw [P.out]; simp only [contR, h]
        have HK := fun w => Lib.hid (clock_any s w (by unfold maxLen; omega))
        rw [Mom.clock_eq] at HK
        clear P hk
        obtain ⟨o1, ho⟩ : ∃ o1, Mom.clockR s = o1 := ⟨_, rfl⟩
        rw [ho] at HK
        cases o1 with
        | none =>
          have E : Hid (parseV (parseR ws) = .tuple #[.agg #[.int .i64 0, .int .i64 0, .int .i64 0, .int .i64 0, .int .i64 0, .int .i64 0], .int .i64 2, .int .i64 6]) := by show _ = _; rw [NO.out ho]; rfl
          clear NO YES ho
          unfold clockV at HK
          go_wp2_with (first | (go_at_call 21; refine Rets.use1 (HK _).out ?_; intro z))
          exact bodyPost_ret (v := .tuple #[.agg #[.int .i64 0, .int .i64 0, .int .i64 0, .int .i64 0, .int .i64 0, .int .i64 0], .int .i64 2, .int .i64 6]) (by simp [results, Try.results15, go_sem]) rfl ⟨by rw [E.out], done⟩
        | some x1 =>
          obtain ⟨a1, a2⟩ := x1
          have E := Lib.hid (YES.out _ _ ho)
          clear NO YES ho
          unfold clockV at HK
          go_wp2_with (first | (go_at_call 21; refine Rets.use1 (HK _).out ?_; intro z))
          go_roundw
          case rel => exact ⟨3, ⟨xm, xk, xwd, xd, a1, a2⟩, by omega, by first | rfl | go_num, E, fun h => by omega, ext_put2 z _ 4 5 _ _ HW2.out⟩
          case measure => simp [intOf]; omega
    · have E : Hid (parseV (parseR ws) = .tuple #[.agg #[.int .i64 xm, .int .i64 xk, .int .i64 xwd, .int .i64 xd, .int .i64 xt, .int .i64 xr], .int .i64 0, .int .i64 0]) := by
        show _ = _
        rw [hP.out, List.drop_eq_nil_of_le (by rw [HN.out]; omega)]
        cases j <;> rfl
      go_wp2
      exact bodyPost_ret (v := .tuple #[.agg #[.int .i64 xm, .int .i64 xk, .int .i64 xwd, .int .i64 xd, .int .i64 xt, .int .i64 xr], .int .i64 0, .int .i64 0]) (by simp [results, Try.results15, go_sem]) rfl ⟨by rw [E.out], done⟩
theorem parse_any (ws : List (List UInt8)) (n : Nat) (hn : ws.length = n) (v : Value) (w : World) (mx : Int) (hr : Reads w v n (strs ws)) (hs : n ≤ 3 → ∀ s ∈ ws, s.length ≤ 2000) (hm : w.cell? ⟨0, 0, none⟩ = some (.int .i64 mx)) (hw0 : 0 < w.heap.size) :
    Rets Try.prog 15 #[v] w (parseV (parseR ws)) := by
  by_cases h3 : n ≤ 3
  · exact parse_few ws n hn h3 v w mx hr (hs h3) hm hw0
  · exact parse_many ws n hn (by omega) v w hr
end Go.Proofs.Ytgnjmejmngljjaa
