/- Walks of moments: the program's days, written through a pointer. -/
import Derived.Test.YtdhbgelijjlifaaGreatDoorMomWalkL
set_option linter.unusedVariables false
set_option linter.unusedSimpArgs false
namespace Go.Proofs.YtdhbgelijjlifaaGreatDoor
open Go.RowKit
def setB (W : World) (B : Nat) (C : Array Value) (T : TypeId) : World := { W with heap := W.heap.setIfInBounds B (.cells C T (0, 0)) }
def Blk (W : World) (B : Nat) (C : Array Value) (T : TypeId) : Prop := W.heap[B]? = some (.cells C T (0, 0))
theorem Blk.lt {W : World} {B : Nat} {C : Array Value} {T : TypeId} (h : Blk W B C T) : B < W.heap.size := (Array.getElem?_eq_some_iff.1 h).1
theorem Blk.set {W : World} {B : Nat} {C : Array Value} {T : TypeId} (h : Blk W B C T) (i : Nat) (v : Value) : W.setCell ⟨B, i, none⟩ v = setB W B (C.setIfInBounds i v) T := by
 have e : (W.setCell ⟨B, i, none⟩ v).heap = W.heap.setIfInBounds B (.cells (C.setIfInBounds i v) T (0, 0)) := by
  apply Array.ext_getElem?
  intro k
  simp only [World.setCell, Array.getElem?_modify, Array.getElem?_setIfInBounds]
  by_cases c : B = k
  · subst c; rw [if_pos rfl, if_pos rfl, if_pos h.lt, show W.heap[B]? = _ from h]; rfl
  · rw [if_neg c, if_neg c]
 show ({ W with heap := (W.setCell ⟨B, i, none⟩ v).heap } : World) = _
 rw [e]; rfl
theorem setB_blk {W : World} {B : Nat} {C C' : Array Value} {T : TypeId} (h : Blk W B C T) : Blk (setB W B C' T) B C' T := by
 show (W.heap.setIfInBounds B _)[B]? = _
 rw [Array.getElem?_setIfInBounds, if_pos rfl, if_pos h.lt]
theorem setB_setB (W : World) (B : Nat) (C C' : Array Value) (T : TypeId) : setB (setB W B C T) B C' T = setB W B C' T := by
 show ({ W with heap := (W.heap.setIfInBounds B _).setIfInBounds B _ } : World) = { W with heap := _ }
 congr 1
 apply Array.ext_getElem?
 intro i
 rw [Array.getElem?_setIfInBounds, Array.getElem?_setIfInBounds, Array.getElem?_setIfInBounds, Array.size_setIfInBounds]
 by_cases c : B = i
 · rw [if_pos c, if_pos c]
 · rw [if_neg c, if_neg c, if_neg c]
theorem Blk.cell {W : World} {B : Nat} {C : Array Value} {T : TypeId} (h : Blk W B C T) (i : Nat) : W.cell? ⟨B, i, none⟩ = C[i]? := by
 unfold World.cell?; rw [show W.heap[B]? = _ from h]; simp
theorem Blk.frozen {W : World} {B : Nat} {C : Array Value} {T : TypeId} (h : Blk W B C T) (i : Nat) : W.frozen? ⟨B, i, none⟩ = false := by
 unfold World.frozen?; rw [show W.heap[B]? = _ from h]; simp
theorem ext_setB {w0 : World} {C C' : Array Value} {T : TypeId} (z : Past (w0.alloc (.cells C T))) : Ext (w0.alloc (.cells C' T)) (setB z.x w0.heap.size C' T) := by
 have hb := z.hb
 have hz := Below.size hb
 have h1 : (w0.alloc (.cells C T)).heap.size = w0.heap.size + 1 := by simp
 have h2 : (w0.alloc (.cells C' T)).heap.size = w0.heap.size + 1 := by simp
 rw [h1] at hz
 refine ⟨hb.os, hb.tape, hb.output, by show _ ≤ (Array.setIfInBounds _ _ _).size; rw [Array.size_setIfInBounds, h2]; exact hz, fun k hk => ?_⟩
 show (z.x.heap.setIfInBounds w0.heap.size _)[k]? = _
 rw [Array.getElem?_setIfInBounds]
 by_cases c : w0.heap.size = k
 · rw [if_pos c, if_pos (by omega), ← c]; exact (heap_new_get w0 _).symm
 · rw [if_neg c, hb.block k (by rw [h1]; rw [h2] at hk; exact hk)]
   show (w0.heap.push _)[k]? = (w0.heap.push _)[k]?
   rw [Array.getElem?_push, Array.getElem?_push, if_neg (Ne.symm c), if_neg (Ne.symm c)]
theorem blk_new (w0 : World) (C : Array Value) (T : TypeId) : Blk (w0.alloc (.cells C T)) w0.heap.size C T := heap_new_get w0 _
theorem Blk.past {W : World} {B : Nat} {C : Array Value} {T : TypeId} (h : Blk W B C T) (y : Past W) : Blk y.x B C T := (y.hb.block B h.lt).trans h
theorem ext_set_new {w0 : World} {C : Array Value} {T : TypeId} (z : Past (w0.alloc (.cells C T))) (n i : Nat) (v : Value) (hn : n = w0.heap.size) : Ext (w0.alloc (.cells (C.setIfInBounds i v) T)) (z.x.setCell ⟨n, i, none⟩ v) := by
 subst hn
 rw [((blk_new w0 C T).past z).set i v]
 exact ext_setB z
def cutSV (l : List UInt8) : Option Nat → Value
 | some i => .tuple #[.string ⟨(l.take i).toArray⟩, .string ⟨(l.drop (i + 2)).toArray⟩, .bool true]
 | none => .tuple #[.string ⟨l.toArray⟩, .string ⟨#[]⟩, .bool false]
theorem cutsign_any (c : UInt8) (l : List UInt8) (m : Int) (w : World) (hs : l.length ≤ 1000000) (hm : w.cell? ⟨0, 0, none⟩ = some (.int .i64 m)) :
 Rets Tryz.prog 77 #[.string ⟨l.toArray⟩, .string ⟨#[c, 61]⟩] w (cutSV l (Mom.signL c l)) := by
 have h := Tryz.strings_Cut ⟨l.toArray⟩ ⟨#[c, 61]⟩ m w (by rw [lsz]; omega) hm
 have e : Lib.cut (⟨l.toArray⟩ : ByteArray).data.toList (⟨#[c, 61]⟩ : ByteArray).data.toList = match Mom.signL c l with | some i => (l.take i, l.drop (i + 2), true) | none => (l, [], false) := Mom.cut_sign c l
 rw [e] at h
 refine Calls.mono h ?_
 rintro _ _ ⟨rfl, n, rfl⟩
 refine ⟨?_, done⟩
 cases Mom.signL c l <;> rfl
theorem cutlast_yes (L r : List UInt8) (h : L = 108 :: 97 :: 115 :: 116 :: r) (w : World) : Rets Tryz.prog 148 #[.string ⟨L.toArray⟩, .string ⟨#[108, 97, 115, 116]⟩] w (.tuple #[.string ⟨r.toArray⟩, .bool true]) := by
 have hc := Tryz.strings_CutPrefix ⟨L.toArray⟩ ⟨#[108, 97, 115, 116]⟩ w
 have h1 : Lib.hasPrefix (⟨L.toArray⟩ : ByteArray).data.toList (⟨#[108, 97, 115, 116]⟩ : ByteArray).data.toList = true := by
  show Lib.hasPrefix L [108, 97, 115, 116] = true
  subst h; simp [Lib.hasPrefix, List.isPrefixOf]
 have h2 : Lib.trimPrefix (⟨L.toArray⟩ : ByteArray).data.toList (⟨#[108, 97, 115, 116]⟩ : ByteArray).data.toList = r := by
  unfold Lib.trimPrefix; rw [h1, if_pos rfl]; subst h; rfl
 rw [h1, h2] at hc
 refine Calls.mono hc ?_
 rintro _ _ ⟨rfl, rfl⟩
 exact ⟨rfl, done⟩
theorem cutlast_no (l : List UInt8) (w : World) (h : ¬ l.take 4 = [108, 97, 115, 116]) : Rets Tryz.prog 148 #[.string ⟨l.toArray⟩, .string ⟨#[108, 97, 115, 116]⟩] w (.tuple #[.string ⟨l.toArray⟩, .bool false]) := by
 refine Calls.mono (Tryz.strings_CutPrefix ⟨l.toArray⟩ ⟨#[108, 97, 115, 116]⟩ w) ?_
 rintro _ _ ⟨rfl, rfl⟩
 refine ⟨?_, done⟩
 have hp : Lib.hasPrefix l [108, 97, 115, 116] = false := by
  rw [Bool.eq_false_iff]; intro hp
  unfold Lib.hasPrefix at hp
  have := (Mom.prefix_iff _ _).1 hp
  exact h this.symm
 simp [Lib.trimPrefix, hp]
def WhenEnd (W : World) (B : Nat) (m t r : Int) (o : Option (Int × Int × Int)) (e : Ending) (w' : World) : Prop :=
 ∃ v1 v2 v3 : Int, e = .returned (.bool o.isSome) ∧ (∀ x, o = some x → x = (v1, v2, v3)) ∧ Ext (setB W B #[.int .i64 m, .int .i64 v1, .int .i64 v2, .int .i64 v3, .int .i64 t, .int .i64 r] 54) w'
set_option maxRecDepth 100000 in
set_option maxHeartbeats 4000000 in
theorem when_last (L rl : List UInt8) (hL : L = 108 :: 97 :: 115 :: 116 :: rl) (W : World) (B : Nat) (m t r : Int) (hs : rl.length ≤ 100000) (hb : Blk W B #[.int .i64 m, .int .i64 0, .int .i64 0, .int .i64 0, .int .i64 t, .int .i64 r] 54) :
 Calls Tryz.prog 125 #[.string ⟨L.toArray⟩, .pointer (some ⟨B, 0, none⟩)] W (WhenEnd W B m t r (Mom.dayL rl)) := by
 haveI : InW B W := ⟨hb.lt⟩
 have HP := fun w => Lib.hid (cutlast_yes L rl hL w)
 have HW := fun w => Lib.hid (weekday_any rl w (by unfold maxLen; omega))
 have HB := Lib.hid hb
 have c1 : W.cell? ⟨B, 1, none⟩ = some (.int .i64 0) := hb.cell 1
 have c2 : W.cell? ⟨B, 2, none⟩ = some (.int .i64 0) := hb.cell 2
 have z1 := hb.frozen 1
 have z2 := hb.frozen 2
 have EL : Hid (Mom.dayL rl = if Mom.dayI rl ≠ 0 then some (1, ((Mom.dayI rl : Nat) : Int), 0) else none) := rfl
 unfold foundN at HW
 generalize Mom.dayI rl = d at *
 clear hb hL
 go_enter Tryz.func125, Tryz.ntmps125
 have FIN : Hid (∀ v : Int, ((W.setCell ⟨B, 1, none⟩ (.int .i64 1)).setCell ⟨B, 2, none⟩ (.int .i64 v)) = setB W B #[.int .i64 m, .int .i64 1, .int .i64 v, .int .i64 0, .int .i64 t, .int .i64 r] 54) := fun v => by
  rw [HB.out.set, (setB_blk HB.out).set, setB_setB]; rfl
 by_cases c : d = 0
 · have E : Hid (Mom.dayL rl = none) := by show _ = _; rw [EL.out, if_neg (by simp [c])]
   subst c
   clear EL
   go_wp2_with (first | (go_at_call 148; refine Rets.use (HP _).out ?_; intro y1) | (go_at_call 149; refine Rets.use (HW _).out ?_; intro z))
   go_ret
   exact ⟨1, 0, 0, by rw [E.out]; rfl, (by rw [E.out]; intro x hx; cases hx), by rw [← FIN.out 0]; exact ((y1.set B 1 _).set B 2 _).hb.trans (z.set B 2 _).hb⟩
 · have E : Hid (Mom.dayL rl = some (1, (d : Int), 0)) := by show _ = _; rw [EL.out, if_pos c]
   have c1 : decide (d ≠ 0) = true := decide_eq_true c
   have c2 : decide (d = 0) = false := decide_eq_false c
   clear EL c
   go_wp2_with (first | (go_at_call 148; refine Rets.use (HP _).out ?_; intro y1) | (go_at_call 149; refine Rets.use (HW _).out ?_; intro z))
   go_ret
   exact ⟨1, d, 0, by rw [E.out]; first | done | rfl | simp, by rw [E.out]; intro x hx; cases hx; rfl, by rw [← FIN.out d]; exact ((y1.set B 1 _).set B 2 _).hb.trans (z.set B 2 _).hb⟩
set_option maxRecDepth 100000 in
set_option maxHeartbeats 4000000 in
theorem when_other (L : List UInt8) (W : World) (B : Nat) (m t r mx : Int) (hs : L.length ≤ 100000) (h4 : ¬ L.take 4 = [108, 97, 115, 116]) (hb : Blk W B #[.int .i64 m, .int .i64 0, .int .i64 0, .int .i64 0, .int .i64 t, .int .i64 r] 54)
 (h0 : W.cell? ⟨0, 0, none⟩ = some (.int .i64 mx)) :
 Calls Tryz.prog 125 #[.string ⟨L.toArray⟩, .pointer (some ⟨B, 0, none⟩)] W (WhenEnd W B m t r (Mom.dayN L)) := by
 haveI : InW B W := ⟨hb.lt⟩
 haveI : InW 0 W := ⟨by have := hb.lt; omega⟩
 have HP := fun w => Lib.hid (cutlast_no L w h4)
 have HW := Lib.hid (fun (r : List UInt8) (hr : r.length ≤ 100000) w => weekday_any r w (by unfold maxLen; omega))
 have HD := Lib.hid (fun (r : List UInt8) (hr : r.length ≤ 100000) => days_txt r (by unfold maxLen; omega))
 have HC := fun c (y : Past W) => Lib.hid (cutsign_any c L mx y.x (by omega) (by rw [Past.cell?]; exact h0))
 have HB := Lib.hid hb
 have c1 : W.cell? ⟨B, 1, none⟩ = some (.int .i64 0) := hb.cell 1
 have c2 : W.cell? ⟨B, 2, none⟩ = some (.int .i64 0) := hb.cell 2
 have c3 : W.cell? ⟨B, 3, none⟩ = some (.int .i64 0) := hb.cell 3
 have z1 := hb.frozen 1
 have z2 := hb.frozen 2
 have z3 := hb.frozen 3
 have EN : Hid (Mom.dayN L = match Mom.signL 62 L with
  | some i => Mom.dayAt 2 (L.take i) (L.drop (i + 2))
  | none => match Mom.signL 60 L with
    | some i => Mom.dayAt 3 (L.take i) (L.drop (i + 2))
    | none => if Mom.dnum L ≠ 0 then some (0, 0, Mom.dnum L) else none) := rfl
 have LN := Lib.hid hs
 have i0 : ∀ w, (Instr.index 177 (.agg #[.string ⟨#[62, 61]⟩, .string ⟨#[60, 61]⟩]) (.int .i64 0)).run Tryz.prog w = .ok (.string ⟨#[62, 61]⟩) w := fun _ => by kernel_rfl
 have i1 : ∀ w, (Instr.index 177 (.agg #[.string ⟨#[62, 61]⟩, .string ⟨#[60, 61]⟩]) (.int .i64 1)).run Tryz.prog w = .ok (.string ⟨#[60, 61]⟩) w := fun _ => by kernel_rfl
 have FIN : Hid (∀ v1 v2 v3 : Int, (((W.setCell ⟨B, 1, none⟩ (.int .i64 v1)).setCell ⟨B, 2, none⟩ (.int .i64 v2)).setCell ⟨B, 3, none⟩ (.int .i64 v3)) = setB W B #[.int .i64 m, .int .i64 v1, .int .i64 v2, .int .i64 v3, .int .i64 t, .int .i64 r] 54) := fun v1 v2 v3 => by
  rw [HB.out.set, (setB_blk HB.out).set, setB_setB, (setB_blk HB.out).set, setB_setB]; rfl
 have FIN3 : Hid (∀ v3 : Int, (W.setCell ⟨B, 3, none⟩ (.int .i64 v3)) = setB W B #[.int .i64 m, .int .i64 0, .int .i64 0, .int .i64 v3, .int .i64 t, .int .i64 r] 54) := fun v3 => by
  rw [HB.out.set]; rfl
 clear hb hs h4 h0
 go_enter Tryz.func125, Tryz.ntmps125
 go_wp2_with (first | (go_at_call 148; refine Rets.use (HP _).out ?_; intro y1))
 go_loopw [33] (fun kv wr => ∃ K : Int, (K = 0 ∨ K = 1 ∧ Hid (Mom.signL 62 L = none) ∨ K = 2 ∧ Hid (Mom.signL 62 L = none) ∧ Hid (Mom.signL 60 L = none)) ∧ kv = .int .i64 K ∧ Ext W wr) (fun kv _ => 2 - (intOf kv).toNat)
 case atStart => exact ⟨0, .inl rfl, rfl, isext⟩
 case round =>
  obtain ⟨K, hK, rfl, hx⟩ := hrel
  obtain ⟨yr, rfl⟩ := fin hx
  clear hx
  rcases hK with rfl | ⟨rfl, h2⟩ | ⟨rfl, h2, h3⟩
  · obtain ⟨o, hc⟩ : ∃ o, Mom.signL 62 L = o := ⟨_, rfl⟩
    have HCk := HC 62 yr
    cases o with
    | none =>
      rw [hc] at HCk
      unfold cutSV at HCk
      have H2 := Lib.hid hc
      clear hc
      go_wp2_with (first | (go_at_call 77; refine Rets.use1 HCk.out ?_; intro _))
      go_roundw
      case rel => exact ⟨1, .inr (.inl ⟨rfl, H2⟩), rfl, isext⟩
      case measure => simp [intOf]
    | some i =>
      have hi2 := Mom.sign_lt 62 L i hc
      have E2 : Hid (Mom.dayN L = Mom.dayAt 2 (L.take i) (L.drop (i + 2))) := by show _ = _; rw [EN.out]; simp only [hc]
      rw [hc] at HCk
      replace HCk : Hid (Rets Tryz.prog 77 #[.string ⟨L.toArray⟩, .string ⟨#[62, 61]⟩] yr.x (.tuple #[.string ⟨(L.take i).toArray⟩, .string ⟨(L.drop (i + 2)).toArray⟩, .bool true])) := HCk
      have HWi := fun w => Lib.hid (HW.out (L.take i) (by rw [List.length_take]; have := LN.out; omega) w)
      obtain ⟨n, hn, hd⟩ := HD.out (L.drop (i + 2)) (by rw [List.length_drop]; have := LN.out; omega)
      have HDn := fun w => Lib.hid (hd w)
      have HN := Lib.hid hn
      unfold foundN at HWi
      unfold Mom.dayAt at E2
      generalize Mom.dayI (L.take i) = d at *
      generalize Mom.dnum (L.drop (i + 2)) = q at *
      generalize L.take i = La at *
      generalize L.drop (i + 2) = Lb at *
      clear hd hn hc hi2
      have cs : (d = 0) ∨ (decide (d ≠ 0) = true ∧ decide (d = 0) = false ∧ d ≠ 0) := by
       by_cases c1 : d = 0
       · exact .inl c1
       · exact .inr ⟨decide_eq_true c1, decide_eq_false c1, c1⟩
      rcases cs with c1 | ⟨c1, c2, c3⟩
      · have F : Hid (Mom.dayN L = none) := by show _ = _; rw [E2.out, if_neg (fun h => h.1 c1)]
        subst c1
        clear E2
        go_wp2_with (first | (go_at_call 77; refine Rets.use1 HCk.out ?_; intro yc) | (go_at_call 149; refine Rets.use (HWi _).out ?_; intro z1) | (go_at_call 150; refine Rets.use (HDn _).out ?_; intro z2))
        all_goals (go_ret; exact ⟨2, 0, n, by rw [F.out]; first | done | rfl | simp, (by rw [F.out]; intro x hx; cases hx), by rw [← FIN.out 2 0 n]; exact ((((yc.set B 1 _).set B 2 _).set B 3 _).hb.trans ((z1.set B 2 _).set B 3 _).hb).trans (z2.set B 3 _).hb⟩)
      · by_cases c4 : q = 0
        · have F : Hid (Mom.dayN L = none) := by show _ = _; rw [E2.out, if_neg (fun h => h.2 c4)]
          subst c4
          clear E2 c3
          go_wp2_with (first | (go_at_call 77; refine Rets.use1 HCk.out ?_; intro yc) | (go_at_call 149; refine Rets.use (HWi _).out ?_; intro z1) | (go_at_call 150; refine Rets.use (HDn _).out ?_; intro z2))
          all_goals (go_ret; exact ⟨2, d, n, by rw [F.out]; first | done | rfl | simp, (by rw [F.out]; intro x hx; cases hx), by rw [← FIN.out 2 d n]; exact ((((yc.set B 1 _).set B 2 _).set B 3 _).hb.trans ((z1.set B 2 _).set B 3 _).hb).trans (z2.set B 3 _).hb⟩)
        · have F : Hid (Mom.dayN L = some (2, (d : Int), q)) := by show _ = _; rw [E2.out, if_pos ⟨c3, c4⟩]
          have c5 : decide (q ≠ 0) = true := decide_eq_true c4
          have c6 : decide (q = 0) = false := decide_eq_false c4
          obtain rfl : n = q := HN.out c4
          clear E2 c3 c4
          go_wp2_with (first | (go_at_call 77; refine Rets.use1 HCk.out ?_; intro yc) | (go_at_call 149; refine Rets.use (HWi _).out ?_; intro z1) | (go_at_call 150; refine Rets.use (HDn _).out ?_; intro z2))
          all_goals (go_ret; exact ⟨2, d, n, by rw [F.out]; first | done | rfl | simp, (by rw [F.out]; intro x hx; cases hx; rfl), by rw [← FIN.out 2 d n]; exact ((((yc.set B 1 _).set B 2 _).set B 3 _).hb.trans ((z1.set B 2 _).set B 3 _).hb).trans (z2.set B 3 _).hb⟩)
  · obtain ⟨o, hc⟩ : ∃ o, Mom.signL 60 L = o := ⟨_, rfl⟩
    have HCk := HC 60 yr
    cases o with
    | none =>
      rw [hc] at HCk
      unfold cutSV at HCk
      have H2 := Lib.hid hc
      clear hc
      go_wp2_with (first | (go_at_call 77; refine Rets.use1 HCk.out ?_; intro _))
      go_roundw
      case rel => exact ⟨2, .inr (.inr ⟨rfl, h2, H2⟩), rfl, isext⟩
      case measure => simp [intOf]
    | some i =>
      have hi2 := Mom.sign_lt 60 L i hc
      have E2 : Hid (Mom.dayN L = Mom.dayAt 3 (L.take i) (L.drop (i + 2))) := by show _ = _; rw [EN.out]; simp only [h2.out, hc]
      rw [hc] at HCk
      replace HCk : Hid (Rets Tryz.prog 77 #[.string ⟨L.toArray⟩, .string ⟨#[60, 61]⟩] yr.x (.tuple #[.string ⟨(L.take i).toArray⟩, .string ⟨(L.drop (i + 2)).toArray⟩, .bool true])) := HCk
      have HWi := fun w => Lib.hid (HW.out (L.take i) (by rw [List.length_take]; have := LN.out; omega) w)
      obtain ⟨n, hn, hd⟩ := HD.out (L.drop (i + 2)) (by rw [List.length_drop]; have := LN.out; omega)
      have HDn := fun w => Lib.hid (hd w)
      have HN := Lib.hid hn
      unfold foundN at HWi
      unfold Mom.dayAt at E2
      generalize Mom.dayI (L.take i) = d at *
      generalize Mom.dnum (L.drop (i + 2)) = q at *
      generalize L.take i = La at *
      generalize L.drop (i + 2) = Lb at *
      clear hd hn hc hi2
      have cs : (d = 0) ∨ (decide (d ≠ 0) = true ∧ decide (d = 0) = false ∧ d ≠ 0) := by
       by_cases c1 : d = 0
       · exact .inl c1
       · exact .inr ⟨decide_eq_true c1, decide_eq_false c1, c1⟩
      rcases cs with c1 | ⟨c1, c2, c3⟩
      · have F : Hid (Mom.dayN L = none) := by show _ = _; rw [E2.out, if_neg (fun h => h.1 c1)]
        subst c1
        clear E2
        go_wp2_with (first | (go_at_call 77; refine Rets.use1 HCk.out ?_; intro yc) | (go_at_call 149; refine Rets.use (HWi _).out ?_; intro z1) | (go_at_call 150; refine Rets.use (HDn _).out ?_; intro z2))
        all_goals (go_ret; exact ⟨3, 0, n, by rw [F.out]; first | done | rfl | simp, (by rw [F.out]; intro x hx; cases hx), by rw [← FIN.out 3 0 n]; exact ((((yc.set B 1 _).set B 2 _).set B 3 _).hb.trans ((z1.set B 2 _).set B 3 _).hb).trans (z2.set B 3 _).hb⟩)
      · by_cases c4 : q = 0
        · have F : Hid (Mom.dayN L = none) := by show _ = _; rw [E2.out, if_neg (fun h => h.2 c4)]
          subst c4
          clear E2 c3
          go_wp2_with (first | (go_at_call 77; refine Rets.use1 HCk.out ?_; intro yc) | (go_at_call 149; refine Rets.use (HWi _).out ?_; intro z1) | (go_at_call 150; refine Rets.use (HDn _).out ?_; intro z2))
          all_goals (go_ret; exact ⟨3, d, n, by rw [F.out]; first | done | rfl | simp, (by rw [F.out]; intro x hx; cases hx), by rw [← FIN.out 3 d n]; exact ((((yc.set B 1 _).set B 2 _).set B 3 _).hb.trans ((z1.set B 2 _).set B 3 _).hb).trans (z2.set B 3 _).hb⟩)
        · have F : Hid (Mom.dayN L = some (3, (d : Int), q)) := by show _ = _; rw [E2.out, if_pos ⟨c3, c4⟩]
          have c5 : decide (q ≠ 0) = true := decide_eq_true c4
          have c6 : decide (q = 0) = false := decide_eq_false c4
          obtain rfl : n = q := HN.out c4
          clear E2 c3 c4
          go_wp2_with (first | (go_at_call 77; refine Rets.use1 HCk.out ?_; intro yc) | (go_at_call 149; refine Rets.use (HWi _).out ?_; intro z1) | (go_at_call 150; refine Rets.use (HDn _).out ?_; intro z2))
          all_goals (go_ret; exact ⟨3, d, n, by rw [F.out]; first | done | rfl | simp, (by rw [F.out]; intro x hx; cases hx; rfl), by rw [← FIN.out 3 d n]; exact ((((yc.set B 1 _).set B 2 _).set B 3 _).hb.trans ((z1.set B 2 _).set B 3 _).hb).trans (z2.set B 3 _).hb⟩)
  · have E2 : Hid (Mom.dayN L = if Mom.dnum L ≠ 0 then some (0, 0, Mom.dnum L) else none) := by show _ = _; rw [EN.out]; simp only [h2.out, h3.out]
    obtain ⟨n, hn, hd⟩ := HD.out L LN.out
    have HDn := fun w => Lib.hid (hd w)
    have HN := Lib.hid hn
    generalize Mom.dnum L = q at *
    clear hd hn
    by_cases c4 : q = 0
    · have F : Hid (Mom.dayN L = none) := by show _ = _; rw [E2.out, if_neg (by simp [c4])]
      subst c4
      clear E2
      go_wp2_with (go_at_call 150; refine Rets.use1 (HDn _).out ?_; intro z2)
      go_ret
      exact ⟨0, 0, n, by rw [F.out]; first | done | rfl | simp, (by rw [F.out]; intro x hx; cases hx), by rw [← FIN3.out n]; exact (z2.set B 3 _).hb⟩
    · have F : Hid (Mom.dayN L = some (0, 0, q)) := by show _ = _; rw [E2.out, if_pos c4]
      have c5 : decide (q ≠ 0) = true := decide_eq_true c4
      have c6 : decide (q = 0) = false := decide_eq_false c4
      obtain rfl : n = q := HN.out c4
      clear E2 c4
      go_wp2_with (go_at_call 150; refine Rets.use1 (HDn _).out ?_; intro z2)
      go_ret
      exact ⟨0, 0, n, by rw [F.out]; first | done | rfl | simp, (by rw [F.out]; intro x hx; cases hx; rfl), by rw [← FIN3.out n]; exact (z2.set B 3 _).hb⟩
theorem when_any (L : List UInt8) (W : World) (B : Nat) (m t r mx : Int) (hs : L.length ≤ 100000) (hb : Blk W B #[.int .i64 m, .int .i64 0, .int .i64 0, .int .i64 0, .int .i64 t, .int .i64 r] 54)
 (h0 : W.cell? ⟨0, 0, none⟩ = some (.int .i64 mx)) : Calls Tryz.prog 125 #[.string ⟨L.toArray⟩, .pointer (some ⟨B, 0, none⟩)] W (WhenEnd W B m t r (Mom.dayR L)) := by
 by_cases h4 : L.take 4 = [108, 97, 115, 116]
 · have e : Mom.dayR L = Mom.dayL (L.drop 4) := if_pos h4
   rw [e]
   refine when_last L (L.drop 4) ?_ W B m t r (by rw [List.length_drop]; omega) hb
   have := List.take_append_drop 4 L
   rw [h4] at this; exact this.symm
 · have e : Mom.dayR L = Mom.dayN L := if_neg h4
   rw [e]
   exact when_other L W B m t r mx hs h4 hb h0
end Go.Proofs.YtdhbgelijjlifaaGreatDoor
namespace Go.Proofs.YtdhbgelijjlifaaGreatDoor
open Go.RowKit
structure Spot where
 m : Int
 k : Int
 wd : Int
 d : Int
 t : Int
 r : Int
def Spot.cells (x : Spot) : Array Value := #[.int .i64 x.m, .int .i64 x.k, .int .i64 x.wd, .int .i64 x.d, .int .i64 x.t, .int .i64 x.r]
abbrev Pr := (Int × Int) ⊕ Spot
def contR : Nat → Spot → List (List UInt8) → Pr
 | _, x, [] => .inr x
 | 0, x, a :: ws => if Mom.monthI a = 0 then .inl (0, 6) else contR 1 { x with m := (Mom.monthI a : Nat) } ws
 | 1, x, b :: ws => match Mom.dayR b with
   | none => .inl (1, 6)
   | some (k, wd, d) => contR 2 { x with k := k, wd := wd, d := d } ws
 | 2, x, c :: ws => match Mom.clockR c with
   | none => .inl (2, 6)
   | some (t, r) => contR 3 { x with t := t, r := r } ws
 | _, _, _ => .inl (3, 12)
def spot0 : Spot := ⟨1, 0, 0, 1, 0, 0⟩
def parseR (ws : List (List UInt8)) : Pr := if 3 < ws.length then .inl (3, 12) else contR 0 spot0 ws
def parseV : Pr → Value
 | .inl (i, e) => .tuple #[.agg #[.int .i64 0, .int .i64 0, .int .i64 0, .int .i64 0, .int .i64 0, .int .i64 0], .int .i64 i, .int .i64 e]
 | .inr x => .tuple #[.agg x.cells, .int .i64 0, .int .i64 0]
set_option maxRecDepth 100000 in
set_option maxHeartbeats 2000000 in
theorem parse_many (ws : List (List UInt8)) (n : Nat) (hn : ws.length = n) (h3 : 3 < n) (v : Value) (w : World) (hr : Reads w v n (strs ws)) : Rets Tryz.prog 111 #[v] w (parseV (parseR ws)) := by
 have E : Hid (parseV (parseR ws) = .tuple #[.agg #[.int .i64 0, .int .i64 0, .int .i64 0, .int .i64 0, .int .i64 0, .int .i64 0], .int .i64 3, .int .i64 12]) := by
  show _ = _; unfold parseR; rw [if_pos (by omega)]; rfl
 obtain ⟨a, c, rfl⟩ : ∃ a c, v = .slice a n c := by
  rcases hr with ⟨a, c, rfl, rfl, _⟩ | ⟨b, o, c, rfl, _⟩ <;> exact ⟨_, _, rfl⟩
 have h3' : (3 : Int) < n := by omega
 clear hr hn
 unfold Rets
 go_enter Tryz.func111, Tryz.ntmps111
 go_wp2
 exact bodyPost_ret (v := .tuple #[.agg #[.int .i64 0, .int .i64 0, .int .i64 0, .int .i64 0, .int .i64 0, .int .i64 0], .int .i64 3, .int .i64 12]) (by simp [results, Tryz.results111, go_sem]) rfl ⟨by rw [E.out], done⟩
set_option maxRecDepth 100000 in
set_option maxHeartbeats 2000000 in
theorem rparse_many (ws : List (List UInt8)) (n : Nat) (hn : ws.length = n) (h3 : 3 < n) (v : Value) (w : World) (hr : Reads w v n (strs ws)) : Rets Tryz.prog 114 #[v] w (parseV (parseR ws)) := by
 have E : Hid (parseV (parseR ws) = .tuple #[.agg #[.int .i64 0, .int .i64 0, .int .i64 0, .int .i64 0, .int .i64 0, .int .i64 0], .int .i64 3, .int .i64 12]) := by
  show _ = _; unfold parseR; rw [if_pos (by omega)]; rfl
 obtain ⟨a, c, rfl⟩ : ∃ a c, v = .slice a n c := by
  rcases hr with ⟨a, c, rfl, rfl, _⟩ | ⟨b, o, c, rfl, _⟩ <;> exact ⟨_, _, rfl⟩
 have h3' : (3 : Int) < n := by omega
 clear hr hn
 unfold Rets
 go_enter Tryz.func114, Tryz.ntmps114
 go_wp2
 exact bodyPost_ret (v := .tuple #[.agg #[.int .i64 0, .int .i64 0, .int .i64 0, .int .i64 0, .int .i64 0, .int .i64 0], .int .i64 3, .int .i64 12]) (by simp [results, Tryz.results114, go_sem]) rfl ⟨by rw [E.out], done⟩
theorem when_back {w0 : World} {C C' : Array Value} {T : TypeId} (y : Past (w0.alloc (.cells C T))) (B i : Nat) (v : Value) (hB : B = w0.heap.size) {w' : World} (hx : Ext (setB (y.x.setCell ⟨B, i, none⟩ v) B C' T) w') : Ext (w0.alloc (.cells C' T)) w' := by
 subst hB
 rw [((blk_new w0 C T).past y).set i v, setB_setB] at hx
 exact (ext_setB y).trans hx
theorem ext_put {w0 : World} {C : Array Value} {T : TypeId} (z : Past (w0.alloc (.cells C T))) (B i : Nat) (v : Value) (hB : B = w0.heap.size) : Ext (w0.alloc (.cells (C.setIfInBounds i v) T)) (z.x.setCell ⟨B, i, none⟩ v) := ext_set_new z B i v hB
theorem ext_put2 {w0 : World} {C : Array Value} {T : TypeId} (z : Past (w0.alloc (.cells C T))) (B i j : Nat) (v u : Value) (hB : B = w0.heap.size) : Ext (w0.alloc (.cells ((C.setIfInBounds i v).setIfInBounds j u) T)) ((z.x.setCell ⟨B, i, none⟩ v).setCell ⟨B, j, none⟩ u) := by
 subst hB
 have h1 := (blk_new w0 C T).past z
 rw [h1.set i v, (setB_blk h1).set j u, setB_setB]
 exact ext_setB z
def PInv (w : World) (ws : List (List UInt8)) (j : Nat) (x : Spot) (wr : World) : Prop :=
 Hid (parseR ws = contR j x (ws.drop j)) ∧ (j ≤ 1 → x.k = 0 ∧ x.wd = 0) ∧
 Ext ((w.alloc (.cells #[.int .i64 0, .int .i64 0, .int .i64 0, .int .i64 0, .int .i64 0, .int .i64 0] 54)).alloc (.cells x.cells 54)) wr
set_option maxRecDepth 100000 in
set_option maxHeartbeats 4000000 in
theorem parse_few (ws : List (List UInt8)) (n : Nat) (hn : ws.length = n) (h3 : n ≤ 3) (v : Value) (w : World) (mx : Int) (hr : Reads w v n (strs ws)) (hs : ∀ s ∈ ws, s.length ≤ 2000) (hm : w.cell? ⟨0, 0, none⟩ = some (.int .i64 mx)) (hw0 : 0 < w.heap.size) :
 Rets Tryz.prog 111 #[v] w (parseV (parseR ws)) := by
 haveI : InW 0 w := ⟨hw0⟩
 by_cases hz : n = 0
 · subst hz
   obtain rfl : ws = [] := List.eq_nil_of_length_eq_zero hn
   have E : Hid (parseV (parseR []) = .tuple #[.agg #[.int .i64 1, .int .i64 0, .int .i64 0, .int .i64 1, .int .i64 0, .int .i64 0], .int .i64 0, .int .i64 0]) := rfl
   obtain ⟨a, c, rfl⟩ : ∃ a c, v = .slice a 0 c := by
    rcases hr with ⟨a, c, rfl, _⟩ | ⟨b, o, c, rfl, _⟩ <;> exact ⟨_, _, rfl⟩
   clear hr hn hs hm
   unfold Rets
   go_enter Tryz.func111, Tryz.ntmps111
   go_wp2
   refine wp_loop_rounds 1 ?_
   simp only [rounds_succ]
   go_wp2
   exact bodyPost_ret (v := .tuple #[.agg #[.int .i64 1, .int .i64 0, .int .i64 0, .int .i64 1, .int .i64 0, .int .i64 0], .int .i64 0, .int .i64 0]) (by simp [results, Tryz.results111, go_sem]) rfl ⟨by rw [E.out], done⟩
 rcases hr with ⟨a9, c9, rfl, h0, _⟩ | ⟨b, o, c, rfl, k1, k2, hbw, hc⟩
 · exact absurd h0 hz
 haveI : InW b w := ⟨hbw⟩
 have HC := Lib.hid hc
 have HN := Lib.hid hn
 have HS := Lib.hid hs
 have S0 : Hid (parseR ws = contR 0 spot0 (ws.drop 0)) := by show _ = _; unfold parseR; rw [if_neg (by omega)]; rfl
 clear hc hn hs
 unfold Rets
 go_enter Tryz.func111, Tryz.ntmps111
 go_wp2
 go_loopw [17] (fun iv wr => ∃ (j : Nat) (x : Spot), j ≤ n ∧ iv = .int .i64 j ∧ PInv w ws j x wr) (fun iv _ => n - (intOf iv).toNat)
 case atStart => exact ⟨0, spot0, by omega, rfl, S0, fun _ => ⟨rfl, rfl⟩, Ext.refl _⟩
 case round =>
  obtain ⟨j, x, j1, rfl, hP, hk, hx⟩ := hrel
  obtain ⟨yr, rfl⟩ := fin hx
  clear hx
  obtain ⟨xm, xk, xwd, xd, xt, xr⟩ := x
  unfold Spot.cells at yr
  simp only at yr
  by_cases c0 : j < n
  · have hj : j < ws.length := by rw [HN.out]; exact c0
    have f1 := strs_at HC.out j hj
    have hl := HS.out _ (List.getElem_mem hj)
    have P := Lib.hid (hP.out.trans (by rw [List.drop_eq_getElem_cons hj]))
    generalize ws[j] = s at *
    have hw2 : w.heap.size + 1 = (w.alloc (.cells #[.int .i64 0, .int .i64 0, .int .i64 0, .int .i64 0, .int .i64 0, .int .i64 0] 54)).heap.size := by simp
    have HW2 := Lib.hid hw2
    clear hw2 hj
    rcases (by omega : j = 0 ∨ j = 1 ∨ j = 2) with rfl | rfl | rfl
    · replace f1 : w.cell? ⟨b, o, none⟩ = some (.string ⟨s.toArray⟩) := f1
      have HM := fun w => Lib.hid (month_any s w (by unfold maxLen; omega))
      unfold foundN at HM
      have NO : Hid (Mom.monthI s = 0 → parseR ws = .inl (0, 6)) := fun h => by rw [P.out]; simp only [contR]; rw [if_pos h]
      have YES : Hid (Mom.monthI s ≠ 0 → parseR ws = contR 1 ⟨(Mom.monthI s : Nat), xk, xwd, xd, xt, xr⟩ (ws.drop 1)) := fun h => by rw [P.out]; simp only [contR]; rw [if_neg h]
      generalize Mom.monthI s = q at *
      clear P
      by_cases c1 : q = 0
      · have E : Hid (parseV (parseR ws) = .tuple #[.agg #[.int .i64 0, .int .i64 0, .int .i64 0, .int .i64 0, .int .i64 0, .int .i64 0], .int .i64 0, .int .i64 6]) := by show _ = _; rw [NO.out c1]; rfl
        subst c1
        go_wp2_with (first | (go_at_call 124; refine Rets.use1 (HM _).out ?_; intro z))
        exact bodyPost_ret (v := .tuple #[.agg #[.int .i64 0, .int .i64 0, .int .i64 0, .int .i64 0, .int .i64 0, .int .i64 0], .int .i64 0, .int .i64 6]) (by simp [results, Tryz.results111, go_sem]) rfl ⟨by rw [E.out], done⟩
      · have E := Lib.hid (YES.out c1)
        have c2 : decide (q ≠ 0) = true := decide_eq_true c1
        have c3 : decide (q = 0) = false := decide_eq_false c1
        have hk0 := Lib.hid (hk (by omega))
        clear c1 hk
        go_wp2_with (first | (go_at_call 124; refine Rets.use1 (HM _).out ?_; intro z))
        go_roundw
        case rel => exact ⟨1, ⟨q, xk, xwd, xd, xt, xr⟩, by omega, by first | rfl | go_num, E, fun _ => hk0.out, ext_put z _ 0 _ HW2.out⟩
        case measure => simp [intOf]; omega
    · obtain ⟨hk1, hk2⟩ := hk (by omega)
      simp only at hk1 hk2
      subst hk1; subst hk2
      have NO : Hid (Mom.dayR s = none → parseR ws = .inl (1, 6)) := fun h => by rw [P.out]; simp only [contR, h]
      have YES : Hid (∀ v1 v2 v3, Mom.dayR s = some (v1, v2, v3) → parseR ws = contR 2 ⟨xm, v1, v2, v3, xt, xr⟩ (ws.drop 2)) := fun v1 v2 v3 h => by rw [P.out]; simp only [contR, h]
      clear P hk
      have B0 : Blk yr.x (w.heap.size + 1) #[.int .i64 xm, .int .i64 0, .int .i64 0, .int .i64 xd, .int .i64 xt, .int .i64 xr] 54 := by rw [HW2.out]; exact (blk_new _ _ _).past yr
      have B1 : Blk (yr.x.setCell ⟨w.heap.size + 1, 3, none⟩ (.int .i64 0)) (w.heap.size + 1) #[.int .i64 xm, .int .i64 0, .int .i64 0, .int .i64 0, .int .i64 xt, .int .i64 xr] 54 := by
       rw [B0.set]; exact setB_blk B0
      have M1 : (yr.x.setCell ⟨w.heap.size + 1, 3, none⟩ (.int .i64 0)).cell? ⟨0, 0, none⟩ = some (.int .i64 mx) := by
       rw [World.cell?_setCell_other (w := yr.x) (a := ⟨w.heap.size + 1, 3, none⟩) (b := ⟨0, 0, none⟩) _ (by intro e; injection e with e1 _; omega), Past.cell?]
       rw [cell_alloc_in, cell_alloc_in]; exact hm
      have HWn := Lib.hid (when_any s _ (w.heap.size + 1) xm xt xr mx (by omega) B1 M1)
      have BK := Lib.hid (fun v1 v2 v3 w' hx => when_back (C' := #[.int .i64 xm, .int .i64 v1, .int .i64 v2, .int .i64 v3, .int .i64 xt, .int .i64 xr]) yr (w.heap.size + 1) 3 (.int .i64 0) HW2.out (w' := w') hx)
      clear B0 B1 M1
      obtain ⟨o1, ho⟩ : ∃ o1, Mom.dayR s = o1 := ⟨_, rfl⟩
      rw [ho] at HWn
      cases o1 with
      | none =>
        have E : Hid (parseV (parseR ws) = .tuple #[.agg #[.int .i64 0, .int .i64 0, .int .i64 0, .int .i64 0, .int .i64 0, .int .i64 0], .int .i64 1, .int .i64 6]) := by show _ = _; rw [NO.out ho]; rfl
        clear NO YES ho
        go_wp2_with fail
        refine HWn.out.mono ?_
        rintro _ w9 ⟨v1, v2, v3, rfl, hv, hx⟩
        obtain ⟨z, rfl⟩ := fin (BK.out v1 v2 v3 w9 hx)
        clear hx hv
        go_wp2
        exact bodyPost_ret (v := .tuple #[.agg #[.int .i64 0, .int .i64 0, .int .i64 0, .int .i64 0, .int .i64 0, .int .i64 0], .int .i64 1, .int .i64 6]) (by simp [results, Tryz.results111, go_sem]) rfl ⟨by rw [E.out], done⟩
      | some x1 =>
        obtain ⟨a1, a2, a3⟩ := x1
        have E := Lib.hid (YES.out _ _ _ ho)
        clear NO YES ho
        go_wp2_with fail
        refine HWn.out.mono ?_
        rintro _ w9 ⟨v1, v2, v3, rfl, hv, hx⟩
        obtain ⟨z, rfl⟩ := fin (BK.out v1 v2 v3 w9 hx)
        have hv2 := hv _ rfl
        simp only [Prod.mk.injEq] at hv2
        obtain ⟨rfl, rfl, rfl⟩ := hv2
        clear hx hv
        go_wp2
        go_roundw
        case rel => exact ⟨2, ⟨xm, a1, a2, a3, xt, xr⟩, by omega, by first | rfl | go_num, E, fun h => by omega, z.hb⟩
        case measure => simp [intOf]; omega
    · have NO : Hid (Mom.clockR s = none → parseR ws = .inl (2, 6)) := fun h => by rw [P.out]; simp only [contR, h]
      have YES : Hid (∀ v1 v2, Mom.clockR s = some (v1, v2) → parseR ws = contR 3 ⟨xm, xk, xwd, xd, v1, v2⟩ (ws.drop 3)) := fun v1 v2 h => by rw [P.out]; simp only [contR, h]
      have HK := fun w => Lib.hid (clock_any s w (by unfold maxLen; omega))
      rw [Mom.clock_eq] at HK
      clear P hk
      obtain ⟨o1, ho⟩ : ∃ o1, Mom.clockR s = o1 := ⟨_, rfl⟩
      rw [ho] at HK
      cases o1 with
      | none =>
        have E : Hid (parseV (parseR ws) = .tuple #[.agg #[.int .i64 0, .int .i64 0, .int .i64 0, .int .i64 0, .int .i64 0, .int .i64 0], .int .i64 2, .int .i64 6]) := by show _ = _; rw [NO.out ho]; rfl
        clear NO YES ho
        unfold clockV at HK
        go_wp2_with (first | (go_at_call 126; refine Rets.use1 (HK _).out ?_; intro z))
        exact bodyPost_ret (v := .tuple #[.agg #[.int .i64 0, .int .i64 0, .int .i64 0, .int .i64 0, .int .i64 0, .int .i64 0], .int .i64 2, .int .i64 6]) (by simp [results, Tryz.results111, go_sem]) rfl ⟨by rw [E.out], done⟩
      | some x1 =>
        obtain ⟨a1, a2⟩ := x1
        have E := Lib.hid (YES.out _ _ ho)
        clear NO YES ho
        unfold clockV at HK
        go_wp2_with (first | (go_at_call 126; refine Rets.use1 (HK _).out ?_; intro z))
        go_roundw
        case rel => exact ⟨3, ⟨xm, xk, xwd, xd, a1, a2⟩, by omega, by first | rfl | go_num, E, fun h => by omega, ext_put2 z _ 4 5 _ _ HW2.out⟩
        case measure => simp [intOf]; omega
  · have E : Hid (parseV (parseR ws) = .tuple #[.agg #[.int .i64 xm, .int .i64 xk, .int .i64 xwd, .int .i64 xd, .int .i64 xt, .int .i64 xr], .int .i64 0, .int .i64 0]) := by
     show _ = _
     rw [hP.out, List.drop_eq_nil_of_le (by rw [HN.out]; omega)]
     cases j <;> rfl
    go_wp2
    exact bodyPost_ret (v := .tuple #[.agg #[.int .i64 xm, .int .i64 xk, .int .i64 xwd, .int .i64 xd, .int .i64 xt, .int .i64 xr], .int .i64 0, .int .i64 0]) (by simp [results, Tryz.results111, go_sem]) rfl ⟨by rw [E.out], done⟩
theorem parse_any (ws : List (List UInt8)) (n : Nat) (hn : ws.length = n) (v : Value) (w : World) (mx : Int) (hr : Reads w v n (strs ws)) (hs : n ≤ 3 → ∀ s ∈ ws, s.length ≤ 2000) (hm : w.cell? ⟨0, 0, none⟩ = some (.int .i64 mx)) (hw0 : 0 < w.heap.size) :
 Rets Tryz.prog 111 #[v] w (parseV (parseR ws)) := by
 by_cases h3 : n ≤ 3
 · exact parse_few ws n hn h3 v w mx hr (hs h3) hm hw0
 · exact parse_many ws n hn (by omega) v w hr
end Go.Proofs.YtdhbgelijjlifaaGreatDoor
