/- Walks of rules: the latest turn of all rules' that is so. -/
import Derived.Test.YtcjnficcggjeiaaDoorRulWalkK
import Derived.Test.YtcjnficcggjeiaaDoorRulWalkF
import Derived.Test.YtcjnficcggjeiaaDoorOwns
set_option linter.unusedVariables false
set_option linter.unusedSimpArgs false
namespace Go.Proofs.YtcjnficcggjeiaaDoor
open Go.RowKit Go.Shelf

attribute [local go_sem] Oper.semAt_some
/-- Marks on a frame: each names a block of deferred calls that is empty; no two the same. -/
def Marks (W : World) (lo hi : Nat) : List Deferred → Prop
  | [] => True
  | d :: ds => (∃ D, d = { target := .collected D, args := #[] } ∧ W.heap[D]? = some (.deferred (some [])) ∧ lo ≤ D ∧ D < hi ∧ (∀ d' ∈ ds, d' ≠ { target := .collected D, args := #[] })) ∧ Marks W lo hi ds
/-- What the search holds in memory. -/
structure Found (w W : World) (n0 hi : Nat) (gv : Value) (q : Option Turn) (ds : List Deferred) : Prop where
  b0 : Laid W n0 [gv] 123
  b1 : Laid W (n0 + 1) (turnCells Rul.noTurn) 96
  b2 : Laid W (n0 + 1 + 1) (turnCells (Rul.orNo q)) 96
  b3 : Laid W (n0 + 1 + 1 + 1) [.bool q.isSome] 4
  ms : Marks W (n0 + 4) hi ds
  ex : Ext w W
theorem laid_thaw {W : World} {B : Nat} {cs : List Value} {t : TypeId} (h : Laid W B cs t) (i : Nat) : W.frozen? ⟨B, i, none⟩ = false := by
  simp [World.frozen?, show W.heap[B]? = _ from h]
theorem Laid.set {W : World} {B : Nat} {cs : List Value} {t : TypeId} (h : Laid W B cs t) (i : Nat) (v : Value) : Laid (W.setCell ⟨B, i, none⟩ v) B (cs.set i v) t := by
  have hh := h
  unfold Laid at hh ⊢
  simp [World.setCell, Array.getElem?_modify, hh]
theorem Laid.other {W : World} {B B' : Nat} {cs : List Value} {t : TypeId} (h : Laid W B cs t) (hne : B' ≠ B) (i : Nat) (v : Value) : Laid (W.setCell ⟨B', i, none⟩ v) B cs t :=
  (Below.heap_setCell _ _ _ _ (fun e => hne e.symm)).trans h
theorem Marks.other {W : World} {lo hi B' : Nat} (hlt : B' < lo) (i : Nat) (v : Value) : ∀ (ds : List Deferred), Marks W lo hi ds → Marks (W.setCell ⟨B', i, none⟩ v) lo hi ds
  | [], _ => trivial
  | d :: ds, ⟨⟨D, h1, h2, h3, h4, h5⟩, h⟩ => ⟨⟨D, h1, (Below.heap_setCell _ _ _ _ (by show D ≠ B'; omega)).trans h2, h3, h4, h5⟩, Marks.other hlt i v ds h⟩
theorem Found.store {w A : World} {n0 hi : Nat} {gv : Value} {q : Option Turn} {ds : List Deferred} (h : Found w A n0 hi gv q ds) (hn : n0 = w.heap.size) (u : Turn) :
    Found w (((((A.setCell ⟨n0 + 1 + 1, 0, none⟩ (.int .i64 u.at')).setCell ⟨n0 + 1 + 1, 1, none⟩ (.int .i64 u.r)).setCell ⟨n0 + 1 + 1, 2, none⟩ (.int .i64 u.s)).setCell ⟨n0 + 1 + 1, 3, none⟩ (.string u.l)).setCell ⟨n0 + 1 + 1 + 1, 0, none⟩ (.bool true)) n0 hi gv (some u) ds := by
  refine ⟨?_, ?_, ?_, ?_, ?_, ?_⟩
  · exact ((((h.b0.other (by omega) 0 _).other (by omega) 1 _).other (by omega) 2 _).other (by omega) 3 _).other (by omega) 0 _
  · exact ((((h.b1.other (by omega) 0 _).other (by omega) 1 _).other (by omega) 2 _).other (by omega) 3 _).other (by omega) 0 _
  · exact ((((h.b2.set 0 (.int .i64 u.at')).set 1 (.int .i64 u.r)).set 2 (.int .i64 u.s)).set 3 (.string u.l)).other (by omega) 0 _
  · exact ((((h.b3.other (by omega) 0 _).other (by omega) 1 _).other (by omega) 2 _).other (by omega) 3 _).set 0 (.bool true)
  · exact Marks.other (by omega) 0 _ ds (Marks.other (by omega) 3 _ ds (Marks.other (by omega) 2 _ ds (Marks.other (by omega) 1 _ ds (Marks.other (by omega) 0 _ ds h.ms))))
  · exact ((((h.ex.setCell (by show w.heap.size ≤ n0 + 1 + 1; omega) _).setCell (by show w.heap.size ≤ n0 + 1 + 1; omega) _).setCell (by show w.heap.size ≤ n0 + 1 + 1; omega) _).setCell (by show w.heap.size ≤ n0 + 1 + 1; omega) _).setCell (by show w.heap.size ≤ n0 + 1 + 1 + 1; omega) _
theorem keeps_ext {B : Nat} {A C : World} (hx : Ext A C) : KeepsFrom B A C := KeepsFrom.of_grownBy (grown_of_ext hx) (fun j e => by cases e)
theorem laid_mid (W : World) (a1 a2 a3 : List Value) (t1 t2 t3 : TypeId) : Laid (((W.alloc (.cells a1.toArray t1)).alloc (.cells a2.toArray t2)).alloc (.cells a3.toArray t3)) (W.heap.size + 1) a2 t2 := by
  have h := World.alloc_heap_new (W.alloc (.cells a1.toArray t1)) (.cells a2.toArray t2)
  rw [World.size_alloc] at h
  exact (Below.heap_alloc _ _ _ (by simp)).trans h
theorem laid_last (W : World) (a1 a2 a3 : List Value) (t1 t2 t3 : TypeId) : Laid (((W.alloc (.cells a1.toArray t1)).alloc (.cells a2.toArray t2)).alloc (.cells a3.toArray t3)) (W.heap.size + 1 + 1) a3 t3 := by
  have h := World.alloc_heap_new ((W.alloc (.cells a1.toArray t1)).alloc (.cells a2.toArray t2)) (.cells a3.toArray t3)
  rw [World.size_alloc, World.size_alloc] at h
  exact h
theorem Marks.kept {A B : World} {lo hi : Nat} {row : Option Nat} (hg : A.grownBy B row) (hr : ∀ r, row = some r → hi ≤ r) : ∀ (ds : List Deferred), Marks A lo hi ds → Marks B lo hi ds
  | [], _ => trivial
  | d :: ds, ⟨⟨D, h1, h2, h3, h4, h5⟩, h⟩ => ⟨⟨D, h1, (hg.block D (Array.getElem?_eq_some_iff.1 h2).1 (fun e => by have := hr D e.symm; omega)).trans h2, h3, h4, h5⟩, Marks.kept hg hr ds h⟩
theorem Marks.mono {A : World} {lo hi hi' : Nat} (hle : hi ≤ hi') : ∀ (ds : List Deferred), Marks A lo hi ds → Marks A lo hi' ds
  | [], _ => trivial
  | d :: ds, ⟨⟨D, h1, h2, h3, h4, h5⟩, h⟩ => ⟨⟨D, h1, h2, h3, Nat.lt_of_lt_of_le h4 hle, h5⟩, Marks.mono hle ds h⟩
theorem Laid.grown {A B : World} {Bk : Nat} {cs : List Value} {t : TypeId} {row : Option Nat} (h : Laid A Bk cs t) (hg : A.grownBy B row) (hr : ∀ r, row = some r → ∃ o : Obj, A.heap[r]? = some o ∧ o.isCells = false) : Laid B Bk cs t :=
  (hg.block Bk h.lt (fun e => by obtain ⟨o, ho, hc⟩ := hr Bk e.symm; rw [show A.heap[Bk]? = _ from h] at ho; cases ho; cases hc)).trans h
theorem Found.grown {w A B : World} {n0 hi : Nat} {gv : Value} {q : Option Turn} {ds : List Deferred} {row : Option Nat} (h : Found w A n0 hi gv q ds) (hn : w.heap.size ≤ hi) (hg : A.grownBy B row) (hr : ∀ r, row = some r → hi ≤ r ∧ ∃ o : Obj, A.heap[r]? = some o ∧ o.isCells = false) : Found w B n0 hi gv q ds := by
  have hc : ∀ r, row = some r → ∃ o : Obj, A.heap[r]? = some o ∧ o.isCells = false := fun r e => (hr r e).2
  exact ⟨h.b0.grown hg hc, h.b1.grown hg hc, h.b2.grown hg hc, h.b3.grown hg hc, Marks.kept hg (fun r e => (hr r e).1) ds h.ms, Below.grown h.ex hg (Below.size h.ex) (fun r e => Nat.le_trans hn (hr r e).1)⟩
theorem Found.alloc {w A : World} {n0 hi : Nat} {gv : Value} {q : Option Turn} {ds : List Deferred} (h : Found w A n0 hi gv q ds) (hn : w.heap.size ≤ hi) (ob : Obj) : Found w (A.alloc ob) n0 hi gv q ds :=
  h.grown hn (grown_of_ext ((Ext.refl A).alloc ob)) (fun r e => by cases e)
theorem Found.ext {w A B : World} {n0 hi : Nat} {gv : Value} {q : Option Turn} {ds : List Deferred} (h : Found w A n0 hi gv q ds) (hn : w.heap.size ≤ hi) (hx : Ext A B) : Found w B n0 hi gv q ds :=
  h.grown hn (grown_of_ext hx) (fun r e => by cases e)
theorem Found.mono {w A : World} {n0 hi hi' : Nat} {gv : Value} {q : Option Turn} {ds : List Deferred} (h : Found w A n0 hi gv q ds) (hle : hi ≤ hi') : Found w A n0 hi' gv q ds := ⟨h.b0, h.b1, h.b2, h.b3, Marks.mono hle ds h.ms, h.ex⟩
theorem laid_new (W : World) (cs : List Value) (t : TypeId) : Laid (W.alloc (.cells cs.toArray t)) W.heap.size cs t := World.alloc_heap_new W _
theorem Laid.alloc {W : World} {B : Nat} {cs : List Value} {t : TypeId} (h : Laid W B cs t) (ob : Obj) : Laid (W.alloc ob) B cs t := h.ext ((Ext.refl W).alloc ob)
theorem Marks.below {W : World} {lo hi : Nat} : ∀ (ds : List Deferred), Marks W lo hi ds → ∀ D, hi ≤ D → ∀ d' ∈ ds, d' ≠ { target := .collected D, args := #[] }
  | [], _, _, _, d', h => by cases h
  | d :: ds, ⟨⟨D', h1, _, _, h4, _⟩, h⟩, D, hD, d', hm => by
    rcases List.mem_cons.1 hm with rfl | hm
    · rw [h1]; intro e; injection e with e1 _; injection e1 with e2; omega
    · exact Marks.below ds h D hD d' hm
theorem Found.more {w V : World} {n0 hi D : Nat} {gv : Value} {q : Option Turn} {ds : List Deferred} (h : Found w V n0 hi gv q ds) (hlo : n0 + 4 ≤ D) (hD : hi ≤ D) (hK : V.heap[D]? = some (.deferred (some []))) : Found w V n0 V.heap.size gv q ({ target := .collected D, args := #[] } :: ds) := by
  have hlt := (Array.getElem?_eq_some_iff.1 hK).1
  exact ⟨h.b0, h.b1, h.b2, h.b3, ⟨⟨D, rfl, hK, hlo, hlt, Marks.below ds h.ms D hD⟩, Marks.mono (by omega) ds h.ms⟩, h.ex⟩
theorem Marks.put {W : World} {lo hi D : Nat} (ob : Obj) : ∀ (ds : List Deferred), (∀ d' ∈ ds, d' ≠ { target := .collected D, args := #[] }) → Marks W lo hi ds → Marks (W.putObj D ob) lo hi ds
  | [], _, _ => trivial
  | d :: ds, hne, ⟨⟨D', h1, h2, h3, h4, h5⟩, h⟩ => ⟨⟨D', h1, (World.putObj_heap_other (fun e => hne d (by simp) (by rw [h1, e]))).trans h2, h3, h4, h5⟩, Marks.put ob ds (fun d' hd => hne d' (by simp [hd])) h⟩
/-- A function leaves by its marks. -/
theorem leaves_marks {F : Fence} {n : Nat} {P : Program} {fn : Func} {tmps : Array Value} {R : Ending → World → Prop} {lo hi : Nat} (Gd : World → Prop) (hGd : ∀ W D, Gd W → W.heap[D]? = some (.deferred (some [])) → lo ≤ D → Gd (W.putObj D (.deferred none)))
    (hend : ∀ W, Gd W → LeavesIn F n P fn tmps R [] .returning W) : ∀ (ds : List Deferred) (W : World), Marks W lo hi ds → Gd W → LeavesInM F n P fn tmps R ds .returning W
  | [], W, _, hg => hend W hg
  | d :: ds, W, ⟨⟨D, h1, h2, h3, h4, h5⟩, h⟩, hg => by
    refine ⟨by simp, .inl ⟨D, _, by rw [h1], run_takeDeferred h2, ?_⟩⟩
    exact leaves_marks Gd hGd hend ds _ (Marks.put _ ds h5 h) (hGd W D hg h2 h3)
/-- A turn out of bounds is taken for none. -/
def clip (Bd : Turn → Prop) [DecidablePred Bd] (u : Turn) : Turn := if Bd u then u else Rul.noTurn
theorem clip_eq {Bd : Turn → Prop} [DecidablePred Bd] {u : Turn} (h : Bd u) : clip Bd u = u := if_pos h
theorem clip_bd {Bd : Turn → Prop} [DecidablePred Bd] (h0 : Bd Rul.noTurn) (u : Turn) : Bd (clip Bd u) := by unfold clip; split <;> assumption
theorem find_none {p : Turn → Bool} {ys : List Turn} (h : ∀ u ∈ ys, p u = false) : ys.find? p = none := by
  rw [List.find?_eq_none]; intro u hu; simp [h u hu]
theorem find_some {p : Turn → Bool} {init rest : List Turn} {u : Turn} (h : ∀ u' ∈ init, p u' = false) (hu : p u = true) : (init ++ [u] ++ rest).find? p = some u := by
  rw [List.append_assoc, List.find?_append, find_none h]; simp [hu]
set_option maxRecDepth 100000 in
set_option maxHeartbeats 8000000 in
theorem latest_in (n : Nat) (hn : 3 ≤ n) (l : List Rule) (k : Nat) (hk : l.length = k) (Y : Int) (g : Nat) (lb : Array Value) (p : Turn → Bool) (Bd : Turn → Prop) [DecidablePred Bd] (hB0 : Bd Rul.noTurn) (hBl : ∀ x ∈ l, ∀ y, Rul.turnB x y = true → Bd (Rul.turnOf x y)) (hA : Rul.allB l = true) (yb1 : -1000000 ≤ Y) (yb2 : Y ≤ 1000000) (eg : ∀ args w, (callFunc g args).run Tryd.prog w = .ok (.enter g args) w) (v : Value) (w : World) (hso : ∀ (u : Turn) (V : World), Bd u → Ext w V → Rets Tryd.prog g (#[turnV u] ++ lb) V (.bool (p u))) (hr : Reads w v k (ruleRow l)) (h0 : k ≠ 0) :
    CallsIn Fence.wide n Tryd.prog 86 #[v, .int .i64 Y, .func (.func g) #[] lb] w fun e w' => e = .returned (.tuple #[turnV (Rul.orNo (Rul.latestG (fun x => (Rul.backs x Y).find? p) l)), .bool (Rul.latestG (fun x => (Rul.backs x Y).find? p) l).isSome]) ∧ ∃ y : Past w, w' = y.x := by
  rcases hr with ⟨_, _, rfl, h1, _⟩ | ⟨b, o, c, rfl, k1, k2, m1, hc⟩
  · exact absurd h1 h0
  haveI : InW b w := ⟨m1⟩
  have hl : k ≤ 9223372036854775807 := by unfold maxLen at k2; omega
  have hn1 : 1 ≤ n := by omega
  have HC := Lib.hid hc
  have Hn := Lib.hid hk
  have HA := Lib.hid hA
  have HSO := fun u V hb hx => Lib.hid (hso u V hb hx)
  have HBL := Lib.hid hBl
  clear hc hk hA hso hBl
  refine callsIn_of_wp_marks Tryd.func86 rfl trivial ?_ rfl
  simp only [Tryd.ntmps86, List.size_toArray, List.length_cons, List.length_nil, Nat.reduceAdd, Nat.reduceSub, Array.replicate_succ, Array.replicate_zero, List.push_toArray, List.append_toArray, List.nil_append, List.cons_append]
  gi_wp2
  refine wpIn_loop (fun a' W => ∃ (j : Nat) (q : Option Turn) (ds : List Deferred) (u10 u11 u12 u16 u17 u18 u19 u20 u21 u22 u23 u24 u25 u26 u27 u28 u29 u30 u31 u32 u33 u34 u35 u36 u37 u38 u39 : Value), a' = { tmps := #[.slice (some ⟨b, o, none⟩) k c, .int .i64 Y, .func (.func g) #[] lb, undef, undef, .pointer (some ⟨w.heap.size, 0, none⟩), .pointer (some ⟨w.heap.size + 1, 0, none⟩), .bool false, .pointer (some ⟨w.heap.size + 1 + 1, 0, none⟩), .pointer (some ⟨w.heap.size + 1 + 1 + 1, 0, none⟩), u10, u11, u12, .slice (some ⟨b, o, none⟩) k c, .int .i64 k, .int .i64 j, u16, u17, u18, u19, u20, u21, u22, u23, u24, u25, u26, u27, u28, u29, u30, u31, u32, u33, u34, u35, u36, u37, u38, u39], defers := ds } ∧ j ≤ k ∧ Hid (Rul.latestG (fun x => (Rul.backs x Y).find? p) (l.take j) = q) ∧ Found w W w.heap.size W.heap.size (.func (.func g) #[] lb) q ds)
    (fun a' _ => k - (intOf (a'.tmps.getD 15 undef)).toNat) ?start ?round
  case start =>
    refine ⟨0, none, [], undef, undef, undef, undef, undef, undef, undef, undef, undef, undef, undef, undef, undef, undef, undef, undef, undef, undef, undef, undef, undef, undef, undef, undef, undef, undef, undef, rfl, by omega, rfl, ?_⟩
    have k0 := laid_new w [.func (.func g) #[] lb] 123
    have k1 := laid_new (w.alloc (.cells #[.func (.func g) #[] lb] 123)) (turnCells Rul.noTurn) 96
    have k2 := laid_new ((w.alloc (.cells #[.func (.func g) #[] lb] 123)).alloc (.cells (turnCells Rul.noTurn).toArray 96)) (turnCells Rul.noTurn) 96
    have k3 := laid_new (((w.alloc (.cells #[.func (.func g) #[] lb] 123)).alloc (.cells (turnCells Rul.noTurn).toArray 96)).alloc (.cells (turnCells Rul.noTurn).toArray 96)) [.bool false] 4
    simp only [World.size_alloc] at k1 k2 k3
    exact ⟨((k0.alloc _).alloc _).alloc _, (k1.alloc _).alloc _, k2.alloc _, k3, trivial, isext⟩
  case round =>
    rintro _ W ⟨j, q, ds, u10, u11, u12, u16, u17, u18, u19, u20, u21, u22, u23, u24, u25, u26, u27, u28, u29, u30, u31, u32, u33, u34, u35, u36, u37, u38, u39, rfl, hj1, he, hF⟩
    have hx := hF.ex
    haveI : ExtC w W := ⟨hx⟩
    haveI : InW b W := ⟨Nat.lt_of_lt_of_le m1 (Below.size hx)⟩
    by_cases hlt : j < k
    · have hj : j < l.length := by rw [Hn.out]; exact hlt
      obtain ⟨c0, c1, c2, c3, c4, c5, c6, c7, c8, c9, c10⟩ := rule_at (w := W) (fun i u hu => (Below.cell (p := ⟨b, o + i, none⟩) hx m1).trans (HC.out i u hu)) j hj
      obtain ⟨r1, r2, r3, r4⟩ := all_right HA.out hj
      have hBx := HBL.out l[j] (List.getElem_mem hj)
      have hBm : ∀ u ∈ Rul.backs l[j] Y, Bd u := fun u hu => by obtain ⟨y', e1, e2⟩ := Rul.back_mem _ _ u hu; rw [e2]; exact hBx y' e1
      have HN := fun h => Lib.hid (Rul.latest_none (f := fun x => (Rul.backs x Y).find? p) hj h)
      have HS := fun t h => Lib.hid (Rul.latest_some (f := fun x => (Rul.backs x Y).find? p) (t := t) hj h)
      generalize l[j] = x at *
      have HB := fun W => back_in (n - 1) x Y W
      obtain ⟨nm, a, b', m, kk, wd, d, t, r, s, lt⟩ := x
      simp only at c0 c1 c2 c3 c4 c5 c6 c7 c8 c9 c10 r1 r2 r3 r4
      gi_wp2_with (refine And.intro trivial ?_; gi_at_call 99; refine (HB _).mono ?_; rintro e w' ⟨rfl, rfl⟩)
      obtain ⟨W3, hW3⟩ : ∃ W3, W3 = ((W.alloc (.cells #[.string nm, .int .i64 a, .int .i64 b', .int .i64 m, .int .i64 kk, .int .i64 wd, .int .i64 d, .int .i64 t, .int .i64 r, .int .i64 s, .string lt] 43)).alloc (.cells (ruleCells ⟨nm, a, b', m, kk, wd, d, t, r, s, lt⟩).toArray 43)).alloc (.cells #[.int .i64 Y] 3) := ⟨_, rfl⟩
      rw [← hW3]
      have hz3 : W3.heap.size = W.heap.size + 3 := by rw [hW3]; simp
      have hX3 : Laid W3 (W.heap.size + 1) (ruleCells ⟨nm, a, b', m, kk, wd, d, t, r, s, lt⟩) 43 := by rw [hW3]; exact laid_mid W _ _ _ _ _ _
      have hY3 : Laid W3 (W.heap.size + 1 + 1) [.int .i64 Y] 3 := by rw [hW3]; exact laid_last W _ _ _ _ _ _
      have hE3 : Ext W W3 := by rw [hW3]; exact isext
      have hwz := Below.size hx
      have hb3 := hF.b3.lt
      have hF3 : Found w W3 w.heap.size W3.heap.size (.func (.func g) #[] lb) q ds := (hF.ext hwz hE3).mono (by omega)
      clear hF
      refine wpIn_rangeFunc_ownH rfl hn1 (gf := 106) (lb := #[.pointer (some ⟨W.heap.size + 1, 0, none⟩), .pointer (some ⟨W.heap.size + 1 + 1, 0, none⟩)]) rfl trivial (enters_of Tryd.func106 (by kernel_rfl) rfl)
        (encs := fun x : Turn => #[turnV (clip Bd x)]) (Kp := keep2 (W.heap.size + 1) (W.heap.size + 1 + 1)) (S := fun ys => ys = Rul.backs ⟨nm, a, b', m, kk, wd, d, t, r, s, lt⟩ Y) (Sp := fun pre => ∃ rest, Rul.backs ⟨nm, a, b', m, kk, wd, d, t, r, s, lt⟩ Y = pre ++ rest) (N := 4) (w0 := W3)
        (fun l J Jx V hV hJ hJx hYy hj0 => back1_in (n - 1) (by omega) l _ _ ⟨nm, a, b', m, kk, wd, d, t, r, s, lt⟩ Y r1 (by show -1000000 ≤ b'; omega) r4 yb1 yb2 Bd hBx J Jx (fun pre A B h hx => hJ pre A B none h (grown_of_ext hx) (by simp)) (fun pre t V hb hj1 hl1 => by have h9 := hYy pre t V hj1 hl1; simpa only [clip_eq hb] using h9) V (hX3.ext hV) (hY3.ext hV) hj0)
        (fun h k => ⟨k.1.trans h.1, k.2.trans h.2⟩) (fun V l ob ob' hl ho hc _ => ⟨World.putObj_heap_other (by omega), World.putObj_heap_other (by omega)⟩) (Below.refl _ _) (fun _ => rfl)
        (fun pre V => (∀ u ∈ pre, p (clip Bd u) = false) ∧ Found w V w.heap.size W3.heap.size (.func (.func g) #[] lb) q ds ∧ W3.heap.size ≤ V.heap.size)
        (fun cd pre V => cd = .exit 2 ∧ ∃ init u, pre = init ++ [u] ∧ (∀ u' ∈ init, p (clip Bd u') = false) ∧ p (clip Bd u) = true ∧ Found w V w.heap.size W3.heap.size (.func (.func g) #[] lb) (Rul.upd q (clip Bd u)) ds)
        (fun pre A B row hs hg hr => ⟨hs.1, hs.2.1.grown (by omega) hg hr, Nat.le_trans hs.2.2 hg.size⟩)
        (fun cd pre A B row hs hg hr => by
          obtain ⟨e, init, u, e1, e2, e3, hf⟩ := hs
          exact ⟨e, init, u, e1, e2, e3, hf.grown (by omega) hg hr⟩)
        ⟨by simp, hF3, Nat.le_refl _⟩
        (fun u a' V => ∃ B, W3.heap.size ≤ B ∧ Laid V B (turnCells (clip Bd u)) 96 ∧ a' = { tmps := #[.slice (some ⟨b, o, none⟩) k c, .int .i64 Y, .func (.func g) #[] lb, undef, undef, .pointer (some ⟨w.heap.size, 0, none⟩), .pointer (some ⟨w.heap.size + 1, 0, none⟩), .bool false, .pointer (some ⟨w.heap.size + 1 + 1, 0, none⟩), .pointer (some ⟨w.heap.size + 1 + 1 + 1, 0, none⟩), u10, .pointer (some ⟨W.heap.size, 0, none⟩), .pointer (some ⟨B, 0, none⟩), .slice (some ⟨b, o, none⟩) k c, .int .i64 k, .int .i64 j, .bool true, .pointer (some ⟨b, o + j * 11, none⟩), .agg #[.string nm, .int .i64 a, .int .i64 b', .int .i64 m, .int .i64 kk, .int .i64 wd, .int .i64 d, .int .i64 t, .int .i64 r, .int .i64 s, .string lt], .agg #[.string nm, .int .i64 a, .int .i64 b', .int .i64 m, .int .i64 kk, .int .i64 wd, .int .i64 d, .int .i64 t, .int .i64 r, .int .i64 s, .string lt], .int .i64 Y, .func (.func 106) #[] #[.pointer (some ⟨W.heap.size + 1, 0, none⟩), .pointer (some ⟨W.heap.size + 1 + 1, 0, none⟩)], turnV (clip Bd u), u23, u24, u25, u26, u27, u28, u29, u30, u31, u32, u33, u34, u35, u36, u37, u38, u39], defers := [] })
        (fun u a' x A B row hs hg hr => by
          obtain ⟨Bk, h1, h2, h3⟩ := hs
          exact ⟨Bk, h1, h2.grown hg (fun r e => (hr r e).2), h3⟩) ?assign ?body ?done ?stop
      case assign =>
        rintro l2 pre u V K ⟨hi1, hi2, hi3⟩ hK
        dsimp only at hK ⊢
        generalize clip Bd u = cu at *
        obtain ⟨ua, ur, us, ul⟩ := cu
        gi_wp2
        exact hK _ _ ((KeepsOthers.alloc _ _).from _) ⟨Below.heap_alloc _ _ _ (by omega), Below.heap_alloc _ _ _ (by omega)⟩ ⟨hi1, hi2.alloc (by omega) _, by rw [World.size_alloc]; omega⟩ ⟨V.heap.size, hi3, World.alloc_heap_new V _, rfl⟩
      case body =>
        rintro l2 pre u a' V hl2 ⟨rr, hrr⟩ ⟨hi1, hi2, hi3⟩ ⟨B, hB1, hB2, rfl⟩ hlen
        have hcb := clip_bd hB0 u
        obtain ⟨cu, hcu⟩ : ∃ cu, cu = clip Bd u := ⟨_, rfl⟩
        rw [← hcu] at hB2 hcb ⊢
        have t0 := hB2.cell 0 _ rfl
        have t1 := hB2.cell 1 _ rfl
        have t2 := hB2.cell 2 _ rfl
        have t3 := hB2.cell 3 _ rfl
        have g0 := hi2.b0.cell 0 _ rfl
        have q0 := hi2.b2.cell 0 _ rfl
        have q1 := hi2.b2.cell 1 _ rfl
        have q2 := hi2.b2.cell 2 _ rfl
        have q3 := hi2.b2.cell 3 _ rfl
        have f0 := hi2.b3.cell 0 _ rfl
        have hS := fun V2 hx => HSO cu V2 hcb hx
        haveI : InW B V := ⟨hB2.lt⟩
        haveI : InW w.heap.size V := ⟨hi2.b0.lt⟩
        haveI : InW (w.heap.size + 1 + 1) V := ⟨hi2.b2.lt⟩
        haveI : InW (w.heap.size + 1 + 1 + 1) V := ⟨hi2.b3.lt⟩
        have y0 := laid_thaw hi2.b2 0
        have y1 := laid_thaw hi2.b2 1
        have y2 := laid_thaw hi2.b2 2
        have y3 := laid_thaw hi2.b2 3
        have y4 := laid_thaw hi2.b3 0
        have hn2 : 1 ≤ n - 1 - 1 := by omega
        obtain ⟨ua, ur, us, ul⟩ := cu
        generalize hp : p ⟨ua, ur, us, ul⟩ = pb at *
        cases pb
        · gi_wp2_with (refine And.intro trivial ?_; refine (CallsIn.inRound l2 (callsIn_wide.2 (Rets.use (hS V hi2.ex).out ?_))); intro z)
          exact ⟨keeps_ext z.hb, ⟨z.hb.block _ (by omega), z.hb.block _ (by omega)⟩, by
            intro u' hu'
            rcases List.mem_append.1 hu' with h | h
            · exact hi1 _ h
            · simp at h; rw [h, ← hcu]; exact hp, hi2.ext (by omega) z.hb, by have := Below.size z.hb; omega⟩
        · have hup := upd_cases q ⟨ua, ur, us, ul⟩
          have hu3 : ∃ q', q' = Rul.upd q ⟨ua, ur, us, ul⟩ := ⟨_, rfl⟩
          obtain ⟨q', hu3⟩ := hu3
          rw [← hu3] at hup
          simp only at hup
          have hi20 := hi2
          rcases hup with ⟨rfl, hq'⟩ | ⟨rq, hle, hq'⟩ | ⟨rq, hle, hq'⟩
          · gi_wp2_with (refine And.intro trivial ?_; refine (CallsIn.inRound l2 (callsIn_wide.2 (Rets.use (hS V hi2.ex).out ?_))); intro z)
            refine ⟨?_, rfl, pre, u, rfl, hi1, by rw [← hcu]; exact hp, ?_⟩
            · exact (keeps_ext z.hb).trans (((KeepsOthers.setCell _ _ _).from _).trans (((KeepsOthers.setCell _ _ _).from _).trans (((KeepsOthers.setCell _ _ _).from _).trans (((KeepsOthers.setCell _ _ _).from _).trans ((KeepsOthers.setCell _ _ _).from _)))))
            · rw [← hcu, ← hu3, hq']; exact (hi2.ext (by omega) z.hb).store rfl ⟨ua, ur, us, ul⟩
          · have f0 := hi2.b3.cell 0 _ rfl
            rw [rq] at f0
            generalize (Rul.orNo q).at' = bt at *
            gi_wp2_with (refine And.intro trivial ?_; refine (CallsIn.inRound l2 (callsIn_wide.2 (Rets.use (hS V hi2.ex).out ?_))); intro z)
            refine ⟨?_, rfl, pre, u, rfl, hi1, by rw [← hcu]; exact hp, ?_⟩
            · exact (keeps_ext z.hb).trans (((KeepsOthers.setCell _ _ _).from _).trans (((KeepsOthers.setCell _ _ _).from _).trans (((KeepsOthers.setCell _ _ _).from _).trans (((KeepsOthers.setCell _ _ _).from _).trans ((KeepsOthers.setCell _ _ _).from _)))))
            · rw [← hcu, ← hu3, hq']; exact (hi2.ext (by omega) z.hb).store rfl ⟨ua, ur, us, ul⟩
          · have f0 := hi2.b3.cell 0 _ rfl
            rw [rq] at f0
            generalize (Rul.orNo q).at' = bt at *
            gi_wp2_with (refine And.intro trivial ?_; refine (CallsIn.inRound l2 (callsIn_wide.2 (Rets.use (hS V hi2.ex).out ?_))); intro z)
            refine ⟨keeps_ext z.hb, rfl, pre, u, rfl, hi1, by rw [← hcu]; exact hp, ?_⟩
            rw [← hcu, ← hu3, hq']; exact hi2.ext (by omega) z.hb
      case done =>
        rintro D ys V hD rfl ⟨hi1, hi2, hi3⟩ hK
        have E := (HN (find_none (fun u hu => by have := hi1 u hu; rwa [clip_eq (hBm u hu)] at this))).out.trans he.out
        have hF4 := hi2.more (by omega) hD hK
        clear hi1
        gi_wp2
        refine ⟨⟨j + 1, q, _, _, _, _, _, _, _, _, _, _, _, _, _, _, _, _, _, _, _, _, _, _, _, _, _, _, _, _, rfl, by omega, E, hF4⟩, ?_⟩
        simp [intOf]; omega
      case stop =>
        rintro D cd pre V hD ⟨rest, hrest⟩ ⟨rfl, init, u, rfl, hi1, hp, hi2⟩ hK
        have hbu : ∀ u' ∈ init ++ [u] ++ rest, Bd u' := fun u' hu => hBm u' (by rw [hrest]; exact hu)
        rw [clip_eq (hbu u (by simp))] at hp hi2
        have E := (HS u (by rw [hrest]; exact find_some (fun u' hu => by have := hi1 u' hu; rwa [clip_eq (hbu u' (by simp [hu]))] at this) hp)).out
        clear hbu
        rw [he.out] at E
        have hF4 := hi2.more (by omega) hD hK
        clear hi1 hrest
        gi_wp2
        refine ⟨⟨j + 1, _, _, _, _, _, _, _, _, _, _, _, _, _, _, _, _, _, _, _, _, _, _, _, _, _, _, _, _, _, rfl, by omega, E, hF4⟩, ?_⟩
        simp [intOf]; omega
    · have E : Hid (Rul.latestG (fun x => (Rul.backs x Y).find? p) l = q) := by have := he.out; rwa [List.take_of_length_le (by rw [Hn.out]; omega)] at this
      have EV : Hid (Value.tuple #[turnV (Rul.orNo (Rul.latestG (fun x => (Rul.backs x Y).find? p) l)), .bool (Rul.latestG (fun x => (Rul.backs x Y).find? p) l).isSome] = .tuple #[turnV (Rul.orNo q), .bool q.isSome]) := by show _ = _; rw [E.out]
      clear he E HSO
      have hb0 := hF.b0
      have hb1 := hF.b1
      have hb2 := hF.b2
      have hb3 := hF.b3
      have hms := hF.ms
      generalize q.isSome = fb at *
      generalize Rul.orNo q = bb at *
      obtain ⟨ba, br, bs, bl⟩ := bb
      have q0 := hb2.cell 0 _ rfl
      have q1 := hb2.cell 1 _ rfl
      have q2 := hb2.cell 2 _ rfl
      have q3 := hb2.cell 3 _ rfl
      have f0 := hb3.cell 0 _ rfl
      have s0 := hb1.cell 0 _ rfl
      have s1 := hb1.cell 1 _ rfl
      have s2 := hb1.cell 2 _ rfl
      have s3 := hb1.cell 3 _ rfl
      have y0 := laid_thaw hb1 0
      have y1 := laid_thaw hb1 1
      have y2 := laid_thaw hb1 2
      have y3 := laid_thaw hb1 3
      haveI : InW (w.heap.size + 1) W := ⟨hb1.lt⟩
      gi_wp2
      gi_region
      all_goals (try gi_wp2)
      have hEx := hx
      refine leaves_marks (lo := w.heap.size + 4) (hi := W.heap.size) (fun V => Laid V (w.heap.size + 1) [.int .i64 ba, .int .i64 br, .int .i64 bs, .string bl] 96 ∧ Ext w V) ?_ ?_ ds _ ?_ ?_
      · rintro V D ⟨g1, g2⟩ hD hlo
        exact ⟨g1.grown (grownBy_putObj' V D _) (fun r e => by cases e; exact ⟨_, hD, rfl⟩), Below.grown g2 (grownBy_putObj' V D _) (Below.size g2) (fun r e => by cases e; omega)⟩
      · rintro V ⟨g1, g2⟩
        have p0 := g1.cell 0 _ rfl
        have p1 := g1.cell 1 _ rfl
        have p2 := g1.cell 2 _ rfl
        have p3 := g1.cell 3 _ rfl
        refine ⟨.tuple #[turnV ⟨ba, br, bs, bl⟩, .bool fb], ?_, by rw [EV.out], fin g2⟩
        simp [results, Tryd.f86, go_sem, p0, p1, p2, p3]
      · refine Marks.kept (grown_of_ext ((Ext.refl _).drew)) (fun r e => by cases e) ds ?_
        exact Marks.other (B' := w.heap.size + 1) (by omega) 3 _ ds (Marks.other (B' := w.heap.size + 1) (by omega) 2 _ ds (Marks.other (B' := w.heap.size + 1) (by omega) 1 _ ds (Marks.other (B' := w.heap.size + 1) (by omega) 0 _ ds hms)))
      · exact ⟨(((hb1.set 0 (.int .i64 ba)).set 1 (.int .i64 br)).set 2 (.int .i64 bs)).set 3 (.string bl), isext⟩
end Go.Proofs.YtcjnficcggjeiaaDoor
