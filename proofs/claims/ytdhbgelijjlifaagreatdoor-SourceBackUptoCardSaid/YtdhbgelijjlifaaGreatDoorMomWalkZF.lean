/- Walks of moments: the document's texts of a spot. -/
import Derived.Test.YtdhbgelijjlifaaGreatDoorSrcSupA
import Derived.Test.YtdhbgelijjlifaaGreatDoorMomWalkZE
import Derived.Test.YtdhbgelijjlifaaGreatDoorMomWalkX
import Derived.Deep.Cut
set_option linter.unusedVariables false
set_option linter.unusedSimpArgs false
namespace Go.Proofs.YtdhbgelijjlifaaGreatDoor
open Go.RowKit
def TextsOf (f : FuncId) (args : Array Value) (w : World) (l : List (List UInt8)) (n : Nat) : Prop := Calls Tryz.prog f args w fun e w' => ∃ (v : Value) (y : Past w), e = .returned v ∧ Reads y.x v n (strs l) ∧ w' = y.x
theorem app_lit (a b : List UInt8) : (⟨a.toArray⟩ : ByteArray) ++ ⟨b.toArray⟩ = ⟨(a ++ b).toArray⟩ := by apply ByteArray.ext; simp [ByteArray.data_append]
theorem texts_close {w W : World} [h : ExtC w W] (cs : Array Value) (t : TypeId) (l : List (List UInt8)) (n : Nat) (hn : l.length = n) (h100 : n ≤ 100) (hc : cs = (strs l).toArray) :
 ∃ (v : Value) (y : Past w), Ending.returned (Value.slice (some ⟨W.heap.size, 0, none⟩) n n) = Ending.returned v ∧ Reads y.x v n (strs l) ∧ W.alloc (.cells cs t) = y.x := by
 subst hc; exact ⟨_, ⟨_, h.ext.alloc _⟩, rfl, reads_new W l t n hn h100, rfl⟩
theorem rmonths_at (i : Nat) (h : i < 12) : (#[Value.string ⟨#[74, 97, 110]⟩, Value.string ⟨#[70, 101, 98]⟩, Value.string ⟨#[77, 97, 114]⟩, Value.string ⟨#[65, 112, 114]⟩, Value.string ⟨#[77, 97, 121]⟩, Value.string ⟨#[74, 117, 110]⟩, Value.string ⟨#[74, 117, 108]⟩, Value.string ⟨#[65, 117, 103]⟩, Value.string ⟨#[83, 101, 112]⟩, Value.string ⟨#[79, 99, 116]⟩, Value.string ⟨#[78, 111, 118]⟩, Value.string ⟨#[68, 101, 99]⟩] : Array Value)[i]? = some (.string ⟨(Mom.short Mom.monthsL i).toArray⟩) := by
 obtain rfl | rfl | rfl | rfl | rfl | rfl | rfl | rfl | rfl | rfl | rfl | rfl : i = 0 ∨ i = 1 ∨ i = 2 ∨ i = 3 ∨ i = 4 ∨ i = 5 ∨ i = 6 ∨ i = 7 ∨ i = 8 ∨ i = 9 ∨ i = 10 ∨ i = 11 := by omega
 all_goals rfl
theorem rwds_at (i : Nat) (h : i < 8) : (#[Value.string ⟨#[]⟩, Value.string ⟨#[77, 111, 110]⟩, Value.string ⟨#[84, 117, 101]⟩, Value.string ⟨#[87, 101, 100]⟩, Value.string ⟨#[84, 104, 117]⟩, Value.string ⟨#[70, 114, 105]⟩, Value.string ⟨#[83, 97, 116]⟩, Value.string ⟨#[83, 117, 110]⟩] : Array Value)[i]? = some (.string ⟨(Mom.wdD i).toArray⟩) := by
 obtain rfl | rfl | rfl | rfl | rfl | rfl | rfl | rfl : i = 0 ∨ i = 1 ∨ i = 2 ∨ i = 3 ∨ i = 4 ∨ i = 5 ∨ i = 6 ∨ i = 7 := by omega
 all_goals rfl
theorem short_len (i : Nat) (h : i < 12) : (Mom.short Mom.monthsL i).length = 3 := by
 obtain rfl | rfl | rfl | rfl | rfl | rfl | rfl | rfl | rfl | rfl | rfl | rfl : i = 0 ∨ i = 1 ∨ i = 2 ∨ i = 3 ∨ i = 4 ∨ i = 5 ∨ i = 6 ∨ i = 7 ∨ i = 8 ∨ i = 9 ∨ i = 10 ∨ i = 11 := by omega
 all_goals rfl
theorem wdD_len (i : Nat) (h : i < 8) : (Mom.wdD i).length ≤ 3 := by
 obtain rfl | rfl | rfl | rfl | rfl | rfl | rfl | rfl : i = 0 ∨ i = 1 ∨ i = 2 ∨ i = 3 ∨ i = 4 ∨ i = 5 ∨ i = 6 ∨ i = 7 := by omega
 all_goals decide
theorem three_cells {w W : World} {a b c : Array Value} {ta tb tc : TypeId} (hW : ((w.alloc (.cells a ta)).alloc (.cells b tb)).alloc (.cells c tc) = W) :
 (∀ (i : Nat) (v : Value), a[i]? = some v → W.cell? ⟨w.heap.size, i, none⟩ = some v) ∧ (∀ (i : Nat) (v : Value), b[i]? = some v → W.cell? ⟨w.heap.size + 1, i, none⟩ = some v) ∧ (∀ (i : Nat) (v : Value), c[i]? = some v → W.cell? ⟨w.heap.size + 1 + 1, i, none⟩ = some v) ∧
 (∀ i, i < a.size → W.frozen? ⟨w.heap.size, i, none⟩ = false) ∧ w.heap.size + 1 + 1 < W.heap.size ∧ Ext w W := by
 have hadd : ∀ (k i : Nat), (⟨k, 0, none⟩ : Addr).add i = ⟨k, i, none⟩ := fun k i => by unfold Addr.add; split <;> simp_all
 have z1 : (w.alloc (.cells a ta)).heap.size = w.heap.size + 1 := by simp
 have z2 : ((w.alloc (.cells a ta)).alloc (.cells b tb)).heap.size = w.heap.size + 1 + 1 := by simp
 have e1 := Ext.alloc (Ext.refl w) (.cells a ta)
 have e2 := Ext.alloc e1 (.cells b tb)
 have e3 := Ext.alloc e2 (.cells c tc)
 subst hW
 refine ⟨fun i v h => ?_, fun i v h => ?_, fun i v h => ?_, fun i h => ?_, by simp, e3⟩
 · have k1 := new_cells w a.toList ta i v (by simpa using h)
   rw [hadd] at k1
   rw [World.cell?_alloc_past _ _ _ (by rw [z2]; omega), World.cell?_alloc_past _ _ _ (by rw [z1]; omega)]
   exact k1
 · have k1 := new_cells (w.alloc (.cells a ta)) b.toList tb i v (by simpa using h)
   rw [hadd, z1] at k1
   rw [World.cell?_alloc_past _ _ _ (by rw [z2]; omega)]
   exact k1
 · have k1 := new_cells ((w.alloc (.cells a ta)).alloc (.cells b tb)) c.toList tc i v (by simpa using h)
   rw [hadd, z2] at k1
   exact k1
 · rw [World.frozen?_alloc_past _ _ _ (by rw [z2]; omega), World.frozen?_alloc_past _ _ _ (by rw [z1]; omega)]
   simp
theorem hms_len {a : Nat} (h : a < 10000000) : (Mom.hms a).length ≤ 20 := by
 have : (Mom.dec (a / 3600)).length ≤ 10 := Mom.dec_len 10 _ (by omega) (by omega)
 unfold Mom.hms
 split <;> simp [Mom.twoD] <;> omega
theorem timeD_len {t : Int} (h1 : -604799 ≤ t) (h2 : t ≤ 604799) : (Mom.timeD t).length ≤ 21 := by
 have := hms_len (a := t.natAbs) (by omega)
 unfold Mom.timeD
 split <;> simp <;> omega
set_option maxRecDepth 100000 in
set_option maxHeartbeats 4000000 in
theorem rprint_00 (i wd d : Nat) (t : Int) (M A D T : List UInt8) (w : World) (hi : i < 12) (hwd : wd < 8) (hM : (#[Value.string ⟨#[74, 97, 110]⟩, Value.string ⟨#[70, 101, 98]⟩, Value.string ⟨#[77, 97, 114]⟩, Value.string ⟨#[65, 112, 114]⟩, Value.string ⟨#[77, 97, 121]⟩, Value.string ⟨#[74, 117, 110]⟩, Value.string ⟨#[74, 117, 108]⟩, Value.string ⟨#[65, 117, 103]⟩, Value.string ⟨#[83, 101, 112]⟩, Value.string ⟨#[79, 99, 116]⟩, Value.string ⟨#[78, 111, 118]⟩, Value.string ⟨#[68, 101, 99]⟩] : Array Value)[i]? = some (.string ⟨M.toArray⟩)) (hA : (#[Value.string ⟨#[]⟩, Value.string ⟨#[77, 111, 110]⟩, Value.string ⟨#[84, 117, 101]⟩, Value.string ⟨#[87, 101, 100]⟩, Value.string ⟨#[84, 104, 117]⟩, Value.string ⟨#[70, 114, 105]⟩, Value.string ⟨#[83, 97, 116]⟩, Value.string ⟨#[83, 117, 110]⟩] : Array Value)[wd]? = some (.string ⟨A.toArray⟩))
 (H1 : ∀ w, Rets Tryz.prog 106 #[.int .i64 d] w (.string ⟨D.toArray⟩)) (H2 : ∀ w, Rets Tryz.prog 67 #[.int .i64 t] w (.string ⟨T.toArray⟩))
 (lM : M.length = 3) (lA : A.length ≤ 3) (lD : D.length ≤ 19) (lT : T.length ≤ 21) :
 TextsOf 105 #[spotA (i + 1 : Nat) 0 wd d t 0] w [M, D, T] 3 := by
 have H1 := fun w => Lib.hid (H1 w)
 have H2 := fun w => Lib.hid (H2 w)
 have i1 : (i : Int) < 12 := by omega
 have i2 : ((i + 1 : Nat) : Int) - 1 = i := by omega
 have w1 : (wd : Int) < 8 := by omega
 unfold TextsOf
 go_enter Tryz.func105, Tryz.ntmps105
 go_upto_region 3 with (fail)
 generalize hW : ((w.alloc _).alloc _).alloc _ = W
 obtain ⟨c1, c2, c3, -, hz, hx⟩ := three_cells hW
 have f0 := c1 0 _ rfl
 have f1 := c1 1 _ rfl
 have f2 := c1 2 _ rfl
 have f3 := c1 3 _ rfl
 have f4 := c1 4 _ rfl
 have f5 := c1 5 _ rfl
 have g1 := c2 _ _ hM
 have g2 := c3 _ _ hA
 haveI : InW w.heap.size W := ⟨by omega⟩
 haveI : InW (w.heap.size + 1) W := ⟨by omega⟩
 haveI : InW (w.heap.size + 1 + 1) W := ⟨by omega⟩
 haveI : ExtC w W := ⟨hx⟩
 have hf := fun (y : Past w) => reads_new y.x
 clear hW c1 c2 c3 hM hA
 go_wp2_with (first | (go_at_call 106; refine Rets.use (H1 _).out ?_; intro _) | (go_at_call 67; refine Rets.use (H2 _).out ?_; intro _))
 go_ret
 exact texts_close _ _ _ _ rfl (by omega) (by simp only [strs, List.map, app_lit, List.cons_append, List.nil_append, List.append_assoc])
set_option maxRecDepth 100000 in
set_option maxHeartbeats 4000000 in
theorem rprint_01 (i wd d : Nat) (t : Int) (M A D T : List UInt8) (w : World) (hi : i < 12) (hwd : wd < 8) (hM : (#[Value.string ⟨#[74, 97, 110]⟩, Value.string ⟨#[70, 101, 98]⟩, Value.string ⟨#[77, 97, 114]⟩, Value.string ⟨#[65, 112, 114]⟩, Value.string ⟨#[77, 97, 121]⟩, Value.string ⟨#[74, 117, 110]⟩, Value.string ⟨#[74, 117, 108]⟩, Value.string ⟨#[65, 117, 103]⟩, Value.string ⟨#[83, 101, 112]⟩, Value.string ⟨#[79, 99, 116]⟩, Value.string ⟨#[78, 111, 118]⟩, Value.string ⟨#[68, 101, 99]⟩] : Array Value)[i]? = some (.string ⟨M.toArray⟩)) (hA : (#[Value.string ⟨#[]⟩, Value.string ⟨#[77, 111, 110]⟩, Value.string ⟨#[84, 117, 101]⟩, Value.string ⟨#[87, 101, 100]⟩, Value.string ⟨#[84, 104, 117]⟩, Value.string ⟨#[70, 114, 105]⟩, Value.string ⟨#[83, 97, 116]⟩, Value.string ⟨#[83, 117, 110]⟩] : Array Value)[wd]? = some (.string ⟨A.toArray⟩))
 (H1 : ∀ w, Rets Tryz.prog 106 #[.int .i64 d] w (.string ⟨D.toArray⟩)) (H2 : ∀ w, Rets Tryz.prog 67 #[.int .i64 t] w (.string ⟨T.toArray⟩))
 (lM : M.length = 3) (lA : A.length ≤ 3) (lD : D.length ≤ 19) (lT : T.length ≤ 21) :
 TextsOf 105 #[spotA (i + 1 : Nat) 0 wd d t 1] w [M, D, T ++ [115]] 3 := by
 have H1 := fun w => Lib.hid (H1 w)
 have H2 := fun w => Lib.hid (H2 w)
 have i1 : (i : Int) < 12 := by omega
 have i2 : ((i + 1 : Nat) : Int) - 1 = i := by omega
 have w1 : (wd : Int) < 8 := by omega
 unfold TextsOf
 go_enter Tryz.func105, Tryz.ntmps105
 go_upto_region 3 with (fail)
 generalize hW : ((w.alloc _).alloc _).alloc _ = W
 obtain ⟨c1, c2, c3, -, hz, hx⟩ := three_cells hW
 have f0 := c1 0 _ rfl
 have f1 := c1 1 _ rfl
 have f2 := c1 2 _ rfl
 have f3 := c1 3 _ rfl
 have f4 := c1 4 _ rfl
 have f5 := c1 5 _ rfl
 have g1 := c2 _ _ hM
 have g2 := c3 _ _ hA
 haveI : InW w.heap.size W := ⟨by omega⟩
 haveI : InW (w.heap.size + 1) W := ⟨by omega⟩
 haveI : InW (w.heap.size + 1 + 1) W := ⟨by omega⟩
 haveI : ExtC w W := ⟨hx⟩
 have hf := fun (y : Past w) => reads_new y.x
 clear hW c1 c2 c3 hM hA
 go_wp2_with (first | (go_at_call 106; refine Rets.use (H1 _).out ?_; intro _) | (go_at_call 67; refine Rets.use (H2 _).out ?_; intro _))
 go_ret
 exact texts_close _ _ _ _ rfl (by omega) (by simp only [strs, List.map, app_lit, List.cons_append, List.nil_append, List.append_assoc])
set_option maxRecDepth 100000 in
set_option maxHeartbeats 4000000 in
theorem rprint_02 (i wd d : Nat) (t : Int) (M A D T : List UInt8) (w : World) (hi : i < 12) (hwd : wd < 8) (hM : (#[Value.string ⟨#[74, 97, 110]⟩, Value.string ⟨#[70, 101, 98]⟩, Value.string ⟨#[77, 97, 114]⟩, Value.string ⟨#[65, 112, 114]⟩, Value.string ⟨#[77, 97, 121]⟩, Value.string ⟨#[74, 117, 110]⟩, Value.string ⟨#[74, 117, 108]⟩, Value.string ⟨#[65, 117, 103]⟩, Value.string ⟨#[83, 101, 112]⟩, Value.string ⟨#[79, 99, 116]⟩, Value.string ⟨#[78, 111, 118]⟩, Value.string ⟨#[68, 101, 99]⟩] : Array Value)[i]? = some (.string ⟨M.toArray⟩)) (hA : (#[Value.string ⟨#[]⟩, Value.string ⟨#[77, 111, 110]⟩, Value.string ⟨#[84, 117, 101]⟩, Value.string ⟨#[87, 101, 100]⟩, Value.string ⟨#[84, 104, 117]⟩, Value.string ⟨#[70, 114, 105]⟩, Value.string ⟨#[83, 97, 116]⟩, Value.string ⟨#[83, 117, 110]⟩] : Array Value)[wd]? = some (.string ⟨A.toArray⟩))
 (H1 : ∀ w, Rets Tryz.prog 106 #[.int .i64 d] w (.string ⟨D.toArray⟩)) (H2 : ∀ w, Rets Tryz.prog 67 #[.int .i64 t] w (.string ⟨T.toArray⟩))
 (lM : M.length = 3) (lA : A.length ≤ 3) (lD : D.length ≤ 19) (lT : T.length ≤ 21) :
 TextsOf 105 #[spotA (i + 1 : Nat) 0 wd d t 2] w [M, D, T ++ [117]] 3 := by
 have H1 := fun w => Lib.hid (H1 w)
 have H2 := fun w => Lib.hid (H2 w)
 have i1 : (i : Int) < 12 := by omega
 have i2 : ((i + 1 : Nat) : Int) - 1 = i := by omega
 have w1 : (wd : Int) < 8 := by omega
 unfold TextsOf
 go_enter Tryz.func105, Tryz.ntmps105
 go_upto_region 3 with (fail)
 generalize hW : ((w.alloc _).alloc _).alloc _ = W
 obtain ⟨c1, c2, c3, -, hz, hx⟩ := three_cells hW
 have f0 := c1 0 _ rfl
 have f1 := c1 1 _ rfl
 have f2 := c1 2 _ rfl
 have f3 := c1 3 _ rfl
 have f4 := c1 4 _ rfl
 have f5 := c1 5 _ rfl
 have g1 := c2 _ _ hM
 have g2 := c3 _ _ hA
 haveI : InW w.heap.size W := ⟨by omega⟩
 haveI : InW (w.heap.size + 1) W := ⟨by omega⟩
 haveI : InW (w.heap.size + 1 + 1) W := ⟨by omega⟩
 haveI : ExtC w W := ⟨hx⟩
 have hf := fun (y : Past w) => reads_new y.x
 clear hW c1 c2 c3 hM hA
 go_wp2_with (first | (go_at_call 106; refine Rets.use (H1 _).out ?_; intro _) | (go_at_call 67; refine Rets.use (H2 _).out ?_; intro _))
 go_ret
 exact texts_close _ _ _ _ rfl (by omega) (by simp only [strs, List.map, app_lit, List.cons_append, List.nil_append, List.append_assoc])
set_option maxRecDepth 100000 in
set_option maxHeartbeats 4000000 in
theorem rprint_10 (i wd d : Nat) (t : Int) (M A D T : List UInt8) (w : World) (hi : i < 12) (hwd : wd < 8) (hM : (#[Value.string ⟨#[74, 97, 110]⟩, Value.string ⟨#[70, 101, 98]⟩, Value.string ⟨#[77, 97, 114]⟩, Value.string ⟨#[65, 112, 114]⟩, Value.string ⟨#[77, 97, 121]⟩, Value.string ⟨#[74, 117, 110]⟩, Value.string ⟨#[74, 117, 108]⟩, Value.string ⟨#[65, 117, 103]⟩, Value.string ⟨#[83, 101, 112]⟩, Value.string ⟨#[79, 99, 116]⟩, Value.string ⟨#[78, 111, 118]⟩, Value.string ⟨#[68, 101, 99]⟩] : Array Value)[i]? = some (.string ⟨M.toArray⟩)) (hA : (#[Value.string ⟨#[]⟩, Value.string ⟨#[77, 111, 110]⟩, Value.string ⟨#[84, 117, 101]⟩, Value.string ⟨#[87, 101, 100]⟩, Value.string ⟨#[84, 104, 117]⟩, Value.string ⟨#[70, 114, 105]⟩, Value.string ⟨#[83, 97, 116]⟩, Value.string ⟨#[83, 117, 110]⟩] : Array Value)[wd]? = some (.string ⟨A.toArray⟩))
 (H1 : ∀ w, Rets Tryz.prog 106 #[.int .i64 d] w (.string ⟨D.toArray⟩)) (H2 : ∀ w, Rets Tryz.prog 67 #[.int .i64 t] w (.string ⟨T.toArray⟩))
 (lM : M.length = 3) (lA : A.length ≤ 3) (lD : D.length ≤ 19) (lT : T.length ≤ 21) :
 TextsOf 105 #[spotA (i + 1 : Nat) 1 wd d t 0] w [M, [108, 97, 115, 116] ++ A, T] 3 := by
 have H1 := fun w => Lib.hid (H1 w)
 have H2 := fun w => Lib.hid (H2 w)
 have i1 : (i : Int) < 12 := by omega
 have i2 : ((i + 1 : Nat) : Int) - 1 = i := by omega
 have w1 : (wd : Int) < 8 := by omega
 unfold TextsOf
 go_enter Tryz.func105, Tryz.ntmps105
 go_upto_region 3 with (fail)
 generalize hW : ((w.alloc _).alloc _).alloc _ = W
 obtain ⟨c1, c2, c3, -, hz, hx⟩ := three_cells hW
 have f0 := c1 0 _ rfl
 have f1 := c1 1 _ rfl
 have f2 := c1 2 _ rfl
 have f3 := c1 3 _ rfl
 have f4 := c1 4 _ rfl
 have f5 := c1 5 _ rfl
 have g1 := c2 _ _ hM
 have g2 := c3 _ _ hA
 haveI : InW w.heap.size W := ⟨by omega⟩
 haveI : InW (w.heap.size + 1) W := ⟨by omega⟩
 haveI : InW (w.heap.size + 1 + 1) W := ⟨by omega⟩
 haveI : ExtC w W := ⟨hx⟩
 have hf := fun (y : Past w) => reads_new y.x
 clear hW c1 c2 c3 hM hA
 go_wp2_with (first | (go_at_call 106; refine Rets.use (H1 _).out ?_; intro _) | (go_at_call 67; refine Rets.use (H2 _).out ?_; intro _))
 go_ret
 exact texts_close _ _ _ _ rfl (by omega) (by simp only [strs, List.map, app_lit, List.cons_append, List.nil_append, List.append_assoc])
set_option maxRecDepth 100000 in
set_option maxHeartbeats 4000000 in
theorem rprint_11 (i wd d : Nat) (t : Int) (M A D T : List UInt8) (w : World) (hi : i < 12) (hwd : wd < 8) (hM : (#[Value.string ⟨#[74, 97, 110]⟩, Value.string ⟨#[70, 101, 98]⟩, Value.string ⟨#[77, 97, 114]⟩, Value.string ⟨#[65, 112, 114]⟩, Value.string ⟨#[77, 97, 121]⟩, Value.string ⟨#[74, 117, 110]⟩, Value.string ⟨#[74, 117, 108]⟩, Value.string ⟨#[65, 117, 103]⟩, Value.string ⟨#[83, 101, 112]⟩, Value.string ⟨#[79, 99, 116]⟩, Value.string ⟨#[78, 111, 118]⟩, Value.string ⟨#[68, 101, 99]⟩] : Array Value)[i]? = some (.string ⟨M.toArray⟩)) (hA : (#[Value.string ⟨#[]⟩, Value.string ⟨#[77, 111, 110]⟩, Value.string ⟨#[84, 117, 101]⟩, Value.string ⟨#[87, 101, 100]⟩, Value.string ⟨#[84, 104, 117]⟩, Value.string ⟨#[70, 114, 105]⟩, Value.string ⟨#[83, 97, 116]⟩, Value.string ⟨#[83, 117, 110]⟩] : Array Value)[wd]? = some (.string ⟨A.toArray⟩))
 (H1 : ∀ w, Rets Tryz.prog 106 #[.int .i64 d] w (.string ⟨D.toArray⟩)) (H2 : ∀ w, Rets Tryz.prog 67 #[.int .i64 t] w (.string ⟨T.toArray⟩))
 (lM : M.length = 3) (lA : A.length ≤ 3) (lD : D.length ≤ 19) (lT : T.length ≤ 21) :
 TextsOf 105 #[spotA (i + 1 : Nat) 1 wd d t 1] w [M, [108, 97, 115, 116] ++ A, T ++ [115]] 3 := by
 have H1 := fun w => Lib.hid (H1 w)
 have H2 := fun w => Lib.hid (H2 w)
 have i1 : (i : Int) < 12 := by omega
 have i2 : ((i + 1 : Nat) : Int) - 1 = i := by omega
 have w1 : (wd : Int) < 8 := by omega
 unfold TextsOf
 go_enter Tryz.func105, Tryz.ntmps105
 go_upto_region 3 with (fail)
 generalize hW : ((w.alloc _).alloc _).alloc _ = W
 obtain ⟨c1, c2, c3, -, hz, hx⟩ := three_cells hW
 have f0 := c1 0 _ rfl
 have f1 := c1 1 _ rfl
 have f2 := c1 2 _ rfl
 have f3 := c1 3 _ rfl
 have f4 := c1 4 _ rfl
 have f5 := c1 5 _ rfl
 have g1 := c2 _ _ hM
 have g2 := c3 _ _ hA
 haveI : InW w.heap.size W := ⟨by omega⟩
 haveI : InW (w.heap.size + 1) W := ⟨by omega⟩
 haveI : InW (w.heap.size + 1 + 1) W := ⟨by omega⟩
 haveI : ExtC w W := ⟨hx⟩
 have hf := fun (y : Past w) => reads_new y.x
 clear hW c1 c2 c3 hM hA
 go_wp2_with (first | (go_at_call 106; refine Rets.use (H1 _).out ?_; intro _) | (go_at_call 67; refine Rets.use (H2 _).out ?_; intro _))
 go_ret
 exact texts_close _ _ _ _ rfl (by omega) (by simp only [strs, List.map, app_lit, List.cons_append, List.nil_append, List.append_assoc])
set_option maxRecDepth 100000 in
set_option maxHeartbeats 4000000 in
theorem rprint_12 (i wd d : Nat) (t : Int) (M A D T : List UInt8) (w : World) (hi : i < 12) (hwd : wd < 8) (hM : (#[Value.string ⟨#[74, 97, 110]⟩, Value.string ⟨#[70, 101, 98]⟩, Value.string ⟨#[77, 97, 114]⟩, Value.string ⟨#[65, 112, 114]⟩, Value.string ⟨#[77, 97, 121]⟩, Value.string ⟨#[74, 117, 110]⟩, Value.string ⟨#[74, 117, 108]⟩, Value.string ⟨#[65, 117, 103]⟩, Value.string ⟨#[83, 101, 112]⟩, Value.string ⟨#[79, 99, 116]⟩, Value.string ⟨#[78, 111, 118]⟩, Value.string ⟨#[68, 101, 99]⟩] : Array Value)[i]? = some (.string ⟨M.toArray⟩)) (hA : (#[Value.string ⟨#[]⟩, Value.string ⟨#[77, 111, 110]⟩, Value.string ⟨#[84, 117, 101]⟩, Value.string ⟨#[87, 101, 100]⟩, Value.string ⟨#[84, 104, 117]⟩, Value.string ⟨#[70, 114, 105]⟩, Value.string ⟨#[83, 97, 116]⟩, Value.string ⟨#[83, 117, 110]⟩] : Array Value)[wd]? = some (.string ⟨A.toArray⟩))
 (H1 : ∀ w, Rets Tryz.prog 106 #[.int .i64 d] w (.string ⟨D.toArray⟩)) (H2 : ∀ w, Rets Tryz.prog 67 #[.int .i64 t] w (.string ⟨T.toArray⟩))
 (lM : M.length = 3) (lA : A.length ≤ 3) (lD : D.length ≤ 19) (lT : T.length ≤ 21) :
 TextsOf 105 #[spotA (i + 1 : Nat) 1 wd d t 2] w [M, [108, 97, 115, 116] ++ A, T ++ [117]] 3 := by
 have H1 := fun w => Lib.hid (H1 w)
 have H2 := fun w => Lib.hid (H2 w)
 have i1 : (i : Int) < 12 := by omega
 have i2 : ((i + 1 : Nat) : Int) - 1 = i := by omega
 have w1 : (wd : Int) < 8 := by omega
 unfold TextsOf
 go_enter Tryz.func105, Tryz.ntmps105
 go_upto_region 3 with (fail)
 generalize hW : ((w.alloc _).alloc _).alloc _ = W
 obtain ⟨c1, c2, c3, -, hz, hx⟩ := three_cells hW
 have f0 := c1 0 _ rfl
 have f1 := c1 1 _ rfl
 have f2 := c1 2 _ rfl
 have f3 := c1 3 _ rfl
 have f4 := c1 4 _ rfl
 have f5 := c1 5 _ rfl
 have g1 := c2 _ _ hM
 have g2 := c3 _ _ hA
 haveI : InW w.heap.size W := ⟨by omega⟩
 haveI : InW (w.heap.size + 1) W := ⟨by omega⟩
 haveI : InW (w.heap.size + 1 + 1) W := ⟨by omega⟩
 haveI : ExtC w W := ⟨hx⟩
 have hf := fun (y : Past w) => reads_new y.x
 clear hW c1 c2 c3 hM hA
 go_wp2_with (first | (go_at_call 106; refine Rets.use (H1 _).out ?_; intro _) | (go_at_call 67; refine Rets.use (H2 _).out ?_; intro _))
 go_ret
 exact texts_close _ _ _ _ rfl (by omega) (by simp only [strs, List.map, app_lit, List.cons_append, List.nil_append, List.append_assoc])
set_option maxRecDepth 100000 in
set_option maxHeartbeats 4000000 in
theorem rprint_20 (i wd d : Nat) (t : Int) (M A D T : List UInt8) (w : World) (hi : i < 12) (hwd : wd < 8) (hM : (#[Value.string ⟨#[74, 97, 110]⟩, Value.string ⟨#[70, 101, 98]⟩, Value.string ⟨#[77, 97, 114]⟩, Value.string ⟨#[65, 112, 114]⟩, Value.string ⟨#[77, 97, 121]⟩, Value.string ⟨#[74, 117, 110]⟩, Value.string ⟨#[74, 117, 108]⟩, Value.string ⟨#[65, 117, 103]⟩, Value.string ⟨#[83, 101, 112]⟩, Value.string ⟨#[79, 99, 116]⟩, Value.string ⟨#[78, 111, 118]⟩, Value.string ⟨#[68, 101, 99]⟩] : Array Value)[i]? = some (.string ⟨M.toArray⟩)) (hA : (#[Value.string ⟨#[]⟩, Value.string ⟨#[77, 111, 110]⟩, Value.string ⟨#[84, 117, 101]⟩, Value.string ⟨#[87, 101, 100]⟩, Value.string ⟨#[84, 104, 117]⟩, Value.string ⟨#[70, 114, 105]⟩, Value.string ⟨#[83, 97, 116]⟩, Value.string ⟨#[83, 117, 110]⟩] : Array Value)[wd]? = some (.string ⟨A.toArray⟩))
 (H1 : ∀ w, Rets Tryz.prog 106 #[.int .i64 d] w (.string ⟨D.toArray⟩)) (H2 : ∀ w, Rets Tryz.prog 67 #[.int .i64 t] w (.string ⟨T.toArray⟩))
 (lM : M.length = 3) (lA : A.length ≤ 3) (lD : D.length ≤ 19) (lT : T.length ≤ 21) :
 TextsOf 105 #[spotA (i + 1 : Nat) 2 wd d t 0] w [M, A ++ [62, 61] ++ D, T] 3 := by
 have H1 := fun w => Lib.hid (H1 w)
 have H2 := fun w => Lib.hid (H2 w)
 have i1 : (i : Int) < 12 := by omega
 have i2 : ((i + 1 : Nat) : Int) - 1 = i := by omega
 have w1 : (wd : Int) < 8 := by omega
 unfold TextsOf
 go_enter Tryz.func105, Tryz.ntmps105
 go_upto_region 3 with (fail)
 generalize hW : ((w.alloc _).alloc _).alloc _ = W
 obtain ⟨c1, c2, c3, -, hz, hx⟩ := three_cells hW
 have f0 := c1 0 _ rfl
 have f1 := c1 1 _ rfl
 have f2 := c1 2 _ rfl
 have f3 := c1 3 _ rfl
 have f4 := c1 4 _ rfl
 have f5 := c1 5 _ rfl
 have g1 := c2 _ _ hM
 have g2 := c3 _ _ hA
 haveI : InW w.heap.size W := ⟨by omega⟩
 haveI : InW (w.heap.size + 1) W := ⟨by omega⟩
 haveI : InW (w.heap.size + 1 + 1) W := ⟨by omega⟩
 haveI : ExtC w W := ⟨hx⟩
 have hf := fun (y : Past w) => reads_new y.x
 clear hW c1 c2 c3 hM hA
 go_wp2_with (first | (go_at_call 106; refine Rets.use (H1 _).out ?_; intro _) | (go_at_call 67; refine Rets.use (H2 _).out ?_; intro _))
 refine wp_region_past (by kernel_rfl) (by kernel_rfl) ?_
 repeat (go_big_quiet_step ((go_at_call 106; exact Rets.quiet (H1 _).out)))
 refine wpQuiet_nil ?_
 intro _
 go_wp2_with (first | (go_at_call 106; refine Rets.use (H1 _).out ?_; intro _) | (go_at_call 67; refine Rets.use (H2 _).out ?_; intro _))
 go_ret
 exact texts_close _ _ _ _ rfl (by omega) (by simp only [strs, List.map, app_lit, List.cons_append, List.nil_append, List.append_assoc])
set_option maxRecDepth 100000 in
set_option maxHeartbeats 4000000 in
theorem rprint_21 (i wd d : Nat) (t : Int) (M A D T : List UInt8) (w : World) (hi : i < 12) (hwd : wd < 8) (hM : (#[Value.string ⟨#[74, 97, 110]⟩, Value.string ⟨#[70, 101, 98]⟩, Value.string ⟨#[77, 97, 114]⟩, Value.string ⟨#[65, 112, 114]⟩, Value.string ⟨#[77, 97, 121]⟩, Value.string ⟨#[74, 117, 110]⟩, Value.string ⟨#[74, 117, 108]⟩, Value.string ⟨#[65, 117, 103]⟩, Value.string ⟨#[83, 101, 112]⟩, Value.string ⟨#[79, 99, 116]⟩, Value.string ⟨#[78, 111, 118]⟩, Value.string ⟨#[68, 101, 99]⟩] : Array Value)[i]? = some (.string ⟨M.toArray⟩)) (hA : (#[Value.string ⟨#[]⟩, Value.string ⟨#[77, 111, 110]⟩, Value.string ⟨#[84, 117, 101]⟩, Value.string ⟨#[87, 101, 100]⟩, Value.string ⟨#[84, 104, 117]⟩, Value.string ⟨#[70, 114, 105]⟩, Value.string ⟨#[83, 97, 116]⟩, Value.string ⟨#[83, 117, 110]⟩] : Array Value)[wd]? = some (.string ⟨A.toArray⟩))
 (H1 : ∀ w, Rets Tryz.prog 106 #[.int .i64 d] w (.string ⟨D.toArray⟩)) (H2 : ∀ w, Rets Tryz.prog 67 #[.int .i64 t] w (.string ⟨T.toArray⟩))
 (lM : M.length = 3) (lA : A.length ≤ 3) (lD : D.length ≤ 19) (lT : T.length ≤ 21) :
 TextsOf 105 #[spotA (i + 1 : Nat) 2 wd d t 1] w [M, A ++ [62, 61] ++ D, T ++ [115]] 3 := by
 have H1 := fun w => Lib.hid (H1 w)
 have H2 := fun w => Lib.hid (H2 w)
 have i1 : (i : Int) < 12 := by omega
 have i2 : ((i + 1 : Nat) : Int) - 1 = i := by omega
 have w1 : (wd : Int) < 8 := by omega
 unfold TextsOf
 go_enter Tryz.func105, Tryz.ntmps105
 go_upto_region 3 with (fail)
 generalize hW : ((w.alloc _).alloc _).alloc _ = W
 obtain ⟨c1, c2, c3, -, hz, hx⟩ := three_cells hW
 have f0 := c1 0 _ rfl
 have f1 := c1 1 _ rfl
 have f2 := c1 2 _ rfl
 have f3 := c1 3 _ rfl
 have f4 := c1 4 _ rfl
 have f5 := c1 5 _ rfl
 have g1 := c2 _ _ hM
 have g2 := c3 _ _ hA
 haveI : InW w.heap.size W := ⟨by omega⟩
 haveI : InW (w.heap.size + 1) W := ⟨by omega⟩
 haveI : InW (w.heap.size + 1 + 1) W := ⟨by omega⟩
 haveI : ExtC w W := ⟨hx⟩
 have hf := fun (y : Past w) => reads_new y.x
 clear hW c1 c2 c3 hM hA
 go_wp2_with (first | (go_at_call 106; refine Rets.use (H1 _).out ?_; intro _) | (go_at_call 67; refine Rets.use (H2 _).out ?_; intro _))
 refine wp_region_past (by kernel_rfl) (by kernel_rfl) ?_
 repeat (go_big_quiet_step ((go_at_call 106; exact Rets.quiet (H1 _).out)))
 refine wpQuiet_nil ?_
 intro _
 go_wp2_with (first | (go_at_call 106; refine Rets.use (H1 _).out ?_; intro _) | (go_at_call 67; refine Rets.use (H2 _).out ?_; intro _))
 go_ret
 exact texts_close _ _ _ _ rfl (by omega) (by simp only [strs, List.map, app_lit, List.cons_append, List.nil_append, List.append_assoc])
set_option maxRecDepth 100000 in
set_option maxHeartbeats 4000000 in
theorem rprint_22 (i wd d : Nat) (t : Int) (M A D T : List UInt8) (w : World) (hi : i < 12) (hwd : wd < 8) (hM : (#[Value.string ⟨#[74, 97, 110]⟩, Value.string ⟨#[70, 101, 98]⟩, Value.string ⟨#[77, 97, 114]⟩, Value.string ⟨#[65, 112, 114]⟩, Value.string ⟨#[77, 97, 121]⟩, Value.string ⟨#[74, 117, 110]⟩, Value.string ⟨#[74, 117, 108]⟩, Value.string ⟨#[65, 117, 103]⟩, Value.string ⟨#[83, 101, 112]⟩, Value.string ⟨#[79, 99, 116]⟩, Value.string ⟨#[78, 111, 118]⟩, Value.string ⟨#[68, 101, 99]⟩] : Array Value)[i]? = some (.string ⟨M.toArray⟩)) (hA : (#[Value.string ⟨#[]⟩, Value.string ⟨#[77, 111, 110]⟩, Value.string ⟨#[84, 117, 101]⟩, Value.string ⟨#[87, 101, 100]⟩, Value.string ⟨#[84, 104, 117]⟩, Value.string ⟨#[70, 114, 105]⟩, Value.string ⟨#[83, 97, 116]⟩, Value.string ⟨#[83, 117, 110]⟩] : Array Value)[wd]? = some (.string ⟨A.toArray⟩))
 (H1 : ∀ w, Rets Tryz.prog 106 #[.int .i64 d] w (.string ⟨D.toArray⟩)) (H2 : ∀ w, Rets Tryz.prog 67 #[.int .i64 t] w (.string ⟨T.toArray⟩))
 (lM : M.length = 3) (lA : A.length ≤ 3) (lD : D.length ≤ 19) (lT : T.length ≤ 21) :
 TextsOf 105 #[spotA (i + 1 : Nat) 2 wd d t 2] w [M, A ++ [62, 61] ++ D, T ++ [117]] 3 := by
 have H1 := fun w => Lib.hid (H1 w)
 have H2 := fun w => Lib.hid (H2 w)
 have i1 : (i : Int) < 12 := by omega
 have i2 : ((i + 1 : Nat) : Int) - 1 = i := by omega
 have w1 : (wd : Int) < 8 := by omega
 unfold TextsOf
 go_enter Tryz.func105, Tryz.ntmps105
 go_upto_region 3 with (fail)
 generalize hW : ((w.alloc _).alloc _).alloc _ = W
 obtain ⟨c1, c2, c3, -, hz, hx⟩ := three_cells hW
 have f0 := c1 0 _ rfl
 have f1 := c1 1 _ rfl
 have f2 := c1 2 _ rfl
 have f3 := c1 3 _ rfl
 have f4 := c1 4 _ rfl
 have f5 := c1 5 _ rfl
 have g1 := c2 _ _ hM
 have g2 := c3 _ _ hA
 haveI : InW w.heap.size W := ⟨by omega⟩
 haveI : InW (w.heap.size + 1) W := ⟨by omega⟩
 haveI : InW (w.heap.size + 1 + 1) W := ⟨by omega⟩
 haveI : ExtC w W := ⟨hx⟩
 have hf := fun (y : Past w) => reads_new y.x
 clear hW c1 c2 c3 hM hA
 go_wp2_with (first | (go_at_call 106; refine Rets.use (H1 _).out ?_; intro _) | (go_at_call 67; refine Rets.use (H2 _).out ?_; intro _))
 refine wp_region_past (by kernel_rfl) (by kernel_rfl) ?_
 repeat (go_big_quiet_step ((go_at_call 106; exact Rets.quiet (H1 _).out)))
 refine wpQuiet_nil ?_
 intro _
 go_wp2_with (first | (go_at_call 106; refine Rets.use (H1 _).out ?_; intro _) | (go_at_call 67; refine Rets.use (H2 _).out ?_; intro _))
 go_ret
 exact texts_close _ _ _ _ rfl (by omega) (by simp only [strs, List.map, app_lit, List.cons_append, List.nil_append, List.append_assoc])
set_option maxRecDepth 100000 in
set_option maxHeartbeats 4000000 in
theorem rprint_30 (i wd d : Nat) (t : Int) (M A D T : List UInt8) (w : World) (hi : i < 12) (hwd : wd < 8) (hM : (#[Value.string ⟨#[74, 97, 110]⟩, Value.string ⟨#[70, 101, 98]⟩, Value.string ⟨#[77, 97, 114]⟩, Value.string ⟨#[65, 112, 114]⟩, Value.string ⟨#[77, 97, 121]⟩, Value.string ⟨#[74, 117, 110]⟩, Value.string ⟨#[74, 117, 108]⟩, Value.string ⟨#[65, 117, 103]⟩, Value.string ⟨#[83, 101, 112]⟩, Value.string ⟨#[79, 99, 116]⟩, Value.string ⟨#[78, 111, 118]⟩, Value.string ⟨#[68, 101, 99]⟩] : Array Value)[i]? = some (.string ⟨M.toArray⟩)) (hA : (#[Value.string ⟨#[]⟩, Value.string ⟨#[77, 111, 110]⟩, Value.string ⟨#[84, 117, 101]⟩, Value.string ⟨#[87, 101, 100]⟩, Value.string ⟨#[84, 104, 117]⟩, Value.string ⟨#[70, 114, 105]⟩, Value.string ⟨#[83, 97, 116]⟩, Value.string ⟨#[83, 117, 110]⟩] : Array Value)[wd]? = some (.string ⟨A.toArray⟩))
 (H1 : ∀ w, Rets Tryz.prog 106 #[.int .i64 d] w (.string ⟨D.toArray⟩)) (H2 : ∀ w, Rets Tryz.prog 67 #[.int .i64 t] w (.string ⟨T.toArray⟩))
 (lM : M.length = 3) (lA : A.length ≤ 3) (lD : D.length ≤ 19) (lT : T.length ≤ 21) :
 TextsOf 105 #[spotA (i + 1 : Nat) 3 wd d t 0] w [M, A ++ [60, 61] ++ D, T] 3 := by
 have H1 := fun w => Lib.hid (H1 w)
 have H2 := fun w => Lib.hid (H2 w)
 have i1 : (i : Int) < 12 := by omega
 have i2 : ((i + 1 : Nat) : Int) - 1 = i := by omega
 have w1 : (wd : Int) < 8 := by omega
 unfold TextsOf
 go_enter Tryz.func105, Tryz.ntmps105
 go_upto_region 3 with (fail)
 generalize hW : ((w.alloc _).alloc _).alloc _ = W
 obtain ⟨c1, c2, c3, -, hz, hx⟩ := three_cells hW
 have f0 := c1 0 _ rfl
 have f1 := c1 1 _ rfl
 have f2 := c1 2 _ rfl
 have f3 := c1 3 _ rfl
 have f4 := c1 4 _ rfl
 have f5 := c1 5 _ rfl
 have g1 := c2 _ _ hM
 have g2 := c3 _ _ hA
 haveI : InW w.heap.size W := ⟨by omega⟩
 haveI : InW (w.heap.size + 1) W := ⟨by omega⟩
 haveI : InW (w.heap.size + 1 + 1) W := ⟨by omega⟩
 haveI : ExtC w W := ⟨hx⟩
 have hf := fun (y : Past w) => reads_new y.x
 clear hW c1 c2 c3 hM hA
 go_wp2_with (first | (go_at_call 106; refine Rets.use (H1 _).out ?_; intro _) | (go_at_call 67; refine Rets.use (H2 _).out ?_; intro _))
 refine wp_region_past (by kernel_rfl) (by kernel_rfl) ?_
 repeat (go_big_quiet_step ((go_at_call 106; exact Rets.quiet (H1 _).out)))
 refine wpQuiet_nil ?_
 intro _
 go_wp2_with (first | (go_at_call 106; refine Rets.use (H1 _).out ?_; intro _) | (go_at_call 67; refine Rets.use (H2 _).out ?_; intro _))
 go_ret
 exact texts_close _ _ _ _ rfl (by omega) (by simp only [strs, List.map, app_lit, List.cons_append, List.nil_append, List.append_assoc])
set_option maxRecDepth 100000 in
set_option maxHeartbeats 4000000 in
theorem rprint_31 (i wd d : Nat) (t : Int) (M A D T : List UInt8) (w : World) (hi : i < 12) (hwd : wd < 8) (hM : (#[Value.string ⟨#[74, 97, 110]⟩, Value.string ⟨#[70, 101, 98]⟩, Value.string ⟨#[77, 97, 114]⟩, Value.string ⟨#[65, 112, 114]⟩, Value.string ⟨#[77, 97, 121]⟩, Value.string ⟨#[74, 117, 110]⟩, Value.string ⟨#[74, 117, 108]⟩, Value.string ⟨#[65, 117, 103]⟩, Value.string ⟨#[83, 101, 112]⟩, Value.string ⟨#[79, 99, 116]⟩, Value.string ⟨#[78, 111, 118]⟩, Value.string ⟨#[68, 101, 99]⟩] : Array Value)[i]? = some (.string ⟨M.toArray⟩)) (hA : (#[Value.string ⟨#[]⟩, Value.string ⟨#[77, 111, 110]⟩, Value.string ⟨#[84, 117, 101]⟩, Value.string ⟨#[87, 101, 100]⟩, Value.string ⟨#[84, 104, 117]⟩, Value.string ⟨#[70, 114, 105]⟩, Value.string ⟨#[83, 97, 116]⟩, Value.string ⟨#[83, 117, 110]⟩] : Array Value)[wd]? = some (.string ⟨A.toArray⟩))
 (H1 : ∀ w, Rets Tryz.prog 106 #[.int .i64 d] w (.string ⟨D.toArray⟩)) (H2 : ∀ w, Rets Tryz.prog 67 #[.int .i64 t] w (.string ⟨T.toArray⟩))
 (lM : M.length = 3) (lA : A.length ≤ 3) (lD : D.length ≤ 19) (lT : T.length ≤ 21) :
 TextsOf 105 #[spotA (i + 1 : Nat) 3 wd d t 1] w [M, A ++ [60, 61] ++ D, T ++ [115]] 3 := by
 have H1 := fun w => Lib.hid (H1 w)
 have H2 := fun w => Lib.hid (H2 w)
 have i1 : (i : Int) < 12 := by omega
 have i2 : ((i + 1 : Nat) : Int) - 1 = i := by omega
 have w1 : (wd : Int) < 8 := by omega
 unfold TextsOf
 go_enter Tryz.func105, Tryz.ntmps105
 go_upto_region 3 with (fail)
 generalize hW : ((w.alloc _).alloc _).alloc _ = W
 obtain ⟨c1, c2, c3, -, hz, hx⟩ := three_cells hW
 have f0 := c1 0 _ rfl
 have f1 := c1 1 _ rfl
 have f2 := c1 2 _ rfl
 have f3 := c1 3 _ rfl
 have f4 := c1 4 _ rfl
 have f5 := c1 5 _ rfl
 have g1 := c2 _ _ hM
 have g2 := c3 _ _ hA
 haveI : InW w.heap.size W := ⟨by omega⟩
 haveI : InW (w.heap.size + 1) W := ⟨by omega⟩
 haveI : InW (w.heap.size + 1 + 1) W := ⟨by omega⟩
 haveI : ExtC w W := ⟨hx⟩
 have hf := fun (y : Past w) => reads_new y.x
 clear hW c1 c2 c3 hM hA
 go_wp2_with (first | (go_at_call 106; refine Rets.use (H1 _).out ?_; intro _) | (go_at_call 67; refine Rets.use (H2 _).out ?_; intro _))
 refine wp_region_past (by kernel_rfl) (by kernel_rfl) ?_
 repeat (go_big_quiet_step ((go_at_call 106; exact Rets.quiet (H1 _).out)))
 refine wpQuiet_nil ?_
 intro _
 go_wp2_with (first | (go_at_call 106; refine Rets.use (H1 _).out ?_; intro _) | (go_at_call 67; refine Rets.use (H2 _).out ?_; intro _))
 go_ret
 exact texts_close _ _ _ _ rfl (by omega) (by simp only [strs, List.map, app_lit, List.cons_append, List.nil_append, List.append_assoc])
set_option maxRecDepth 100000 in
set_option maxHeartbeats 4000000 in
theorem rprint_32 (i wd d : Nat) (t : Int) (M A D T : List UInt8) (w : World) (hi : i < 12) (hwd : wd < 8) (hM : (#[Value.string ⟨#[74, 97, 110]⟩, Value.string ⟨#[70, 101, 98]⟩, Value.string ⟨#[77, 97, 114]⟩, Value.string ⟨#[65, 112, 114]⟩, Value.string ⟨#[77, 97, 121]⟩, Value.string ⟨#[74, 117, 110]⟩, Value.string ⟨#[74, 117, 108]⟩, Value.string ⟨#[65, 117, 103]⟩, Value.string ⟨#[83, 101, 112]⟩, Value.string ⟨#[79, 99, 116]⟩, Value.string ⟨#[78, 111, 118]⟩, Value.string ⟨#[68, 101, 99]⟩] : Array Value)[i]? = some (.string ⟨M.toArray⟩)) (hA : (#[Value.string ⟨#[]⟩, Value.string ⟨#[77, 111, 110]⟩, Value.string ⟨#[84, 117, 101]⟩, Value.string ⟨#[87, 101, 100]⟩, Value.string ⟨#[84, 104, 117]⟩, Value.string ⟨#[70, 114, 105]⟩, Value.string ⟨#[83, 97, 116]⟩, Value.string ⟨#[83, 117, 110]⟩] : Array Value)[wd]? = some (.string ⟨A.toArray⟩))
 (H1 : ∀ w, Rets Tryz.prog 106 #[.int .i64 d] w (.string ⟨D.toArray⟩)) (H2 : ∀ w, Rets Tryz.prog 67 #[.int .i64 t] w (.string ⟨T.toArray⟩))
 (lM : M.length = 3) (lA : A.length ≤ 3) (lD : D.length ≤ 19) (lT : T.length ≤ 21) :
 TextsOf 105 #[spotA (i + 1 : Nat) 3 wd d t 2] w [M, A ++ [60, 61] ++ D, T ++ [117]] 3 := by
 have H1 := fun w => Lib.hid (H1 w)
 have H2 := fun w => Lib.hid (H2 w)
 have i1 : (i : Int) < 12 := by omega
 have i2 : ((i + 1 : Nat) : Int) - 1 = i := by omega
 have w1 : (wd : Int) < 8 := by omega
 unfold TextsOf
 go_enter Tryz.func105, Tryz.ntmps105
 go_upto_region 3 with (fail)
 generalize hW : ((w.alloc _).alloc _).alloc _ = W
 obtain ⟨c1, c2, c3, -, hz, hx⟩ := three_cells hW
 have f0 := c1 0 _ rfl
 have f1 := c1 1 _ rfl
 have f2 := c1 2 _ rfl
 have f3 := c1 3 _ rfl
 have f4 := c1 4 _ rfl
 have f5 := c1 5 _ rfl
 have g1 := c2 _ _ hM
 have g2 := c3 _ _ hA
 haveI : InW w.heap.size W := ⟨by omega⟩
 haveI : InW (w.heap.size + 1) W := ⟨by omega⟩
 haveI : InW (w.heap.size + 1 + 1) W := ⟨by omega⟩
 haveI : ExtC w W := ⟨hx⟩
 have hf := fun (y : Past w) => reads_new y.x
 clear hW c1 c2 c3 hM hA
 go_wp2_with (first | (go_at_call 106; refine Rets.use (H1 _).out ?_; intro _) | (go_at_call 67; refine Rets.use (H2 _).out ?_; intro _))
 refine wp_region_past (by kernel_rfl) (by kernel_rfl) ?_
 repeat (go_big_quiet_step ((go_at_call 106; exact Rets.quiet (H1 _).out)))
 refine wpQuiet_nil ?_
 intro _
 go_wp2_with (first | (go_at_call 106; refine Rets.use (H1 _).out ?_; intro _) | (go_at_call 67; refine Rets.use (H2 _).out ?_; intro _))
 go_ret
 exact texts_close _ _ _ _ rfl (by omega) (by simp only [strs, List.map, app_lit, List.cons_append, List.nil_append, List.append_assoc])
theorem rprint_any (m k wd d r : Nat) (t : Int) (w : World) (m1 : 1 ≤ m) (m2 : m ≤ 12) (hk : k ≤ 3) (hwd : wd < 8) (hd : d ≤ 31) (t1 : -604799 ≤ t) (t2 : t ≤ 604799) (hr : r ≤ 2) (h0 : k = 0 → wd = 0) :
 TextsOf 105 #[spotA m k wd d t r] w (Mom.printD m k wd d t r) 3 := by
 obtain ⟨i, rfl⟩ : ∃ i, m = i + 1 := ⟨m - 1, by omega⟩
 have hM := rmonths_at i (by omega)
 have hA := rwds_at wd hwd
 have H1 := fun w => rdigits_any d (by omega) w
 have H2 := fun w => rtime_any t (by omega) w
 have lM := short_len i (by omega)
 have lA := wdD_len wd hwd
 have lD : (Mom.dec d).length ≤ 19 := Nat.le_trans (Mom.dec_len 2 d (by omega) (by omega)) (by omega)
 have lT := timeD_len t1 t2
 unfold Mom.printD Mom.dayD Mom.refD
 rw [show i + 1 - 1 = i from rfl]
 obtain rfl | rfl | rfl | rfl : k = 0 ∨ k = 1 ∨ k = 2 ∨ k = 3 := by omega
 all_goals obtain rfl | rfl | rfl : r = 0 ∨ r = 1 ∨ r = 2 := by omega
 all_goals simp only [if_true, if_false, show ¬ (1 : Nat) = 0 by omega, show ¬ (2 : Nat) = 0 by omega, show ¬ (3 : Nat) = 0 by omega, show ¬ (2 : Nat) = 1 by omega, show ¬ (3 : Nat) = 1 by omega, show ¬ (3 : Nat) = 2 by omega, show ¬ (0 : Nat) = 1 by omega, show ¬ (0 : Nat) = 2 by omega, List.append_nil]
 · exact rprint_00 i wd d t _ _ _ _ w (by omega) hwd hM hA H1 H2 lM lA lD lT
 · exact rprint_01 i wd d t _ _ _ _ w (by omega) hwd hM hA H1 H2 lM lA lD lT
 · exact rprint_02 i wd d t _ _ _ _ w (by omega) hwd hM hA H1 H2 lM lA lD lT
 · exact rprint_10 i wd d t _ _ _ _ w (by omega) hwd hM hA H1 H2 lM lA lD lT
 · exact rprint_11 i wd d t _ _ _ _ w (by omega) hwd hM hA H1 H2 lM lA lD lT
 · exact rprint_12 i wd d t _ _ _ _ w (by omega) hwd hM hA H1 H2 lM lA lD lT
 · exact rprint_20 i wd d t _ _ _ _ w (by omega) hwd hM hA H1 H2 lM lA lD lT
 · exact rprint_21 i wd d t _ _ _ _ w (by omega) hwd hM hA H1 H2 lM lA lD lT
 · exact rprint_22 i wd d t _ _ _ _ w (by omega) hwd hM hA H1 H2 lM lA lD lT
 · exact rprint_30 i wd d t _ _ _ _ w (by omega) hwd hM hA H1 H2 lM lA lD lT
 · exact rprint_31 i wd d t _ _ _ _ w (by omega) hwd hM hA H1 H2 lM lA lD lT
 · exact rprint_32 i wd d t _ _ _ _ w (by omega) hwd hM hA H1 H2 lM lA lD lT
end Go.Proofs.YtdhbgelijjlifaaGreatDoor
