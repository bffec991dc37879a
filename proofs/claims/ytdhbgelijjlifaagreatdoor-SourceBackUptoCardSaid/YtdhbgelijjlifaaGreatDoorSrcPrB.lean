/- Walks of sources. -/
import Derived.Test.YtdhbgelijjlifaaGreatDoorSrcSupA
import Derived.Test.YtdhbgelijjlifaaGreatDoorSrcTree
import Derived.Test.YtdhbgelijjlifaaGreatDoorMomPlainI
import Derived.Test.YtdhbgelijjlifaaGreatDoorShelf
import Derived.Test.YtdhbgelijjlifaaGreatDoorOwns
import Derived.Test.YtdhbgelijjlifaaGreatDoorMomWalkZH
import Derived.Laws.AppendOwnNone
import Derived.ArgAppend
import Derived.Deep.RegionWith
import Derived.Deep.RegionHeld3
import Derived.Deep.Cut
import Derived.Test.YtdhbgelijjlifaaGreatDoorSrcWalkD
set_option linter.unusedVariables false
set_option linter.unusedSimpArgs false
namespace Go.Proofs.YtdhbgelijjlifaaGreatDoor
open Go
namespace Src
def decI (n : Int) : List UInt8 := Mom.dec n.toNat
def orT (s : ByteArray) : List UInt8 := if s.data.toList = [] then [45] else s.data.toList
def toT (x : Rule) : List UInt8 := if x.b = x.a then [111, 110, 108, 121] else if x.b = 1000000 then [109, 97, 120] else decI x.b
def spotT (m k wd d t r : Int) : List (List UInt8) := Mom.printD m.toNat k.toNat wd.toNat d.toNat t r.toNat
def ruleW (x : Rule) : List (List UInt8) := [[82, 117, 108, 101], x.nm.data.toList, decI x.a, toT x, [45]] ++ spotT x.m x.k x.wd x.d x.t x.r ++ [Mom.timeD x.s, orT x.l]
def eraW (x : Era) : List (List UInt8) := [Mom.timeD x.off, if x.kd = 1 then Mom.timeD x.s else orT x.rs, x.fm.data.toList] ++ (if x.til = true then decI x.y :: spotT x.m x.k x.wd x.d x.t x.r else [])
def linkW (x : Link) : List (List UInt8) := [[76, 105, 110, 107], x.tg.data.toList, x.nm.data.toList]
def lineT (l : List (List UInt8)) : List UInt8 := Lib.join l [32] ++ [10]
def zoneT (z : Zone) : List UInt8 := [90, 111, 110, 101, 32] ++ z.nm.data.toList ++ [32] ++ (z.es.map fun x => lineT (eraW x)).flatten
def textL (S : Source) : List UInt8 := (S.rules.map fun x => lineT (ruleW x)).flatten ++ (S.zones.map zoneT).flatten ++ (S.links.map fun x => lineT (linkW x)).flatten
def printP (S : Source) : List UInt8 × Int := if srcB S = false then ([], 1) else if 100000 < (textL S).length then ([], 12) else (textL S, 0)
end Src
end Go.Proofs.YtdhbgelijjlifaaGreatDoor

set_option linter.unusedVariables false
set_option linter.unusedSimpArgs false
namespace Go.Proofs.YtdhbgelijjlifaaGreatDoor
open Go.RowKit Go.Shelf
theorem write_str (B b : Nat) (bs : List Value) (s : ByteArray) (w : World) (h : Lib.IsBuilderF 73 5 B b bs w) (hlen : bs.length + s.size ≤ 140737488355328) (hBw : B ≤ w.heap.size) :
 Calls Tryz.prog 36 #[.pointer (some ⟨b, 0, none⟩), .string s] w fun e w' => e = .returned (.tuple #[.int .i64 s.size, .nilIface]) ∧ (Lib.BuilderAtF 73 5 B b (.pointer (some ⟨b, 0, none⟩)) (bs ++ Lib.strCells s) w' ∧ Below B w w' ∧ Lib.OthersKept 5 (some b) w w') :=
 Any.Builder_WriteString_k { Tryz.lays156 with } Tryz.Builder_Extra_156 B b bs s w h hlen hBw
theorem at_ext {T e : TypeId} {B b : Nat} {p : Value} {bs : List Value} {w w' : World} (h : Lib.BuilderAtF T e B b p bs w) (hx : Ext w w') : Lib.BuilderAtF T e B b p bs w' := by
 have hl := h.lt
 obtain ⟨hB, v, hb, hown, hne⟩ := h
 exact ⟨hB, v, (hx.block b hl).trans hb, hown.kept (grown_of_ext hx) (by cases hv : v.ownBlock <;> simp), hne⟩
theorem isb_ext {T e : TypeId} {B b : Nat} {bs : List Value} {w w' : World} (h : Lib.IsBuilderF T e B b bs w) (hx : Ext w w') : Lib.IsBuilderF T e B b bs w' := by
 rcases h with h | h
 · exact .inl (at_ext h hx)
 · exact .inr (at_ext h hx)
theorem digits_dec : ∀ n : Nat, Lib.decDigits n = Mom.dec n := by
 intro n
 induction n using Nat.strongRecOn with
 | _ n ih =>
   rw [Lib.decDigits]
   by_cases h : n < 10
   · rw [dif_pos h, Mom.dec_small h]
     unfold Mom.dig
     rw [Nat.mod_eq_of_lt h]
   · rw [dif_neg h, Mom.dec_big h, ih _ (by omega)]; rfl
def TabW (w : World) : Prop := Lib.TabIs Tryz.prog w "internal/strconv.uint64pow10" .u64 Lib.pow10Tab
theorem TabW.ext {w w' : World} (h : TabW w) (hx : Ext w w') : TabW w' := by
 unfold TabW Lib.TabIs World.var? at *
 cases hg : Tryz.prog.globalNamed "internal/strconv.uint64pow10" with
 | none => rw [hg] at h; simp at h
 | some g =>
   rw [hg] at h
   simp only [Option.bind_some] at h ⊢
   have hl : g < w.heap.size := by
    rcases Nat.lt_or_ge g w.heap.size with h' | h'
    · exact h'
    · rw [Array.getElem?_eq_none h'] at h; simp at h
   rw [hx.block g hl]; exact h
theorem ext_grow (w : World) (k : Nat) (os : Array Obj) : Ext w (Go.Sort.grow (w.drewN k) os) :=
 ⟨rfl, rfl, rfl, by show w.heap.size ≤ (w.heap ++ os).size; rw [Array.size_append]; omega, fun i hi => Array.getElem?_append_left hi⟩
theorem itoa_any (n : Int) (h0 : 0 ≤ n) (h1 : n ≤ 9223372036854775807) (w : World) (hT : TabW w) : Rets Tryz.prog 60 #[.int .i64 n] w (.string ⟨(Src.decI n).toArray⟩) :=
 (Tryz.strconv_Itoa n (by omega) h1 w hT).mono fun e w' ⟨h1, k, os, h2⟩ => ⟨by rw [h1]; unfold Lib.itoa Src.decI; rw [if_neg (by omega), digits_dec], by
   subst h2
   exact ⟨⟨_, ext_grow w k os⟩, rfl⟩⟩
theorem sor_any (s t : ByteArray) (w : World) : Rets Tryz.prog 63 #[.string s, .string t] w (.string (if s.data.toList = [] then t else s)) := by
 by_cases h : s.data.toList = []
 · rw [if_pos h]
   have : s = ⟨#[]⟩ := by apply ByteArray.ext; simpa using h
   subst this
   go_enter Tryz.func63, Tryz.ntmps63
   go_wp2
   go_ret
   exact ⟨rfl, done⟩
 · rw [if_neg h]
   have hne : s.toList.isEmpty = false := by
    rw [Lib.toList_data]
    cases hc : s.data.toList with
    | nil => exact absurd hc h
    | cons c r => rfl
   go_enter Tryz.func63, Tryz.ntmps63
   go_wp2
   go_ret
   exact ⟨rfl, done⟩
theorem line_any (l : List (List UInt8)) (v : Value) (n : Nat) (hn : l.length = n) (h0 : 1 ≤ n) (h9 : n ≤ 1000) (w : World) (hr : Reads w v n (strs l)) (hsz : (Lib.join l [32]).length ≤ 1000000) :
 Rets Tryz.prog 39 #[v] w (.string ⟨(Src.lineT l).toArray⟩) := by
 rcases hr with ⟨_, _, rfl, h1, _⟩ | ⟨b, o, c, rfl, k1, k2, m1, hc⟩
 · omega
 have J := fun w' (hx : Ext w w') => Tryz.strings_Join b o c (l.map fun s => (⟨s.toArray⟩ : ByteArray)) ⟨#[32]⟩ w' (fun j x hj => by
  have := hc j (.string x) (by rw [strs]; simp at hj ⊢; obtain ⟨a, h2, h3⟩ := hj; exact ⟨a, h2, by rw [← h3]⟩)
  exact (Below.cell (p := ⟨b, o + j, none⟩) hx m1).trans this) (Nat.lt_of_lt_of_le m1 (Below.size hx)) (by rw [List.length_map, hn]; unfold maxLen at k2; omega) (by rw [List.length_map, hn]; exact k1) (by simp [List.map_map, Function.comp_def]; omega)
 simp only [List.map_map, Function.comp_def, List.length_map, hn] at J
 rw [List.map_congr_left (g := id) (fun a _ => by simp), List.map_id] at J
 unfold Src.lineT
 generalize Lib.join l [32] = L at *
 go_enter Tryz.func39, Tryz.ntmps39
 go_wp2_with (go_at_call 64; refine (J _ isext).mono ?_; rintro e w' ⟨rfl, hb⟩)
 obtain ⟨y, rfl⟩ := fin (show Ext w w' from hb)
 go_ret
 exact ⟨by rw [show (⟨L.toArray⟩ : ByteArray) ++ ⟨#[10]⟩ = ⟨(L ++ [10]).toArray⟩ from app_lit L [10]]; rfl, done⟩
end Go.Proofs.YtdhbgelijjlifaaGreatDoor

set_option linter.unusedVariables false
set_option linter.unusedSimpArgs false
namespace Go.Proofs.YtdhbgelijjlifaaGreatDoor
open Go Go.RowKit
def SrcRow (w : World) (xv : Value) (m : Nat) (news : List Value) : Prop :=
 (∃ c, xv = .slice none 0 c ∧ m = 0 ∧ news = []) ∨ ∃ ad c, xv = .slice (some ad) m c ∧ ∀ j u, news[j]? = some u → w.cell? (ad.add j) = some u
theorem run_append_nothing {P : Program} {w : World} (base : Nat) (t ty e : TypeId) (i : TypeInfo) (size : Nat) (ht : P.underlying t = some (.slice e)) (hi : P.info? e = some i)
 (v : Value) (n : Nat) (xs : List Value) (hown : w.ownsRow base e size v n xs) (c : Nat) :
 (Builtin.append_ #[t, t] ty #[v, .slice none 0 c]).run P w = .ok v w := by
 rcases hown.2 with ⟨rfl, rfl⟩ | ⟨g, cap, cur, rfl, _, _, hnc, _⟩
 · simp [Builtin.append_, run_underlying ht, sizeOf, typeInfo, hi, Builtin.lenOf, Builtin.firstCells]
 · simp [Builtin.append_, run_underlying ht, sizeOf, typeInfo, hi, Builtin.lenOf, Builtin.firstCells, hnc, storeCells]
theorem wpList_append_src {P : Program} (w : World) {ops : Array Oper} {rest : List Oper} {o : Oper} {a : Act} {Q : Exit → Act → World → Prop} (hgd : o.guard = none) (s x : Operand) (t : TypeId)
 (ho : o.op = .call { callee := .builtin .append, args := #[s, x], argTypes := #[t, t] })
 (base : Nat) (e : TypeId) (i : TypeInfo) (z : Value) (size bytes : Nat) (ht : P.underlying t = some (.slice e)) (hi : P.info? e = some i) (hz : i.zero = some z)
 (hsize : i.size = size) (hby : i.bytes = bytes) (hzs : z.cells.size = size) (hsz : 0 < size)
 (v : Value) (n : Nat) (xs : List Value) (hs : a.eval s = v) (hown : w.ownsRow base e size v n xs)
 (xv : Value) (m : Nat) (news : List Value) (hx : a.eval x = xv) (hsrc : SrcRow w xv m news) (hl : news.length = m * size) (h1 : ∀ u ∈ news, u.oneCell' = true)
 (h63 : n + m ≤ maxLen) (hbytes : (n + m) * bytes ≤ 140737488355328) (hbase : base ≤ w.heap.size)
 (h : ∀ v' w', w'.ownsRow base e size v' (n + m) (xs ++ news) → w.grownBy w' v.ownBlock → wpList P ops Q rest (a.put o.dst v') w') : wpList P ops Q (o :: rest) a w := by
 rcases hsrc with ⟨c, rfl, rfl, rfl⟩ | ⟨ad, c, rfl, hc⟩
 · refine wpList_plain hgd fun K hK => ?_
   have hrun := run_append_nothing (P := P) (w := w) base t o.type e i size ht hi v n xs hown c
   unfold Oper.wp
   simp [execOp, ho, resolve, invoke, builtin, hs, hx, hrun, Result.andThen]
   exact hK _ _ (h v w (by simpa using hown) ⟨rfl, rfl, rfl, Nat.le_refl _, fun k hk _ => rfl⟩)
 · exact wpList_append_own w hgd s x t ho base e i z size bytes ht hi hz hsize hby hzs hsz v n xs hs hown ad m c news hx hl hc h1 h63 hbytes hbase (fun v' w' h2 h3 _ => h v' w' h2 h3)
theorem add_lit0 (g o j : Nat) : (⟨g, o, none⟩ : Addr).add j = ⟨g, o + j, none⟩ := by unfold Addr.add; split <;> simp_all
theorem src_reads {w : World} {v : Value} {k : Nat} {cs : List Value} (h : Reads w v k cs) : SrcRow w v k cs := by
 rcases h with ⟨a, c, rfl, rfl, rfl⟩ | ⟨b, o, c, rfl, _, _, _, hc⟩
 · cases a with
   | none => exact .inl ⟨c, rfl, rfl, rfl⟩
   | some ad => exact .inr ⟨ad, c, rfl, fun j u hu => by simp at hu⟩
 · exact .inr ⟨_, _, rfl, fun j u hu => by rw [add_lit0]; exact hc j u hu⟩
end Go.Proofs.YtdhbgelijjlifaaGreatDoor

set_option linter.unusedVariables false
set_option linter.unusedSimpArgs false
namespace Go.Proofs.YtdhbgelijjlifaaGreatDoor
open Go.RowKit Go.Shelf
theorem reads_vals (W : World) (l : List Value) (t : TypeId) (n : Nat) (hn : l.length = n) (h : n ≤ 1000) : Reads (W.alloc (.cells l.toArray t)) (.slice (some ⟨W.heap.size, 0, none⟩) n n) n l := by
 refine .inr ⟨_, 0, n, rfl, Nat.le_refl _, by unfold maxLen; omega, by simp, fun i u hu => ?_⟩
 have := new_cells W l t i u hu
 rw [show (⟨W.heap.size, 0, none⟩ : Addr).add i = ⟨W.heap.size, 0 + i, none⟩ by unfold Addr.add; split <;> simp_all] at this
 exact this
theorem wpList_append_one {P : Program} (w : World) {ops : Array Oper} {rest : List Oper} {o : Oper} {a : Act} {Q : Exit → Act → World → Prop} (hgd : o.guard = none) (s x : Operand) (t : TypeId)
 (ho : o.op = .call { callee := .builtin .append, args := #[s, x], argTypes := #[t, t] })
 (e : TypeId) (i : TypeInfo) (z : Value) (size bytes : Nat) (ht : P.underlying t = some (.slice e)) (hi : P.info? e = some i) (hz : i.zero = some z)
 (hsize : i.size = size) (hby : i.bytes = bytes) (hzs : z.cells.size = size) (hsz : 0 < size)
 (b n : Nat) (olds : List Value) (hs : a.eval s = .slice (some ⟨b, 0, none⟩) n n) (hlo : olds.length = n * size) (hr : Reads w (.slice (some ⟨b, 0, none⟩) n n) n olds) (h0 : 1 ≤ n)
 (ad : Addr) (m c : Nat) (news : List Value) (hx : a.eval x = .slice (some ad) m c) (hm : 1 ≤ m) (hc : ∀ j u, news[j]? = some u → w.cell? (ad.add j) = some u) (hl : news.length = m * size) (h1 : ∀ u ∈ news, u.oneCell' = true)
 (h63 : n + m ≤ maxLen) (hbytes : (n + m) * bytes ≤ 140737488355328)
 (h : ∀ v' w', w'.ownsRow w.heap.size e size v' (n + m) (olds ++ news) → Ext w w' → wpList P ops Q rest (a.put o.dst v') w') : wpList P ops Q (o :: rest) a w := by
 have holds : ∀ j u, olds[j]? = some u → w.cell? ⟨b, 0 + j, none⟩ = some u := by
  rcases hr with ⟨_, _, _, h9, _⟩ | ⟨b', o', c', e', k1, k2, m1, hc'⟩
  · omega
  · injection e' with e' _ _
    injection e' with e'
    injection e' with e1 e2 e3
    subst e1; subst e2
    exact hc'
 refine wpList_append_arg w hgd s x t ho e i z size bytes ht hi hz hsize hby hzs hsz b 0 n n olds hs hlo holds ad m c news hx hl hc h1 (fun hr j hj => by omega) h63 hbytes (fun hr => by omega) (fun hr v' w' h2 h3 => ?_)
 exact h _ _ h2 (Below.grown (Ext.refl w) h3 (Nat.le_refl _) (fun k hk => by cases hk))
theorem reads3 {w : World} {v : Value} {a b c : List UInt8} (h : Reads w v 3 (strs [a, b, c])) : ∃ g o n, v = .slice (some ⟨g, o, none⟩) 3 n ∧ 3 ≤ n ∧ n ≤ maxLen ∧ g < w.heap.size ∧ w.cell? ⟨g, o, none⟩ = some (.string ⟨a.toArray⟩) ∧ w.cell? ⟨g, o + 1, none⟩ = some (.string ⟨b.toArray⟩) ∧ w.cell? ⟨g, o + 2, none⟩ = some (.string ⟨c.toArray⟩) := by
 rcases h with ⟨_, _, _, h1, _⟩ | ⟨g, o, n, rfl, k1, k2, m1, hc⟩
 · omega
 · exact ⟨g, o, n, rfl, k1, k2, m1, hc 0 _ rfl, hc 1 _ rfl, hc 2 _ rfl⟩
set_option maxRecDepth 100000 in
set_option maxHeartbeats 16000000 in
theorem rline_gen (nm l : ByteArray) (a b m k wd d t r s : Int) (TA TB TS W0 W1 W2 : List UInt8) (TT : ByteArray) (TL : ByteArray) (OUT : ByteArray) (w : World) (hT : TabW w)
 (hb : (b = a ∧ TT = ⟨#[111, 110, 108, 121]⟩) ∨ ((b == a) = false ∧ b = 1000000 ∧ TT = ⟨#[109, 97, 120]⟩) ∨ ((b == a) = false ∧ (b == 1000000) = false ∧ TT = ⟨TB.toArray⟩))
 (HA : ∀ w, TabW w → Hid (Rets Tryz.prog 60 #[.int .i64 a] w (.string ⟨TA.toArray⟩)))
 (HB : ∀ w, TabW w → Hid (Rets Tryz.prog 60 #[.int .i64 b] w (.string ⟨TB.toArray⟩)))
 (HP : ∀ w, Hid (PrintOf 61 #[spotA m k wd d t r] w [W0, W1, W2] 3))
 (HS : ∀ w, Hid (Rets Tryz.prog 62 #[.int .i64 s] w (.string ⟨TS.toArray⟩)))
 (HO : ∀ w, Hid (Rets Tryz.prog 63 #[.string l, .string ⟨#[45]⟩] w (.string TL)))
 (HL : ∀ w v, Reads w v 10 [.string ⟨#[82, 117, 108, 101]⟩, .string nm, .string ⟨TA.toArray⟩, .string TT, .string ⟨#[45]⟩, .string ⟨W0.toArray⟩, .string ⟨W1.toArray⟩, .string ⟨W2.toArray⟩, .string ⟨TS.toArray⟩, .string TL] → Hid (Rets Tryz.prog 39 #[v] w (.string OUT))) :
 Rets Tryz.prog 37 #[.agg #[.string nm, .int .i64 a, .int .i64 b, .int .i64 m, .int .i64 k, .int .i64 wd, .int .i64 d, .int .i64 t, .int .i64 r, .int .i64 s, .string l]] w (.string OUT) := by
 unfold Rets
 rcases hb with ⟨rfl, rfl⟩ | ⟨n1, rfl, rfl⟩ | ⟨n1, n2, rfl⟩
 all_goals
  go_enter Tryz.func37, Tryz.ntmps37
  go_upto_region 8 with (first | (go_at_call 60; refine Rets.use (HB _ (hT.ext isext)).out ?_; intro y0) | (go_at_call 61; refine (HP _).out.mono ?_; rintro e w' ⟨v, y1, rfl, hr, rfl⟩; obtain ⟨g, o, c, rfl, k1, k2, m1, c0, c1, c2⟩ := reads3 hr; haveI : InW g y1.x := ⟨m1⟩))
  -- REGION8
  refine wp_region_held_drew (S := fun w' => ∃ y : Past y1.x, w' = y.x) (by kernel_rfl) (fin isext) (fun hHeld => ?_)
  refine wpAnyH_take (i := 0) (oi := ⟨some 23, _, _, _, _, _⟩) (v := ?_) rfl (by kernel_rfl) (by kernel_rfl) (by kernel_rfl) (fun _ _ _ h => h) (Or.inl ⟨by rfl, ?_⟩) (by assumption) ?_
  rotate_left
  · rintro w ⟨yS, rfl⟩; go_simp; first | done | with_reducible rfl | rw [if_pos (by omega)] | rw [if_neg (by omega)]
  try simp only [Act.put, putA, putZ, putS]
  refine wpAnyH_take (i := 1) (oi := ⟨some 24, _, _, _, _, _⟩) (v := ?_) rfl (by kernel_rfl) (by kernel_rfl) (by kernel_rfl) (fun _ _ _ h => h) (Or.inl ⟨by rfl, ?_⟩) (by assumption) ?_
  rotate_left
  · rintro w ⟨yS, rfl⟩; go_simp; first | done | with_reducible rfl | rw [if_pos (by omega)] | rw [if_neg (by omega)]
  try simp only [Act.put, putA, putZ, putS]
  refine wpAnyH_take (i := 2) (oi := ⟨some 25, _, _, _, _, _⟩) (v := ?_) rfl (by kernel_rfl) (by kernel_rfl) (by kernel_rfl) (fun _ _ _ h => h) (Or.inl ⟨by rfl, ?_⟩) (by assumption) ?_
  rotate_left
  · rintro w ⟨yS, rfl⟩; go_simp; first | done | with_reducible rfl | rw [if_pos (by omega)] | rw [if_neg (by omega)]
  try simp only [Act.put, putA, putZ, putS]
  refine wpAnyH_take (i := 3) (oi := ⟨some 26, _, _, _, _, _⟩) (v := ?_) rfl (by kernel_rfl) (by kernel_rfl) (by kernel_rfl) (fun _ _ _ h => h) (Or.inl ⟨by rfl, ?_⟩) (by assumption) ?_
  rotate_left
  · rintro w ⟨yS, rfl⟩; go_simp; first | done | with_reducible rfl | rw [if_pos (by omega)] | rw [if_neg (by omega)]
  try simp only [Act.put, putA, putZ, putS]
  refine wpAnyH_take (i := 5) (oi := ⟨some 28, _, _, _, _, _⟩) (v := ?_) rfl (by kernel_rfl) (by kernel_rfl) (by kernel_rfl) (fun _ _ _ h => h) (Or.inl ⟨by rfl, ?_⟩) (by assumption) ?_
  rotate_left
  · rintro w ⟨yS, rfl⟩; go_simp; first | done | with_reducible rfl | rw [if_pos (by omega)] | rw [if_neg (by omega)]
  try simp only [Act.put, putA, putZ, putS]
  refine wpAnyH_take (i := 6) (oi := ⟨some 29, _, _, _, _, _⟩) (v := ?_) rfl (by kernel_rfl) (by kernel_rfl) (by kernel_rfl) (fun _ _ _ h => h) (Or.inl ⟨by rfl, ?_⟩) (by assumption) ?_
  rotate_left
  · rintro w ⟨yS, rfl⟩; go_simp; first | done | with_reducible rfl | rw [if_pos (by omega)] | rw [if_neg (by omega)]
  try simp only [Act.put, putA, putZ, putS]
  refine wpAnyH_take (i := 7) (oi := ⟨some 30, _, _, _, _, _⟩) (v := ?_) rfl (by kernel_rfl) (by kernel_rfl) (by kernel_rfl) (fun _ _ _ h => h) (Or.inl ⟨by rfl, ?_⟩) (by assumption) ?_
  rotate_left
  · rintro w ⟨yS, rfl⟩; go_simp; first | done | with_reducible rfl | rw [if_pos (by omega)] | rw [if_neg (by omega)]
  try simp only [Act.put, putA, putZ, putS]
  refine wpAnyH_take (i := 8) (oi := ⟨some 31, _, _, _, _, _⟩) (v := ?_) rfl (by kernel_rfl) (by kernel_rfl) (by kernel_rfl) (fun _ _ _ h => h) (Or.inl ⟨by rfl, ?_⟩) (by assumption) ?_
  rotate_left
  · rintro w ⟨yS, rfl⟩; go_simp; first | done | with_reducible rfl | rw [if_pos (by omega)] | rw [if_neg (by omega)]
  try simp only [Act.put, putA, putZ, putS]
  refine wpAnyH_take (i := 9) (oi := ⟨some 32, _, _, _, _, _⟩) (v := ?_) rfl (by kernel_rfl) (by kernel_rfl) (by kernel_rfl) (fun _ _ _ h => h) (Or.inl ⟨by rfl, ?_⟩) (by assumption) ?_
  rotate_left
  · rintro w ⟨yS, rfl⟩; go_simp; first | done | with_reducible rfl | rw [if_pos (by omega)] | rw [if_neg (by omega)]
  try simp only [Act.put, putA, putZ, putS]
  refine wpAnyH_take (i := 10) (oi := ⟨some 33, _, _, _, _, _⟩) (v := ?_) rfl (by kernel_rfl) (by kernel_rfl) (by kernel_rfl) (fun _ _ _ h => h) (Or.inl ⟨by rfl, ?_⟩) (by assumption) ?_
  rotate_left
  · rintro w ⟨yS, rfl⟩; go_simp; first | done | with_reducible rfl | rw [if_pos (by omega)] | rw [if_neg (by omega)]
  try simp only [Act.put, putA, putZ, putS]
  refine wpAnyH_take (i := 11) (oi := ⟨some 34, _, _, _, _, _⟩) (v := ?_) rfl (by kernel_rfl) (by kernel_rfl) (by kernel_rfl) (fun _ _ _ h => h) (Or.inl ⟨by rfl, ?_⟩) (by assumption) ?_
  rotate_left
  · rintro w ⟨yS, rfl⟩; go_simp; first | done | with_reducible rfl | rw [if_pos (by omega)] | rw [if_neg (by omega)]
  try simp only [Act.put, putA, putZ, putS]
  refine wpAnyH_take (i := 12) (oi := ⟨some 35, _, _, _, _, _⟩) (v := ?_) rfl (by kernel_rfl) (by kernel_rfl) (by kernel_rfl) (fun _ _ _ h => h) (Or.inl ⟨by rfl, ?_⟩) (by assumption) ?_
  rotate_left
  · rintro w ⟨yS, rfl⟩; go_simp; first | done | with_reducible rfl | rw [if_pos (by omega)] | rw [if_neg (by omega)]
  try simp only [Act.put, putA, putZ, putS]
  refine wpAnyH_take (i := 13) (oi := ⟨some 36, _, _, _, _, _⟩) (v := ?_) rfl (by kernel_rfl) (by kernel_rfl) (by kernel_rfl) (fun _ _ _ h => h) (Or.inl ⟨by rfl, ?_⟩) (by assumption) ?_
  rotate_left
  · rintro w ⟨yS, rfl⟩; go_simp; first | done | with_reducible rfl | rw [if_pos (by omega)] | rw [if_neg (by omega)]
  try simp only [Act.put, putA, putZ, putS]
  refine wpAnyH_take (i := 14) (oi := ⟨some 37, _, _, _, _, _⟩) (v := ?_) rfl (by kernel_rfl) (by kernel_rfl) (by kernel_rfl) (fun _ _ _ h => h) (Or.inl ⟨by rfl, ?_⟩) (by assumption) ?_
  rotate_left
  · rintro w ⟨yS, rfl⟩; go_simp; first | done | with_reducible rfl | rw [if_pos (by omega)] | rw [if_neg (by omega)]
  try simp only [Act.put, putA, putZ, putS]
  refine wpAnyH_take (i := 15) (oi := ⟨some 38, _, _, _, _, _⟩) (v := ?_) rfl (by kernel_rfl) (by kernel_rfl) (by kernel_rfl) (fun _ _ _ h => h) (Or.inl ⟨by rfl, ?_⟩) (by assumption) ?_
  rotate_left
  · rintro w ⟨yS, rfl⟩; go_simp; first | done | with_reducible rfl | rw [if_pos (by omega)] | rw [if_neg (by omega)]
  try simp only [Act.put, putA, putZ, putS]
  refine wpAnyH_take (i := 16) (oi := ⟨some 39, _, _, _, _, _⟩) (v := ?_) rfl (by kernel_rfl) (by kernel_rfl) (by kernel_rfl) (fun _ _ _ h => h) (Or.inl ⟨by rfl, ?_⟩) (by assumption) ?_
  rotate_left
  · rintro w ⟨yS, rfl⟩; go_simp; first | done | with_reducible rfl | rw [if_pos (by omega)] | rw [if_neg (by omega)]
  try simp only [Act.put, putA, putZ, putS]
  refine wpAnyH_take (i := 18) (oi := ⟨some 41, _, _, _, _, _⟩) (v := ?_) rfl (by kernel_rfl) (by kernel_rfl) (by kernel_rfl) (fun _ _ _ h => h) (Or.inl ⟨by rfl, ?_⟩) (by assumption) ?_
  rotate_left
  · rintro w ⟨yS, rfl⟩; go_simp; first | done | with_reducible rfl | rw [if_pos (by omega)] | rw [if_neg (by omega)]
  try simp only [Act.put, putA, putZ, putS]
  refine wpAnyH_take (i := 19) (oi := ⟨some 42, _, _, _, _, _⟩) (v := ?_) rfl (by kernel_rfl) (by kernel_rfl) (by kernel_rfl) (fun _ _ _ h => h) (Or.inl ⟨by rfl, ?_⟩) (by assumption) ?_
  rotate_left
  · rintro w ⟨yS, rfl⟩; go_simp; first | done | with_reducible rfl | rw [if_pos (by omega)] | rw [if_neg (by omega)]
  try simp only [Act.put, putA, putZ, putS]
  refine wpAnyH_ready (rs := [4]) (by kernel_rfl) (by simp) ?_
  refine AllReadyH.cons (o := ⟨some 27, _, _, _, _, _⟩) rfl (fun K hK => ?_) ?_
  · go_simp
    go_at_call 60; refine Rets.use (HA _ (hT.ext isext)).out ?_; intro z0
    refine hK.out _ _ ?_ (fun hHeld => ?_)
    · exact fin isext
    clear hK K
    try simp only [Act.put, putA, putZ, putS]
    refine wpAnyH_ready (rs := [17]) (by kernel_rfl) (by simp) ?_
    refine AllReadyH.cons (o := ⟨some 40, _, _, _, _, _⟩) rfl (fun K hK => ?_) ?_
    · go_simp
      go_at_call 62; refine Rets.use (HS _).out ?_; intro z1
      refine hK.out _ _ ?_ (fun hHeld => ?_)
      · exact fin isext
      clear hK K
      try simp only [Act.put, putA, putZ, putS]
      refine wpAnyH_ready (rs := [20]) (by kernel_rfl) (by simp) ?_
      refine AllReadyH.cons (o := ⟨some 43, _, _, _, _, _⟩) rfl (fun K hK => ?_) ?_
      · go_simp
        go_at_call 63; refine Rets.use (HO _).out ?_; intro z2
        refine hK.out _ _ ?_ (fun hHeld => ?_)
        · exact fin isext
        clear hK K
        try simp only [Act.put, putA, putZ, putS]
        refine wpAnyH_ready (rs := [21]) (by kernel_rfl) (by simp) ?_
        refine AllReadyH.cons (o := ⟨some 44, _, _, _, _, _⟩) rfl (fun K hK => ?_) ?_
        · go_simp
          refine hK.out _ _ ?_ (fun hHeld => ?_)
          · exact fin isext
          clear hK K
          try simp only [Act.put, putA, putZ, putS]
          refine wpAnyH_ready (rs := [22]) (by kernel_rfl) (by simp) ?_
          refine AllReadyH.cons (o := ⟨some 45, _, _, _, _, _⟩) rfl (fun K hK => ?_) ?_
          · go_simp
            go_at_call 39; refine Rets.use (HL _ _ (reads_vals _ _ _ _ rfl (by omega))).out ?_; intro z3
            refine hK.out _ _ ?_ (fun hHeld => ?_)
            · exact fin isext
            clear hK K
            try simp only [Act.put, putA, putZ, putS]
            refine wpAnyH_take (i := 23) (oi := ⟨some 2, _, _, _, _, _⟩) (v := ?_) rfl (by kernel_rfl) (by kernel_rfl) (by kernel_rfl) (fun _ _ _ h => h) (Or.inl ⟨by rfl, ?_⟩) (by assumption) ?_
            rotate_left
            · rintro w ⟨yS, rfl⟩; go_simp; first | done | with_reducible rfl | rw [if_pos (by omega)] | rw [if_neg (by omega)]
            try simp only [Act.put, putA, putZ, putS]
            refine wpAnyH_done (by kernel_rfl) ?_ _
            go_wp2
            go_ret
            exact ⟨rfl, done⟩
          exact AllReadyH.nil
        exact AllReadyH.nil
      exact AllReadyH.nil
    exact AllReadyH.nil
  exact AllReadyH.nil
  -- END8
set_option maxRecDepth 100000 in
set_option maxHeartbeats 16000000 in
theorem eline_til (rs fm : ByteArray) (off kd s y m k wd d t r : Int) (TO TS TY W0 W1 W2 : List UInt8) (R TL OUT : ByteArray) (w : World) (hT : TabW w)
 (hk : (kd = 1 ∧ R = ⟨TS.toArray⟩) ∨ ((kd == 1) = false ∧ R = TL))
 (HT : ∀ w, Hid (Rets Tryz.prog 62 #[.int .i64 off] w (.string ⟨TO.toArray⟩)))
 (HS : ∀ w, Hid (Rets Tryz.prog 62 #[.int .i64 s] w (.string ⟨TS.toArray⟩)))
 (HO : ∀ w, Hid (Rets Tryz.prog 63 #[.string rs, .string ⟨#[45]⟩] w (.string TL)))
 (HY : ∀ w, TabW w → Hid (Rets Tryz.prog 60 #[.int .i64 y] w (.string ⟨TY.toArray⟩)))
 (HP : ∀ w, Hid (PrintOf 61 #[spotA m k wd d t r] w [W0, W1, W2] 3))
 (HL : ∀ w v, Reads w v 7 [.string ⟨TO.toArray⟩, .string R, .string fm, .string ⟨TY.toArray⟩, .string ⟨W0.toArray⟩, .string ⟨W1.toArray⟩, .string ⟨W2.toArray⟩] → Hid (Rets Tryz.prog 39 #[v] w (.string OUT))) :
 Rets Tryz.prog 38 #[.agg #[.int .i64 off, .int .i64 kd, .int .i64 s, .string rs, .string fm, .bool true, .int .i64 y, .int .i64 m, .int .i64 k, .int .i64 wd, .int .i64 d, .int .i64 t, .int .i64 r]] w (.string OUT) := by
 obtain ⟨i0, hi, hz0, hz1, hz2⟩ := info_parts Tryz.infoTextM
 unfold Rets
 rcases hk with ⟨rfl, rfl⟩ | ⟨n1, rfl⟩
 · go_enter Tryz.func38, Tryz.ntmps38
   go_upto_region 4 with (first | (go_at_call 63; refine Rets.use (HO _).out ?_; intro y0) | (go_at_call 62; refine Rets.use (HS _).out ?_; intro y1))
   -- REGION4til1
   refine wp_region_held_drew (S := fun w' => ∃ y : Past y1.x, w' = y.x) (by kernel_rfl) (fin isext) (fun hHeld => ?_)
   refine wpAnyH_take (i := 0) (oi := ⟨some 16, _, _, _, _, _⟩) (v := ?_) rfl (by kernel_rfl) (by kernel_rfl) (by kernel_rfl) (fun _ _ _ h => h) (Or.inl ⟨by rfl, ?_⟩) (by assumption) ?_
   rotate_left
   · rintro w ⟨yS, rfl⟩; go_simp; first | done | with_reducible rfl | rw [if_pos (by omega)] | rw [if_neg (by omega)]
   try simp only [Act.put, putA, putZ, putS]
   refine wpAnyH_take (i := 1) (oi := ⟨some 17, _, _, _, _, _⟩) (v := ?_) rfl (by kernel_rfl) (by kernel_rfl) (by kernel_rfl) (fun _ _ _ h => h) (Or.inl ⟨by rfl, ?_⟩) (by assumption) ?_
   rotate_left
   · rintro w ⟨yS, rfl⟩; go_simp; first | done | with_reducible rfl | rw [if_pos (by omega)] | rw [if_neg (by omega)]
   try simp only [Act.put, putA, putZ, putS]
   refine wpAnyH_take (i := 3) (oi := ⟨some 19, _, _, _, _, _⟩) (v := ?_) rfl (by kernel_rfl) (by kernel_rfl) (by kernel_rfl) (fun _ _ _ h => h) (Or.inl ⟨by rfl, ?_⟩) (by assumption) ?_
   rotate_left
   · rintro w ⟨yS, rfl⟩; go_simp; first | done | with_reducible rfl | rw [if_pos (by omega)] | rw [if_neg (by omega)]
   try simp only [Act.put, putA, putZ, putS]
   refine wpAnyH_take (i := 4) (oi := ⟨some 20, _, _, _, _, _⟩) (v := ?_) rfl (by kernel_rfl) (by kernel_rfl) (by kernel_rfl) (fun _ _ _ h => h) (Or.inl ⟨by rfl, ?_⟩) (by assumption) ?_
   rotate_left
   · rintro w ⟨yS, rfl⟩; go_simp; first | done | with_reducible rfl | rw [if_pos (by omega)] | rw [if_neg (by omega)]
   try simp only [Act.put, putA, putZ, putS]
   refine wpAnyH_take (i := 5) (oi := ⟨some 21, _, _, _, _, _⟩) (v := ?_) rfl (by kernel_rfl) (by kernel_rfl) (by kernel_rfl) (fun _ _ _ h => h) (Or.inl ⟨by rfl, ?_⟩) (by assumption) ?_
   rotate_left
   · rintro w ⟨yS, rfl⟩; go_simp; first | done | with_reducible rfl | rw [if_pos (by omega)] | rw [if_neg (by omega)]
   try simp only [Act.put, putA, putZ, putS]
   refine wpAnyH_ready (rs := [2]) (by kernel_rfl) (by simp) ?_
   refine AllReadyH.cons (o := ⟨some 18, _, _, _, _, _⟩) rfl (fun K hK => ?_) ?_
   · go_simp
     go_at_call 62; refine Rets.use (HT _).out ?_; intro z0
     refine hK.out _ _ ?_ (fun hHeld => ?_)
     · exact fin isext
     clear hK K
     try simp only [Act.put, putA, putZ, putS]
     refine wpAnyH_ready (rs := [6]) (by kernel_rfl) (by simp) ?_
     refine AllReadyH.cons (o := ⟨some 22, _, _, _, _, _⟩) rfl (fun K hK => ?_) ?_
     · go_simp
       refine hK.out _ _ ?_ (fun hHeld => ?_)
       · exact fin isext
       clear hK K
       try simp only [Act.put, putA, putZ, putS]
       refine wpAnyH_take (i := 7) (oi := ⟨some 4, _, _, _, _, _⟩) (v := ?_) rfl (by kernel_rfl) (by kernel_rfl) (by kernel_rfl) (fun _ _ _ h => h) (Or.inl ⟨by rfl, ?_⟩) (by assumption) ?_
       rotate_left
       · rintro w ⟨yS, rfl⟩; go_simp; first | done | with_reducible rfl | rw [if_pos (by omega)] | rw [if_neg (by omega)]
       try simp only [Act.put, putA, putZ, putS]
       refine wpAnyH_done (by kernel_rfl) ?_ _
       go_wp2_with (first | (go_at_call 61; refine (HP _).out.mono ?_; rintro e w' ⟨v, u1, rfl, hr, rfl⟩; obtain ⟨g, o, c, rfl, k1, k2, m1, c0, c1, c2⟩ := reads3 hr; haveI : InW g u1.x := ⟨m1⟩) | (go_at_call 60; refine Rets.use (HY _ (hT.ext isext)).out ?_; intro u2) | (at_builtin; refine wpList_append_one _ rfl _ _ 35 rfl 9 i0 (.string ByteArray.empty) 1 16 Tryz.underlying35 hi hz0 hz1 hz2 rfl (by decide) z0.x.heap.size 3 _ rfl rfl ((reads_vals z0.x [.string ⟨TO.toArray⟩, .string ⟨TS.toArray⟩, .string fm] 9 3 rfl (by omega)).ext isext) (by omega) _ 1 1 [.string ⟨TY.toArray⟩] rfl (by omega) (new_cells' _ _ _ _ (by simp)) rfl (by simp [Value.oneCell']) (by unfold maxLen; omega) (by omega) ?_; intro v' w1 hown1 hext1; obtain ⟨av, cap, rfl⟩ := owns_shape hown1; obtain ⟨u3, rfl⟩ := fin hext1) | (at_builtin; refine wpList_append_src _ rfl _ _ 35 rfl _ 9 i0 (.string ByteArray.empty) 1 16 Tryz.underlying35 hi hz0 hz1 hz2 rfl (by decide) _ 4 _ rfl hown1 (.slice (some ⟨g, o, none⟩) 3 c) 3 (strs [W0, W1, W2]) rfl (src_reads (hr.ext isext)) rfl (by simp [strs, Value.oneCell']) (by unfold maxLen; omega) (by omega) (Below.size u3.hb) ?_; intro v2 w2 hown2 hgrow2; obtain ⟨av2, cap2, rfl⟩ := owns_shape hown2; obtain ⟨u4, rfl⟩ := fin (Ext.grown u3.hb hown1 hgrow2)) | (go_at_call 39; refine Rets.use (HL _ _ (owns_reads hown2 (by omega))).out ?_; intro z3))
       go_ret
       exact ⟨rfl, done⟩
     exact AllReadyH.nil
   exact AllReadyH.nil
   -- END4til1
 · go_enter Tryz.func38, Tryz.ntmps38
   go_upto_region 4 with (first | (go_at_call 63; refine Rets.use (HO _).out ?_; intro y0) | (go_at_call 62; refine Rets.use (HS _).out ?_; intro y1))
   -- REGION4til0
   refine wp_region_held_drew (S := fun w' => ∃ y : Past y0.x, w' = y.x) (by kernel_rfl) (fin isext) (fun hHeld => ?_)
   refine wpAnyH_take (i := 0) (oi := ⟨some 16, _, _, _, _, _⟩) (v := ?_) rfl (by kernel_rfl) (by kernel_rfl) (by kernel_rfl) (fun _ _ _ h => h) (Or.inl ⟨by rfl, ?_⟩) (by assumption) ?_
   rotate_left
   · rintro w ⟨yS, rfl⟩; go_simp; first | done | with_reducible rfl | rw [if_pos (by omega)] | rw [if_neg (by omega)]
   try simp only [Act.put, putA, putZ, putS]
   refine wpAnyH_take (i := 1) (oi := ⟨some 17, _, _, _, _, _⟩) (v := ?_) rfl (by kernel_rfl) (by kernel_rfl) (by kernel_rfl) (fun _ _ _ h => h) (Or.inl ⟨by rfl, ?_⟩) (by assumption) ?_
   rotate_left
   · rintro w ⟨yS, rfl⟩; go_simp; first | done | with_reducible rfl | rw [if_pos (by omega)] | rw [if_neg (by omega)]
   try simp only [Act.put, putA, putZ, putS]
   refine wpAnyH_take (i := 3) (oi := ⟨some 19, _, _, _, _, _⟩) (v := ?_) rfl (by kernel_rfl) (by kernel_rfl) (by kernel_rfl) (fun _ _ _ h => h) (Or.inl ⟨by rfl, ?_⟩) (by assumption) ?_
   rotate_left
   · rintro w ⟨yS, rfl⟩; go_simp; first | done | with_reducible rfl | rw [if_pos (by omega)] | rw [if_neg (by omega)]
   try simp only [Act.put, putA, putZ, putS]
   refine wpAnyH_take (i := 4) (oi := ⟨some 20, _, _, _, _, _⟩) (v := ?_) rfl (by kernel_rfl) (by kernel_rfl) (by kernel_rfl) (fun _ _ _ h => h) (Or.inl ⟨by rfl, ?_⟩) (by assumption) ?_
   rotate_left
   · rintro w ⟨yS, rfl⟩; go_simp; first | done | with_reducible rfl | rw [if_pos (by omega)] | rw [if_neg (by omega)]
   try simp only [Act.put, putA, putZ, putS]
   refine wpAnyH_take (i := 5) (oi := ⟨some 21, _, _, _, _, _⟩) (v := ?_) rfl (by kernel_rfl) (by kernel_rfl) (by kernel_rfl) (fun _ _ _ h => h) (Or.inl ⟨by rfl, ?_⟩) (by assumption) ?_
   rotate_left
   · rintro w ⟨yS, rfl⟩; go_simp; first | done | with_reducible rfl | rw [if_pos (by omega)] | rw [if_neg (by omega)]
   try simp only [Act.put, putA, putZ, putS]
   refine wpAnyH_ready (rs := [2]) (by kernel_rfl) (by simp) ?_
   refine AllReadyH.cons (o := ⟨some 18, _, _, _, _, _⟩) rfl (fun K hK => ?_) ?_
   · go_simp
     go_at_call 62; refine Rets.use (HT _).out ?_; intro z0
     refine hK.out _ _ ?_ (fun hHeld => ?_)
     · exact fin isext
     clear hK K
     try simp only [Act.put, putA, putZ, putS]
     refine wpAnyH_ready (rs := [6]) (by kernel_rfl) (by simp) ?_
     refine AllReadyH.cons (o := ⟨some 22, _, _, _, _, _⟩) rfl (fun K hK => ?_) ?_
     · go_simp
       refine hK.out _ _ ?_ (fun hHeld => ?_)
       · exact fin isext
       clear hK K
       try simp only [Act.put, putA, putZ, putS]
       refine wpAnyH_take (i := 7) (oi := ⟨some 4, _, _, _, _, _⟩) (v := ?_) rfl (by kernel_rfl) (by kernel_rfl) (by kernel_rfl) (fun _ _ _ h => h) (Or.inl ⟨by rfl, ?_⟩) (by assumption) ?_
       rotate_left
       · rintro w ⟨yS, rfl⟩; go_simp; first | done | with_reducible rfl | rw [if_pos (by omega)] | rw [if_neg (by omega)]
       try simp only [Act.put, putA, putZ, putS]
       refine wpAnyH_done (by kernel_rfl) ?_ _
       go_wp2_with (first | (go_at_call 61; refine (HP _).out.mono ?_; rintro e w' ⟨v, u1, rfl, hr, rfl⟩; obtain ⟨g, o, c, rfl, k1, k2, m1, c0, c1, c2⟩ := reads3 hr; haveI : InW g u1.x := ⟨m1⟩) | (go_at_call 60; refine Rets.use (HY _ (hT.ext isext)).out ?_; intro u2) | (at_builtin; refine wpList_append_one _ rfl _ _ 35 rfl 9 i0 (.string ByteArray.empty) 1 16 Tryz.underlying35 hi hz0 hz1 hz2 rfl (by decide) z0.x.heap.size 3 _ rfl rfl ((reads_vals z0.x [.string ⟨TO.toArray⟩, .string R, .string fm] 9 3 rfl (by omega)).ext isext) (by omega) _ 1 1 [.string ⟨TY.toArray⟩] rfl (by omega) (new_cells' _ _ _ _ (by simp)) rfl (by simp [Value.oneCell']) (by unfold maxLen; omega) (by omega) ?_; intro v' w1 hown1 hext1; obtain ⟨av, cap, rfl⟩ := owns_shape hown1; obtain ⟨u3, rfl⟩ := fin hext1) | (at_builtin; refine wpList_append_src _ rfl _ _ 35 rfl _ 9 i0 (.string ByteArray.empty) 1 16 Tryz.underlying35 hi hz0 hz1 hz2 rfl (by decide) _ 4 _ rfl hown1 (.slice (some ⟨g, o, none⟩) 3 c) 3 (strs [W0, W1, W2]) rfl (src_reads (hr.ext isext)) rfl (by simp [strs, Value.oneCell']) (by unfold maxLen; omega) (by omega) (Below.size u3.hb) ?_; intro v2 w2 hown2 hgrow2; obtain ⟨av2, cap2, rfl⟩ := owns_shape hown2; obtain ⟨u4, rfl⟩ := fin (Ext.grown u3.hb hown1 hgrow2)) | (go_at_call 39; refine Rets.use (HL _ _ (owns_reads hown2 (by omega))).out ?_; intro z3))
       go_ret
       exact ⟨rfl, done⟩
     exact AllReadyH.nil
   exact AllReadyH.nil
   -- END4til0
set_option maxRecDepth 100000 in
set_option maxHeartbeats 16000000 in
theorem eline_end (rs fm : ByteArray) (off kd s y m k wd d t r : Int) (TO TS TY W0 W1 W2 : List UInt8) (R TL OUT : ByteArray) (w : World) (hT : TabW w)
 (hk : (kd = 1 ∧ R = ⟨TS.toArray⟩) ∨ ((kd == 1) = false ∧ R = TL))
 (HT : ∀ w, Hid (Rets Tryz.prog 62 #[.int .i64 off] w (.string ⟨TO.toArray⟩)))
 (HS : ∀ w, Hid (Rets Tryz.prog 62 #[.int .i64 s] w (.string ⟨TS.toArray⟩)))
 (HO : ∀ w, Hid (Rets Tryz.prog 63 #[.string rs, .string ⟨#[45]⟩] w (.string TL)))
 (HL : ∀ w v, Reads w v 3 [.string ⟨TO.toArray⟩, .string R, .string fm] → Hid (Rets Tryz.prog 39 #[v] w (.string OUT))) :
 Rets Tryz.prog 38 #[.agg #[.int .i64 off, .int .i64 kd, .int .i64 s, .string rs, .string fm, .bool false, .int .i64 y, .int .i64 m, .int .i64 k, .int .i64 wd, .int .i64 d, .int .i64 t, .int .i64 r]] w (.string OUT) := by
 obtain ⟨i0, hi, hz0, hz1, hz2⟩ := info_parts Tryz.infoTextM
 unfold Rets
 rcases hk with ⟨rfl, rfl⟩ | ⟨n1, rfl⟩
 · go_enter Tryz.func38, Tryz.ntmps38
   go_upto_region 4 with (first | (go_at_call 63; refine Rets.use (HO _).out ?_; intro y0) | (go_at_call 62; refine Rets.use (HS _).out ?_; intro y1))
   -- REGION4end1
   refine wp_region_held_drew (S := fun w' => ∃ y : Past y1.x, w' = y.x) (by kernel_rfl) (fin isext) (fun hHeld => ?_)
   refine wpAnyH_take (i := 0) (oi := ⟨some 16, _, _, _, _, _⟩) (v := ?_) rfl (by kernel_rfl) (by kernel_rfl) (by kernel_rfl) (fun _ _ _ h => h) (Or.inl ⟨by rfl, ?_⟩) (by assumption) ?_
   rotate_left
   · rintro w ⟨yS, rfl⟩; go_simp; first | done | with_reducible rfl | rw [if_pos (by omega)] | rw [if_neg (by omega)]
   try simp only [Act.put, putA, putZ, putS]
   refine wpAnyH_take (i := 1) (oi := ⟨some 17, _, _, _, _, _⟩) (v := ?_) rfl (by kernel_rfl) (by kernel_rfl) (by kernel_rfl) (fun _ _ _ h => h) (Or.inl ⟨by rfl, ?_⟩) (by assumption) ?_
   rotate_left
   · rintro w ⟨yS, rfl⟩; go_simp; first | done | with_reducible rfl | rw [if_pos (by omega)] | rw [if_neg (by omega)]
   try simp only [Act.put, putA, putZ, putS]
   refine wpAnyH_take (i := 3) (oi := ⟨some 19, _, _, _, _, _⟩) (v := ?_) rfl (by kernel_rfl) (by kernel_rfl) (by kernel_rfl) (fun _ _ _ h => h) (Or.inl ⟨by rfl, ?_⟩) (by assumption) ?_
   rotate_left
   · rintro w ⟨yS, rfl⟩; go_simp; first | done | with_reducible rfl | rw [if_pos (by omega)] | rw [if_neg (by omega)]
   try simp only [Act.put, putA, putZ, putS]
   refine wpAnyH_take (i := 4) (oi := ⟨some 20, _, _, _, _, _⟩) (v := ?_) rfl (by kernel_rfl) (by kernel_rfl) (by kernel_rfl) (fun _ _ _ h => h) (Or.inl ⟨by rfl, ?_⟩) (by assumption) ?_
   rotate_left
   · rintro w ⟨yS, rfl⟩; go_simp; first | done | with_reducible rfl | rw [if_pos (by omega)] | rw [if_neg (by omega)]
   try simp only [Act.put, putA, putZ, putS]
   refine wpAnyH_take (i := 5) (oi := ⟨some 21, _, _, _, _, _⟩) (v := ?_) rfl (by kernel_rfl) (by kernel_rfl) (by kernel_rfl) (fun _ _ _ h => h) (Or.inl ⟨by rfl, ?_⟩) (by assumption) ?_
   rotate_left
   · rintro w ⟨yS, rfl⟩; go_simp; first | done | with_reducible rfl | rw [if_pos (by omega)] | rw [if_neg (by omega)]
   try simp only [Act.put, putA, putZ, putS]
   refine wpAnyH_ready (rs := [2]) (by kernel_rfl) (by simp) ?_
   refine AllReadyH.cons (o := ⟨some 18, _, _, _, _, _⟩) rfl (fun K hK => ?_) ?_
   · go_simp
     go_at_call 62; refine Rets.use (HT _).out ?_; intro z0
     refine hK.out _ _ ?_ (fun hHeld => ?_)
     · exact fin isext
     clear hK K
     try simp only [Act.put, putA, putZ, putS]
     refine wpAnyH_ready (rs := [6]) (by kernel_rfl) (by simp) ?_
     refine AllReadyH.cons (o := ⟨some 22, _, _, _, _, _⟩) rfl (fun K hK => ?_) ?_
     · go_simp
       refine hK.out _ _ ?_ (fun hHeld => ?_)
       · exact fin isext
       clear hK K
       try simp only [Act.put, putA, putZ, putS]
       refine wpAnyH_take (i := 7) (oi := ⟨some 4, _, _, _, _, _⟩) (v := ?_) rfl (by kernel_rfl) (by kernel_rfl) (by kernel_rfl) (fun _ _ _ h => h) (Or.inl ⟨by rfl, ?_⟩) (by assumption) ?_
       rotate_left
       · rintro w ⟨yS, rfl⟩; go_simp; first | done | with_reducible rfl | rw [if_pos (by omega)] | rw [if_neg (by omega)]
       try simp only [Act.put, putA, putZ, putS]
       refine wpAnyH_done (by kernel_rfl) ?_ _
       go_wp2_with (go_at_call 39; refine Rets.use (HL _ _ (reads_vals _ _ _ _ rfl (by omega))).out ?_; intro z3)
       go_ret
       exact ⟨rfl, done⟩
     exact AllReadyH.nil
   exact AllReadyH.nil
   -- END4end1
 · go_enter Tryz.func38, Tryz.ntmps38
   go_upto_region 4 with (first | (go_at_call 63; refine Rets.use (HO _).out ?_; intro y0) | (go_at_call 62; refine Rets.use (HS _).out ?_; intro y1))
   -- REGION4end0
   refine wp_region_held_drew (S := fun w' => ∃ y : Past y0.x, w' = y.x) (by kernel_rfl) (fin isext) (fun hHeld => ?_)
   refine wpAnyH_take (i := 0) (oi := ⟨some 16, _, _, _, _, _⟩) (v := ?_) rfl (by kernel_rfl) (by kernel_rfl) (by kernel_rfl) (fun _ _ _ h => h) (Or.inl ⟨by rfl, ?_⟩) (by assumption) ?_
   rotate_left
   · rintro w ⟨yS, rfl⟩; go_simp; first | done | with_reducible rfl | rw [if_pos (by omega)] | rw [if_neg (by omega)]
   try simp only [Act.put, putA, putZ, putS]
   refine wpAnyH_take (i := 1) (oi := ⟨some 17, _, _, _, _, _⟩) (v := ?_) rfl (by kernel_rfl) (by kernel_rfl) (by kernel_rfl) (fun _ _ _ h => h) (Or.inl ⟨by rfl, ?_⟩) (by assumption) ?_
   rotate_left
   · rintro w ⟨yS, rfl⟩; go_simp; first | done | with_reducible rfl | rw [if_pos (by omega)] | rw [if_neg (by omega)]
   try simp only [Act.put, putA, putZ, putS]
   refine wpAnyH_take (i := 3) (oi := ⟨some 19, _, _, _, _, _⟩) (v := ?_) rfl (by kernel_rfl) (by kernel_rfl) (by kernel_rfl) (fun _ _ _ h => h) (Or.inl ⟨by rfl, ?_⟩) (by assumption) ?_
   rotate_left
   · rintro w ⟨yS, rfl⟩; go_simp; first | done | with_reducible rfl | rw [if_pos (by omega)] | rw [if_neg (by omega)]
   try simp only [Act.put, putA, putZ, putS]
   refine wpAnyH_take (i := 4) (oi := ⟨some 20, _, _, _, _, _⟩) (v := ?_) rfl (by kernel_rfl) (by kernel_rfl) (by kernel_rfl) (fun _ _ _ h => h) (Or.inl ⟨by rfl, ?_⟩) (by assumption) ?_
   rotate_left
   · rintro w ⟨yS, rfl⟩; go_simp; first | done | with_reducible rfl | rw [if_pos (by omega)] | rw [if_neg (by omega)]
   try simp only [Act.put, putA, putZ, putS]
   refine wpAnyH_take (i := 5) (oi := ⟨some 21, _, _, _, _, _⟩) (v := ?_) rfl (by kernel_rfl) (by kernel_rfl) (by kernel_rfl) (fun _ _ _ h => h) (Or.inl ⟨by rfl, ?_⟩) (by assumption) ?_
   rotate_left
   · rintro w ⟨yS, rfl⟩; go_simp; first | done | with_reducible rfl | rw [if_pos (by omega)] | rw [if_neg (by omega)]
   try simp only [Act.put, putA, putZ, putS]
   refine wpAnyH_ready (rs := [2]) (by kernel_rfl) (by simp) ?_
   refine AllReadyH.cons (o := ⟨some 18, _, _, _, _, _⟩) rfl (fun K hK => ?_) ?_
   · go_simp
     go_at_call 62; refine Rets.use (HT _).out ?_; intro z0
     refine hK.out _ _ ?_ (fun hHeld => ?_)
     · exact fin isext
     clear hK K
     try simp only [Act.put, putA, putZ, putS]
     refine wpAnyH_ready (rs := [6]) (by kernel_rfl) (by simp) ?_
     refine AllReadyH.cons (o := ⟨some 22, _, _, _, _, _⟩) rfl (fun K hK => ?_) ?_
     · go_simp
       refine hK.out _ _ ?_ (fun hHeld => ?_)
       · exact fin isext
       clear hK K
       try simp only [Act.put, putA, putZ, putS]
       refine wpAnyH_take (i := 7) (oi := ⟨some 4, _, _, _, _, _⟩) (v := ?_) rfl (by kernel_rfl) (by kernel_rfl) (by kernel_rfl) (fun _ _ _ h => h) (Or.inl ⟨by rfl, ?_⟩) (by assumption) ?_
       rotate_left
       · rintro w ⟨yS, rfl⟩; go_simp; first | done | with_reducible rfl | rw [if_pos (by omega)] | rw [if_neg (by omega)]
       try simp only [Act.put, putA, putZ, putS]
       refine wpAnyH_done (by kernel_rfl) ?_ _
       go_wp2_with (go_at_call 39; refine Rets.use (HL _ _ (reads_vals _ _ _ _ rfl (by omega))).out ?_; intro z3)
       go_ret
       exact ⟨rfl, done⟩
     exact AllReadyH.nil
   exact AllReadyH.nil
   -- END4end0
end Go.Proofs.YtdhbgelijjlifaaGreatDoor

set_option linter.unusedVariables false
set_option linter.unusedSimpArgs false
namespace Go.Proofs.YtdhbgelijjlifaaGreatDoor
open Go.RowKit Go.Shelf
theorem ba_eta (s : ByteArray) : (⟨s.data.toList.toArray⟩ : ByteArray) = s := by apply ByteArray.ext; simp
namespace Src
theorem join_le (B : Nat) : ∀ (l : List (List UInt8)), (∀ s ∈ l, s.length ≤ B) → (Lib.join l [32]).length ≤ l.length * (B + 1)
 | [], _ => by simp [Lib.join_nil]
 | [a], h => by rw [Lib.join_one]; have := h a (by simp); simp; omega
 | a :: b :: l, h => by
   have ih := join_le B (b :: l) (fun s hs => h s (by simp at hs ⊢; right; exact hs))
   have ha := h a (by simp)
   have : Lib.join (a :: b :: l) [32] = a ++ [32] ++ Lib.join (b :: l) [32] := by
    rw [Lib.join_cons, Lib.join_cons]; simp [Lib.joinTail]
   rw [this]
   have e1 := Nat.add_mul (b :: l).length 1 (B + 1)
   rw [show (a :: b :: l).length = (b :: l).length + 1 from rfl, e1]
   simp only [List.length_append, List.length_singleton]
   generalize (b :: l).length * (B + 1) = M at *
   omega
theorem line_le {l : List (List UInt8)} {n : Nat} (hn : l.length ≤ n) (h : ∀ s ∈ l, s.length ≤ 40) : (lineT l).length ≤ n * 41 + 1 := by
 unfold lineT
 rw [List.length_append]
 have := join_le 40 l h
 have := Nat.mul_le_mul_right 41 hn
 simp; omega
theorem decI_le {n : Int} (h : 1 ≤ n) (h9 : n ≤ 9999) : (decI n).length ≤ 4 := by
 unfold decI
 exact Mom.dec_len 4 _ (by omega) (by omega)
theorem spot_words {m k wd d t r : Int} (h : Mom.rightB m k wd d t r = true) : ∃ W0 W1 W2, spotT m k wd d t r = [W0, W1, W2] ∧ W0.length ≤ 40 ∧ W1.length ≤ 40 ∧ W2.length ≤ 40 := by
 obtain ⟨i, K, W, D, R, hi, rfl, hK, rfl, hW, rfl, hD, rfl, hR, rfl, t1, t2, _⟩ := right_nat h
 have lD : (Mom.dec D).length ≤ 2 := Mom.dec_len 2 D (by omega) (by omega)
 have lT := timeD_len t1 t2
 have lA := wdD_len W hW
 have lM := short_len i hi
 have lR : (Mom.refD R).length ≤ 1 := by unfold Mom.refD; split; · simp
                                         split <;> simp
 refine ⟨_, _, _, rfl, ?_, ?_, ?_⟩
 · rw [show ((i : Int) + 1).toNat - 1 = i by omega]; omega
 · simp only [Int.toNat_natCast]
   unfold Mom.dayD
   split
   · omega
   split
   · simp only [List.length_append, List.length_cons, List.length_nil]; omega
   split <;> (simp only [List.length_append, List.length_cons, List.length_nil]; omega)
 · simp only [Int.toNat_natCast, List.length_append]; omega
theorem set_len {l : List UInt8} (h : setB l = true) : l.length ≤ 20 := by
 unfold setB madeB at h
 simp only [Bool.and_eq_true, decide_eq_true_eq] at h
 omega
theorem place_len {l : List UInt8} (h : placeB l = true) : l.length ≤ 40 := by
 unfold placeB at h
 simp only [Bool.and_eq_true, decide_eq_true_eq] at h
 omega
theorem fmt_len {l : List UInt8} (h : fmtB l = true) : l.length ≤ 20 := by
 unfold fmtB madeB at h
 simp only [Bool.and_eq_true, decide_eq_true_eq] at h
 omega
theorem or_len {s : ByteArray} {n : Nat} (h : s.data.toList.length ≤ n) (h1 : 1 ≤ n) : (orT s).length ≤ n := by
 unfold orT; split
 · simpa using h1
 · exact h
structure RuleK (x : Rule) : Prop where
 nm : setB x.nm.data.toList = true
 a1 : 1 ≤ x.a
 a2 : x.a ≤ 9999
 b1 : 1 ≤ x.b
 b2 : x.b ≤ 9999 ∨ x.b = 1000000
 spot : Mom.rightB x.m x.k x.wd x.d x.t x.r = true
 s1 : -43200 ≤ x.s
 s2 : x.s ≤ 43200
 l : letterB x.l.data.toList = true
theorem rule_k {x : Rule} (h : ruleB x = true) : RuleK x := by
 unfold ruleB Rul.rightB at h
 simp only [Bool.and_eq_true, Bool.or_eq_true, decide_eq_true_eq, beq_iff_eq] at h
 obtain ⟨⟨h1, ⟨⟨h2, h3⟩, h4⟩, h5, h6⟩, h7⟩ := h
 unfold Rul.yearB at h2 h3
 simp only [decide_eq_true_eq] at h2 h3
 exact ⟨h1, h2.1, h2.2, by rcases h3 with h | h <;> omega, by rcases h3 with h | h; exact .inl h.2; exact .inr h, h4, h5, h6, h7⟩
theorem letter_len {l : List UInt8} (h : letterB l = true) : l.length ≤ 8 := by
 unfold letterB madeB at h
 simp only [Bool.and_eq_true, Bool.or_eq_true, decide_eq_true_eq, List.isEmpty_iff] at h
 rcases h with rfl | h
 · simp
 · omega
theorem to_len {x : Rule} (h : RuleK x) : (toT x).length ≤ 40 := by
 unfold toT
 split
 · simp
 split
 · simp
 · rcases h.b2 with h2 | h2
   · have := decI_le h.b1 h2; omega
   · contradiction
theorem rule_words {x : Rule} (h : RuleK x) : ∀ s ∈ ruleW x, s.length ≤ 40 := by
 obtain ⟨W0, W1, W2, e, l0, l1, l2⟩ := spot_words h.spot
 have h1 := set_len h.nm
 have h2 := decI_le h.a1 h.a2
 have h3 := to_len h
 have h4 := timeD_len (t := x.s) (by have := h.s1; omega) (by have := h.s2; omega)
 have h5 := or_len (s := x.l) (n := 8) (letter_len h.l) (by omega)
 intro s hs
 unfold ruleW at hs
 rw [e] at hs
 simp only [List.mem_append, List.mem_cons, List.not_mem_nil, or_false] at hs
 rcases hs with ((rfl | rfl | rfl | rfl | rfl) | rfl | rfl | rfl) | rfl | rfl
 all_goals first | omega | (simp; done) | (simp; omega)
structure EraK (x : Era) : Prop where
 o1 : -86400 < x.off
 o2 : x.off < 86400
 fm : fmtB x.fm.data.toList = true
 kd : (x.kd = 0 ∧ x.s = 0 ∧ x.rs.data.toList = []) ∨ (x.kd = 1 ∧ -43200 ≤ x.s ∧ x.s ≤ 43200 ∧ x.rs.data.toList = []) ∨ (x.kd = 2 ∧ x.s = 0 ∧ setB x.rs.data.toList = true)
 en : (x.til = true ∧ 1 ≤ x.y ∧ x.y ≤ 9999 ∧ Mom.rightB x.m x.k x.wd x.d x.t x.r = true) ∨ (x.til = false ∧ x.y = 0 ∧ x.m = 0 ∧ x.k = 0 ∧ x.wd = 0 ∧ x.d = 0 ∧ x.t = 0 ∧ x.r = 0)
theorem era_k {x : Era} (h : eraB x = true) : EraK x := by
 unfold eraB offB at h
 simp only [Bool.and_eq_true, decide_eq_true_eq] at h
 obtain ⟨⟨⟨⟨h1, h2⟩, h3⟩, h4⟩, h5⟩ := h
 refine ⟨h1, h2, h3, ?_, ?_⟩
 · unfold kindB at h4
   split at h4
   · simp only [Bool.and_eq_true, beq_iff_eq, List.isEmpty_iff] at h4
     exact .inl ⟨‹_›, h4.1, h4.2⟩
   split at h4
   · unfold saveB at h4
     simp only [Bool.and_eq_true, decide_eq_true_eq, List.isEmpty_iff] at h4
     exact .inr (.inl ⟨‹_›, h4.1.1, h4.1.2, h4.2⟩)
   split at h4
   · simp only [Bool.and_eq_true, beq_iff_eq] at h4
     exact .inr (.inr ⟨‹_›, h4.1, h4.2⟩)
   · cases h4
 · unfold endB at h5
   split at h5
   · unfold yearB at h5
     simp only [Bool.and_eq_true, decide_eq_true_eq] at h5
     exact .inl ⟨‹_›, h5.1.1, h5.1.2, h5.2⟩
   · simp only [Bool.and_eq_true, beq_iff_eq] at h5
     rename_i ht
     exact .inr ⟨by simpa using ht, h5.1, h5.2.1.1.1.1.1, h5.2.1.1.1.1.2, h5.2.1.1.1.2, h5.2.1.1.2, h5.2.1.2, h5.2.2⟩
theorem save_bd {x : Era} (h : EraK x) : -43200 ≤ x.s ∧ x.s ≤ 43200 := by
 rcases h.kd with ⟨_, h, _⟩ | ⟨_, h, h', _⟩ | ⟨_, h, _⟩ <;> omega
theorem era_words {x : Era} (h : EraK x) : ∀ s ∈ eraW x, s.length ≤ 40 := by
 have h1 := timeD_len (t := x.off) (by have := h.o1; omega) (by have := h.o2; omega)
 obtain ⟨b1, b2⟩ := save_bd h
 have h2 := timeD_len (t := x.s) (by omega) (by omega)
 have h3 : (orT x.rs).length ≤ 20 := or_len (by rcases h.kd with ⟨_, _, e⟩ | ⟨_, _, _, e⟩ | ⟨_, _, e⟩; rw [e]; simp; rw [e]; simp; exact set_len e) (by omega)
 have h4 := fmt_len h.fm
 intro s hs
 unfold eraW at hs
 rcases List.mem_append.1 hs with hs | hs
 · simp only [List.mem_cons, List.not_mem_nil, or_false] at hs
   rcases hs with rfl | rfl | rfl
   · omega
   · split <;> omega
   · omega
 · split at hs
   · rcases h.en with ⟨_, y1, y2, hsp⟩ | ⟨ht, -⟩
     · obtain ⟨W0, W1, W2, e, l0, l1, l2⟩ := spot_words hsp
       have h5 := decI_le y1 y2
       rw [e] at hs
       simp only [List.mem_cons, List.not_mem_nil, or_false] at hs
       rcases hs with rfl | rfl | rfl | rfl <;> omega
     · rename_i h9; rw [ht] at h9; cases h9
   · cases hs
theorem era_count (x : Era) : (eraW x).length ≤ 7 := by
 unfold eraW spotT Mom.printD
 rw [List.length_append]
 by_cases h : x.til = true
 · rw [if_pos h]; simp
 · rw [if_neg h]; simp
theorem rule_count (x : Rule) : (ruleW x).length = 10 := by unfold ruleW spotT Mom.printD; simp
theorem link_words {x : Link} (h : linkB x = true) : ∀ s ∈ linkW x, s.length ≤ 40 := by
 unfold linkB at h
 simp only [Bool.and_eq_true] at h
 have h1 := place_len h.1
 have h2 := place_len h.2
 intro s hs
 unfold linkW at hs
 simp only [List.mem_cons, List.not_mem_nil, or_false] at hs
 rcases hs with rfl | rfl | rfl
 · simp
 · omega
 · omega
end Src
theorem print_spot {m k wd d t r : Int} (h : Mom.rightB m k wd d t r = true) (w : World) : PrintOf 61 #[spotA m k wd d t r] w (Src.spotT m k wd d t r) 3 := by
 obtain ⟨i, K, W, D, R, hi, rfl, hK, rfl, hW, rfl, hD, rfl, hR, rfl, t1, t2, _⟩ := right_nat h
 have := print_nat i K W D R t w hi hK hW hD hR t1 t2 h
 unfold Src.spotT
 simp only [Int.toNat_natCast]
 rw [show ((i : Int) + 1).toNat = i + 1 by omega]
 exact this
theorem tl_eq (s : ByteArray) : (if s.data.toList = [] then (⟨#[45]⟩ : ByteArray) else s) = ⟨(Src.orT s).toArray⟩ := by
 unfold Src.orT
 split
 · rfl
 · exact (ba_eta s).symm
theorem prule_text {x : Rule} (h : Src.RuleK x) (w : World) (hT : TabW w) : Rets Tryz.prog 37 #[ruleV x] w (.string ⟨(Src.lineT (Src.ruleW x)).toArray⟩) := by
 obtain ⟨W0, W1, W2, e, l0, l1, l2⟩ := Src.spot_words h.spot
 have hP := fun w => print_spot h.spot w
 rw [e] at hP
 have hw : strs (Src.ruleW x) = [.string ⟨#[82, 117, 108, 101]⟩, .string x.nm, .string ⟨(Src.decI x.a).toArray⟩, .string ⟨(Src.toT x).toArray⟩, .string ⟨#[45]⟩, .string ⟨W0.toArray⟩, .string ⟨W1.toArray⟩, .string ⟨W2.toArray⟩, .string ⟨(Mom.timeD x.s).toArray⟩, .string ⟨(Src.orT x.l).toArray⟩] := by
  unfold Src.ruleW
  rw [e]
  simp [strs, ba_eta]
 refine rline_gen x.nm x.l x.a x.b x.m x.k x.wd x.d x.t x.r x.s (Src.decI x.a) (Src.decI x.b) (Mom.timeD x.s) W0 W1 W2 ⟨(Src.toT x).toArray⟩ ⟨(Src.orT x.l).toArray⟩ _ w hT ?_ (fun w hT => itoa_any x.a (by have := h.a1; omega) (by have := h.a2; omega) w hT) (fun w hT => itoa_any x.b (by have := h.b1; omega) (by rcases h.b2 with h | h <;> omega) w hT) hP
  (fun w => time_any x.s (by have := h.s1; have := h.s2; omega) w) (fun w => by have := sor_any x.l ⟨#[45]⟩ w; rw [tl_eq] at this; exact this)
  (fun w v hr => line_any (Src.ruleW x) v 10 (Src.rule_count x) (by omega) (by omega) w (by rw [hw]; exact hr) (by have := Src.join_le 40 _ (Src.rule_words h); rw [Src.rule_count] at this; omega))
 unfold Src.toT
 by_cases c1 : x.b = x.a
 · rw [if_pos c1]; exact .inl ⟨c1, rfl⟩
 · rw [if_neg c1]
   by_cases c2 : x.b = 1000000
   · rw [if_pos c2]; exact .inr (.inl ⟨beq_eq_false_iff_ne.2 c1, c2, rfl⟩)
   · rw [if_neg c2]; exact .inr (.inr ⟨beq_eq_false_iff_ne.2 c1, beq_eq_false_iff_ne.2 c2, rfl⟩)
theorem pera_text {x : Era} (h : Src.EraK x) (w : World) (hT : TabW w) : Rets Tryz.prog 38 #[eraV x] w (.string ⟨(Src.lineT (Src.eraW x)).toArray⟩) := by
 have hj := Src.join_le 40 _ (Src.era_words h)
 have hcnt := Src.era_count x
 obtain ⟨b1, b2⟩ := Src.save_bd h
 have hTo := fun w => time_any x.off (by have := h.o1; have := h.o2; omega) w
 have hTs := fun w => time_any x.s (by omega) w
 have hO : ∀ w, Rets Tryz.prog 63 #[.string x.rs, .string ⟨#[45]⟩] w (.string ⟨(Src.orT x.rs).toArray⟩) := fun w => by have := sor_any x.rs ⟨#[45]⟩ w; rw [tl_eq] at this; exact this
 obtain ⟨R, hR⟩ : ∃ R : List UInt8, R = if x.kd = 1 then Mom.timeD x.s else Src.orT x.rs := ⟨_, rfl⟩
 have hk : (x.kd = 1 ∧ (⟨R.toArray⟩ : ByteArray) = ⟨(Mom.timeD x.s).toArray⟩) ∨ ((x.kd == 1) = false ∧ (⟨R.toArray⟩ : ByteArray) = ⟨(Src.orT x.rs).toArray⟩) := by
  by_cases c : x.kd = 1
  · rw [if_pos c] at hR; subst hR; exact .inl ⟨c, rfl⟩
  · rw [if_neg c] at hR; subst hR; exact .inr ⟨beq_eq_false_iff_ne.2 c, rfl⟩
 have hlt : (Lib.join (Src.eraW x) [32]).length ≤ 1000000 := by
  have := Nat.mul_le_mul_right 41 hcnt; omega
 unfold Src.eraW at hlt ⊢
 rw [← hR] at hlt ⊢
 rcases h.en with ⟨ht, y1, y2, hsp⟩ | ⟨ht, _⟩
 · obtain ⟨W0, W1, W2, e, _⟩ := Src.spot_words hsp
   have hP := fun w => print_spot hsp w
   rw [e] at hP
   rw [if_pos ht, e] at hlt ⊢
   have := eline_til x.rs x.fm x.off x.kd x.s x.y x.m x.k x.wd x.d x.t x.r (Mom.timeD x.off) (Mom.timeD x.s) (Src.decI x.y) W0 W1 W2 ⟨R.toArray⟩ ⟨(Src.orT x.rs).toArray⟩ _ w hT hk hTo hTs hO (fun w hT => itoa_any x.y (by omega) (by omega) w hT) hP (fun w v hr => line_any _ v 7 rfl (by omega) (by omega) w (by simpa [strs, ba_eta] using hr) hlt)
   rw [← ht] at this
   exact this
 · rw [if_neg (by rw [ht]; simp)] at hlt ⊢
   have := eline_end x.rs x.fm x.off x.kd x.s x.y x.m x.k x.wd x.d x.t x.r (Mom.timeD x.off) (Mom.timeD x.s) [] [] [] [] ⟨R.toArray⟩ ⟨(Src.orT x.rs).toArray⟩ _ w hT hk hTo hTs hO (fun w v hr => line_any _ v 3 rfl (by omega) (by omega) w (by simpa [strs, ba_eta] using hr) hlt)
   rw [← ht] at this
   exact this
end Go.Proofs.YtdhbgelijjlifaaGreatDoor

