/- The reader: its block, its tree, its line's fields; walks of its rule. -/
import Derived.Test.YtdhbgelijjlifaaGreatDoorSrcReadC
import Derived.Deep.RegionHeld3
set_option linter.unusedVariables false
set_option linter.unusedSimpArgs false
namespace Go.Proofs.YtdhbgelijjlifaaGreatDoor
open Go.RowKit Go.Shelf
structure Frm where
 w : World
 B : Nat
 v : Value
 n : Nat
 xs : List Value
structure Kept (F : Frm) (w : World) : Prop where
 ext : Ext F.w w
 row : w.ownsRow F.B 9 1 F.v F.n F.xs
theorem Kept.trans {F : Frm} {w w' : World} (h : Kept F w) (hx : Ext w w') : Kept F w' := ⟨h.ext.trans hx, own_past h.row hx⟩
structure Rd (wb : Frm) (w : World) (b : Nat) (S : Source) (line : Int) (all : ByteArray) (ws : List Src.Wd) : Prop where
 ext : Kept wb w
 ge : wb.w.heap.size ≤ b
 parts : ∃ (vr vz vl lv : Value) (zp : List (Zone × Value)) (Bw : Nat), Blk w b #[vr, vz, vl, .int .i64 line, .string all, lv, .bool (Src.openB S)] 49 ∧ Tree w (b + 1) vr vz vl zp S ∧ w.ownsRow Bw 68 2 lv ws.length (wordCells ws)
theorem rdl_of {w : World} {b : Nat} {vr vz vl lv : Value} {line : Int} {all : ByteArray} {op : Bool} {ws : List Src.Wd} {Bw : Nat} (h : Blk w b #[vr, vz, vl, .int .i64 line, .string all, lv, .bool op] 49) (hw : w.ownsRow Bw 68 2 lv ws.length (wordCells ws)) : RdL w b line all ws :=
 ⟨h.lt, (h.cell 3).trans rfl, (h.cell 4).trans rfl, lv, (h.cell 5).trans rfl, owns_reads hw (by decide)⟩
def RdEnd (wb : Frm) (b : Nat) (line : Int) (all : ByteArray) (ws : List Src.Wd) (o : Fault ⊕ Source) (e : Ending) (w' : World) : Prop := match o with
 | .inl f => e = gaveUp f ∧ Kept wb w'
 | .inr S => e = .returned (.tuple #[]) ∧ Rd wb w' b S line all ws
theorem rd_bad {wb : Frm} {b : Nat} {line : Int} {all : ByteArray} {ws : List Src.Wd} {o : Fault ⊕ Source} {f : Fault} {w' : World} (ho : o = .inl f) (hx : Kept wb w') : RdEnd wb b line all ws o (gaveUp f) w' := by subst ho; exact ⟨rfl, hx⟩
theorem rd_good {wb : Frm} {b : Nat} {line : Int} {all : ByteArray} {ws : List Src.Wd} {o : Fault ⊕ Source} {S : Source} {w' : World} (ho : o = .inr S) (h : Rd wb w' b S line all ws) : RdEnd wb b line all ws o (.returned (.tuple #[])) w' := by subst ho; exact ⟨rfl, h⟩
theorem Blk.ext {w w' : World} {b : Nat} {C : Array Value} {T : TypeId} (h : Blk w b C T) (hx : Ext w w') : Blk w' b C T := (hx.block b h.lt).trans h
theorem blk_grown {w w1 : World} {b : Nat} {C : Array Value} {T e : TypeId} {size n : Nat} {v : Value} {xs : List Value} (h : Blk w b C T) (ho : w.ownsRow (b + 1) e size v n xs) (hg : w.grownBy w1 v.ownBlock) : Blk w1 b C T :=
 (hg.block b h.lt (fun e => by have := (ho.lt b e.symm).1; omega)).trans h
theorem own_blk {w : World} {b base : Nat} {C : Array Value} {T e : TypeId} {size n : Nat} {v : Value} {xs : List Value} (h : Blk w b C T) (ho : w.ownsRow base e size v n xs) (he : e ≠ T) : v.ownBlock = none ∨ v.ownBlock ≠ some b := by
 rcases ho.2 with ⟨h1, _⟩ | ⟨g, cap, cur, h1, _, h3, _⟩
 · left; rw [h1]; rfl
 · right
   rw [h1]
   simp only [Value.ownBlock]
   intro hh
   injection hh with hh
   subst hh
   rw [show w.heap[g]? = _ from h] at h3
   injection h3 with h3
   injection h3 with _ h3
   exact he h3.symm
theorem Kept.store {F : Frm} {w : World} {b : Nat} {C : Array Value} (h : Kept F w) (hb : Blk w b C 49) (hge : F.w.heap.size ≤ b) (i : Nat) (v : Value) : Kept F (w.setCell ⟨b, i, none⟩ v) :=
 ⟨h.ext.setCell hge v, own_store h.row (own_blk hb h.row (by decide))⟩
theorem Kept.grown {F : Frm} {w w' : World} {b : Nat} {e : TypeId} {size n : Nat} {v : Value} {xs : List Value} (h : Kept F w) (ho : w.ownsRow (b + 1) e size v n xs) (hge : F.w.heap.size ≤ b) (he : 9 ≠ e) (hg : w.grownBy w' v.ownBlock) : Kept F w' :=
 ⟨Ext.grown h.ext (own_base ho (by omega)) hg, own_other h.row ho he hg⟩
theorem Kept.cell {F : Frm} {w : World} {base gz n : Nat} {vz : Value} {xs : List Value} (h : Kept F w) (hz : w.ownsRow base 59 2 vz n xs) (hgz : vz.ownBlock = some gz) (hge : F.w.heap.size ≤ gz) (i : Nat) (v : Value) : Kept F (w.setCell ⟨gz, i, none⟩ v) :=
 ⟨h.ext.setCell hge v, own_store h.row (by have := own_ne h.row hz (by decide); rw [hgz] at this; exact this)⟩
theorem rd_rule {wb : Frm} {w w5 w1 : World} {b Bw : Nat} {S : Source} {line : Int} {all : ByteArray} {ws : List Src.Wd} {vr vz vl lv v' : Value} {zp : List (Zone × Value)} {x : Rule} (hxb : Kept wb w) (hge : wb.w.heap.size ≤ b) (hblk : Blk w b #[vr, vz, vl, .int .i64 line, .string all, lv, .bool (Src.openB S)] 49)
 (ht : Tree w (b + 1) vr vz vl zp S) (hw : w.ownsRow Bw 68 2 lv ws.length (wordCells ws)) (hx : Ext w w5) (ho : w1.ownsRow (b + 1) 61 11 v' (S.rules.length + 1) (ruleRow (S.rules ++ [x]))) (hg : w5.grownBy w1 vr.ownBlock) :
 Rd wb (w1.setCell ⟨b, 0, none⟩ v') b ⟨S.rules ++ [x], S.zones, S.links⟩ line all ws := by
 have ht5 := ht.past hx
 have hb1 := blk_grown (hblk.ext hx) ht5.rules hg
 refine ⟨((hxb.trans hx).grown ht5.rules hge (by decide) hg).store hb1 hge _ _, hge, v', vz, vl, lv, zp, Bw, ?_, (ht5.rule ho hg).store (by show b < b + 1; omega), ?_⟩
 · rw [hb1.set 0 v']
   exact setB_blk hb1
 · have h1 := own_other (own_past hw hx) ht5.rules (by decide) hg
   exact own_store h1 (own_blk hb1 h1 (by decide))
theorem Tryz.infoRuleS : (Tryz.prog.info? 61).map (fun i => (i.zero, i.size, i.bytes)) = some (some (.agg #[.string ByteArray.empty, .int .i64 0, .int .i64 0, .int .i64 0, .int .i64 0, .int .i64 0, .int .i64 0, .int .i64 0, .int .i64 0, .int .i64 0, .string ByteArray.empty]), 11, 104) := by kernel_rfl
theorem info_partsS {i : Option TypeInfo} {z : Option Value} {s b : Nat} (h : i.map (fun i => (i.zero, i.size, i.bytes)) = some (z, s, b)) : ∃ j, i = some j ∧ j.zero = z ∧ j.size = s ∧ j.bytes = b := by
 cases i with
 | none => cases h
 | some j => simp at h; exact ⟨j, rfl, h.1, h.2.1, h.2.2⟩
theorem lit_cases (a s : ByteArray) (l : List UInt8) (hl : s.toList = l) : ((a == s) = true ∧ (a.toList == l) = true ∧ a = s) ∨ ((a == s) = false ∧ (a.toList == l) = false ∧ a.data.toList ≠ s.data.toList) := by
 have := text_cases a s
 rwa [hl] at this
theorem tx_size {ws : List Src.Wd} (hs : ∀ x ∈ ws, x.1.size ≤ 1000) (i : Nat) : (Src.tx ws i).size ≤ 1000 := by
 unfold Src.tx
 by_cases h : i < ws.length
 · rw [List.getD_eq_getElem?_getD, List.getElem?_eq_getElem h]; exact hs _ (List.getElem_mem h)
 · rw [List.getD_eq_getElem?_getD, List.getElem?_eq_none (by omega)]; decide
theorem rd_link {wb : Frm} {w w5 w1 : World} {b Bw : Nat} {S : Source} {line : Int} {all : ByteArray} {ws : List Src.Wd} {vr vz vl lv v' : Value} {zp : List (Zone × Value)} {x : Link} (hxb : Kept wb w) (hge : wb.w.heap.size ≤ b) (hblk : Blk w b #[vr, vz, vl, .int .i64 line, .string all, lv, .bool (Src.openB S)] 49)
 (ht : Tree w (b + 1) vr vz vl zp S) (hw : w.ownsRow Bw 68 2 lv ws.length (wordCells ws)) (hx : Ext w w5) (ho : w1.ownsRow (b + 1) 63 2 v' (S.links.length + 1) (linkRow (S.links ++ [x]))) (hg : w5.grownBy w1 vl.ownBlock) :
 Rd wb (w1.setCell ⟨b, 2, none⟩ v') b ⟨S.rules, S.zones, S.links ++ [x]⟩ line all ws := by
 have ht5 := ht.past hx
 have hb1 := blk_grown (hblk.ext hx) ht5.links hg
 refine ⟨((hxb.trans hx).grown ht5.links hge (by decide) hg).store hb1 hge _ _, hge, vr, vz, v', lv, zp, Bw, ?_, (ht5.link ho hg).store (by show b < b + 1; omega), ?_⟩
 · rw [hb1.set 2 v']
   exact setB_blk hb1
 · have h1 := own_other (own_past hw hx) ht5.links (by decide) hg
   exact own_store h1 (own_blk hb1 h1 (by decide))
theorem Tryz.infoLinkS : (Tryz.prog.info? 63).map (fun i => (i.zero, i.size, i.bytes)) = some (some (.agg #[.string ByteArray.empty, .string ByteArray.empty]), 2, 32) := by kernel_rfl
end Go.Proofs.YtdhbgelijjlifaaGreatDoor
namespace Go.Proofs.YtdhbgelijjlifaaGreatDoor
open Go.RowKit Go.Shelf
def eraO (S : Source) (ws : List Src.Wd) (i : Nat) (line : Int) : Fault ⊕ Source := match Src.eraP ws i line with
 | .inl f => .inl f
 | .inr x => .inr ⟨S.rules, Src.addEra S.zones x, S.links⟩
theorem open_add {zs : List Zone} {z : Zone} {x : Era} (rs : List Rule) (ls : List Link) : Src.openB ⟨rs, Src.addEra (zs ++ [z]) x, ls⟩ = x.til := by
 unfold Src.openB Src.lastE Src.addEra
 simp
theorem tree_names {w : World} {base : Nat} {vr vz vl V : Value} {zi : List (Zone × Value)} {z : Zone} {S : Source} (h : Tree w base vr vz vl (zi ++ [(z, V)]) S) : S.zones = zi.map (·.1) ++ [z] := by
 have := h.names; simp at this; exact this.symm
theorem rd_era {wb : Frm} {w w5 w1 : World} {b Bw B gz : Nat} {S : Source} {line : Int} {all : ByteArray} {ws : List Src.Wd} {vr vz vl lv V V' : Value} {zi : List (Zone × Value)} {z : Zone} {x : Era} (hxb : Kept wb w) (hge : wb.w.heap.size ≤ b)
 (hblk : Blk w b #[vr, vz, vl, .int .i64 line, .string all, lv, .bool x.til] 49) (ht : Tree w (b + 1) vr vz vl (zi ++ [(z, V)]) S) (hw : w.ownsRow Bw 68 2 lv ws.length (wordCells ws)) (hx : Ext w w5)
 (hb : b + 1 ≤ B) (hl : ∀ p ∈ zi, LowV p.2 B) (hV : w.ownsRow B 56 13 V z.es.length (eraRow z.es)) (ho : w1.ownsRow B 56 13 V' (z.es.length + 1) (eraRow (z.es ++ [x]))) (hg : w5.grownBy w1 V.ownBlock) (hgz : vz.ownBlock = some gz) :
 Rd wb (w1.setCell ⟨gz, zi.length * 2 + 1, none⟩ V') b ⟨S.rules, Src.addEra S.zones x, S.links⟩ line all ws := by
 have ht5 := ht.past hx
 have hV5 := own_past hV hx
 have hb1 := blk_grown (hblk.ext hx) (own_base hV5 hb) hg
 have hgb : b + 1 ≤ gz := (ht.zones.lt gz hgz).1
 have hz1 : w1.ownsRow (b + 1) 59 2 vz S.zones.length (zoneRow (zi ++ [(z, V)])) := own_other ht5.zones hV5 (by decide) hg
 refine ⟨((hxb.trans hx).grown (own_base hV5 hb) hge (by decide) hg).cell hz1 hgz (by omega) _ _, hge, vr, vz, vl, lv, _, Bw, ?_, ht5.era hb hl hV5 ho hg hgz, ?_⟩
 · rw [tree_names ht, open_add]
   have : (w1.setCell ⟨gz, zi.length * 2 + 1, none⟩ V').heap[b]? = w1.heap[b]? := Below.heap_setCell _ _ _ _ (by show b ≠ gz; omega)
   exact this.trans hb1
 · have h1 := own_other (own_past hw hx) hV5 (by decide) hg
   have hne := own_ne h1 hz1 (by decide)
   rw [hgz] at hne
   exact own_store h1 hne
theorem ext_store {w wk : World} (hx : Ext w wk) {p : Addr} (u : Value) : Ext (w.setCell p u) (wk.setCell p u) := by
 refine ⟨hx.os, hx.tape, hx.output, by simpa [World.setCell] using Below.size hx, fun k hk => ?_⟩
 have hk' : k < w.heap.size := by simpa [World.setCell] using hk
 simp only [World.setCell, Array.getElem?_modify, hx.block k hk']
theorem rd_flag {w : World} {b Bw : Nat} {vr vz vl lv : Value} {line : Int} {all : ByteArray} {op op' : Bool} {ws : List Src.Wd} {zp : List (Zone × Value)} {S : Source} (hblk : Blk w b #[vr, vz, vl, .int .i64 line, .string all, lv, .bool op] 49)
 (ht : Tree w (b + 1) vr vz vl zp S) (hw : w.ownsRow Bw 68 2 lv ws.length (wordCells ws)) :
 Blk (w.setCell ⟨b, 6, none⟩ (.bool op')) b #[vr, vz, vl, .int .i64 line, .string all, lv, .bool op'] 49 ∧ Tree (w.setCell ⟨b, 6, none⟩ (.bool op')) (b + 1) vr vz vl zp S ∧ (w.setCell ⟨b, 6, none⟩ (.bool op')).ownsRow Bw 68 2 lv ws.length (wordCells ws) := by
 refine ⟨?_, ht.store (by show b < b + 1; omega), own_store hw (own_blk hblk hw (by decide))⟩
 rw [hblk.set 6 (.bool op')]
 exact setB_blk hblk
theorem tree_split {w : World} {base : Nat} {vr vz vl : Value} {zp : List (Zone × Value)} {S : Source} (h : Tree w base vr vz vl zp S) (hne : S.zones ≠ []) : ∃ zi z V, zp = zi ++ [(z, V)] := by
 rcases List.eq_nil_or_concat zp with h0 | ⟨l, a, h0⟩
 · exfalso; apply hne; rw [← h.names, h0]; rfl
 · rw [List.concat_eq_append] at h0
   exact ⟨l, a.1, a.2, h0⟩
theorem tree_cells {w : World} {base gz : Nat} {vr vz vl V : Value} {zi : List (Zone × Value)} {z : Zone} {S : Source} (h : Tree w base vr vz vl (zi ++ [(z, V)]) S) (hgz : vz.ownBlock = some gz) : w.cell? ⟨gz, zi.length * 2 + 1, none⟩ = some V ∧ w.frozen? ⟨gz, zi.length * 2 + 1, none⟩ = false := by
 have hc := @World.ownsRow.cells _ _ _ _ _ _ _ h.zones gz hgz (zi.length * 2 + 1) V (by
  unfold zoneRow
  rw [rowOf_snoc, List.getElem?_append_right (by rw [rowOf_len (c := 2) (fun _ => rfl)]; omega), rowOf_len (c := 2) (fun _ => rfl), show zi.length * 2 + 1 - zi.length * 2 = 1 by omega]; rfl)
 have hadd : (⟨gz, 0, none⟩ : Addr).add (zi.length * 2 + 1) = ⟨gz, zi.length * 2 + 1, none⟩ := by unfold Addr.add; split <;> simp_all
 rw [hadd] at hc
 refine ⟨hc, ?_⟩
 rcases h.zones.2 with ⟨h1, _⟩ | ⟨g, cap, cur, h1, _, h3, _⟩
 · rw [h1] at hgz; simp [Value.ownBlock] at hgz
 · rw [h1] at hgz
   simp [Value.ownBlock] at hgz
   subst hgz
   unfold World.frozen?
   rw [h3]; simp
theorem Tree.last2 {w : World} {base : Nat} {vr vz vl V : Value} {zi : List (Zone × Value)} {z : Zone} {S : Source} (h : Tree w base vr vz vl (zi ++ [(z, V)]) S) (hb : base ≤ w.heap.size) : ∃ B, base ≤ B ∧ B ≤ w.heap.size ∧ (∀ p ∈ zi, LowV p.2 B) ∧ w.ownsRow B 56 13 V z.es.length (eraRow z.es) := by
 obtain ⟨B, h1, h2, h3⟩ := h.last
 refine ⟨min B w.heap.size, by omega, Nat.min_le_right _ _, fun p hp g hg => ?_, own_base h3 (Nat.min_le_left _ _)⟩
 have a1 := h2 p hp g hg
 have a2 := low_size (h.all_eras p (by simp [hp])) g hg
 omega
@[simp, go_sem] theorem Past.set_size {w : World} (y : Past w) (n i : Nat) (v : Value) [InW n w] : (y.set n i v).x.heap.size = y.x.heap.size := by
 show (y.x.setCell _ _).heap.size = _
 simp
@[go_sem] theorem cell_alloc_eq {w : World} {C : Array Value} {T : TypeId} (n i : Nat) (h : n = w.heap.size) : (w.alloc (.cells C T)).cell? ⟨n, i, none⟩ = C[i]? := by
 subst h
 exact World.cell?_alloc_new ..
end Go.Proofs.YtdhbgelijjlifaaGreatDoor
