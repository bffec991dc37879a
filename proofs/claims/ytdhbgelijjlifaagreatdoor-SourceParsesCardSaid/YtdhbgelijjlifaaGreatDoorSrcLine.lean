/- Walks of sources: the document's line: what a line leaves behind. -/
import Derived.Test.YtdhbgelijjlifaaGreatDoorSrcDocE0A
import Derived.Test.YtdhbgelijjlifaaGreatDoorSrcSet
import Derived.Test.YtdhbgelijjlifaaGreatDoorSrcLawB
set_option linter.unusedVariables false
set_option linter.unusedSimpArgs false
namespace Go.Proofs.YtdhbgelijjlifaaGreatDoor
open Go.RowKit Go.Shelf
def BoxT (T : TypeId) : Prop := T = 26 ∨ T = 29
def LineEnd (F : Frm) (w : World) (o : Fault ⊕ Source) (e : Ending) (w' : World) : Prop :=
 ∃ (a1 : Option Addr) (n1 c1 : Nat) (a2 : Option Addr) (n2 c2 : Nat) (a3 : Option Addr) (n3 c3 : Nat), e = .returned (.tuple #[.agg #[.slice a1 n1 c1, .slice a2 n2 c2, .slice a3 n3 c3], faultC (faultS o)]) ∧ Kept F w' ∧ (∀ b C T, BoxT T → Blk w b C T → Blk w' b C T) ∧ ∀ S', o = .inr S' → ∃ zp, Tree w' F.w.heap.size (.slice a1 n1 c1) (.slice a2 n2 c2) (.slice a3 n3 c3) zp S'
theorem line_bad {F : Frm} {w w' : World} [h : ExtC w w'] (hK : Kept F w) {o : Fault ⊕ Source} {f : Fault} {a1 : Option Addr} {n1 c1 : Nat} {a2 : Option Addr} {n2 c2 : Nat} {a3 : Option Addr} {n3 c3 : Nat} (ho : o = .inl f) : LineEnd F w o (.returned (.tuple #[.agg #[.slice a1 n1 c1, .slice a2 n2 c2, .slice a3 n3 c3], faultC f])) w' := by
 subst ho; exact ⟨_, _, _, _, _, _, _, _, _, rfl, hK.trans h.ext, fun b C T _ hb => hb.ext h.ext, fun _ h => by cases h⟩
structure LnIn (F : Frm) (w : World) (vr vz vl lv : Value) (zp : List (Zone × Value)) (S : Source) (ws : List Src.Wd) : Prop where
 kept : Kept F w
 tree : Tree w F.w.heap.size vr vz vl zp S
 words : ∃ Bw, w.ownsRow Bw 68 2 lv ws.length (wordCells ws)
 sz : ∀ x ∈ ws, x.1.size ≤ 1000
 pos : 0 < ws.length
 le : ws.length ≤ 16
theorem blk_grownT {w w1 : World} {b : Nat} {C : Array Value} {T e : TypeId} {base size n : Nat} {v : Value} {xs : List Value} (h : Blk w b C T) (ho : w.ownsRow base e size v n xs) (he : e ≠ T) (hg : w.grownBy w1 v.ownBlock) : Blk w1 b C T := by
 refine (hg.block b h.lt (fun e => ?_)).trans h
 rcases own_blk h ho he with h1 | h1
 · rw [h1] at e; cases e
 · exact h1 e.symm
theorem own_storeT {w : World} {base b i : Nat} {e T : TypeId} {size n : Nat} {v u : Value} {xs : List Value} {C : Array Value} (h : w.ownsRow base e size v n xs) (hb : Blk w b C T) (he : e ≠ T) : (w.setCell ⟨b, i, none⟩ u).ownsRow base e size v n xs := own_store h (own_blk hb h he)
theorem Tree.storeT {w : World} {base b i : Nat} {vr vz vl u : Value} {zp : List (Zone × Value)} {S : Source} {C : Array Value} {T : TypeId} (h : Tree w base vr vz vl zp S) (hb : Blk w b C T) (hT : BoxT T) : Tree (w.setCell ⟨b, i, none⟩ u) base vr vz vl zp S := by
 have n1 : 61 ≠ T := by rcases hT with rfl | rfl <;> decide
 have n2 : 59 ≠ T := by rcases hT with rfl | rfl <;> decide
 have n3 : 63 ≠ T := by rcases hT with rfl | rfl <;> decide
 have n4 : 56 ≠ T := by rcases hT with rfl | rfl <;> decide
 obtain ⟨h1, h2, h3, h4, B, hB, h5, h6⟩ := h
 exact ⟨own_storeT h1 hb n1, own_storeT h2 hb n2, own_storeT h3 hb n3, h4, B, hB, fun p hp => ⟨own_storeT (h5 p hp).1 hb n4, (h5 p hp).2⟩, fun p hp => own_storeT (h6 p hp) hb n4⟩
theorem Kept.storeT {F : Frm} {w : World} {b i : Nat} {u : Value} {C : Array Value} {T : TypeId} (h : Kept F w) (hb : Blk w b C T) (hT : BoxT T) (hge : F.w.heap.size ≤ b) : Kept F (w.setCell ⟨b, i, none⟩ u) :=
 ⟨h.ext.setCell hge u, own_storeT h.row hb (by rcases hT with rfl | rfl <;> decide)⟩
theorem blk_other {w : World} {b b' i : Nat} {u : Value} {C : Array Value} {T : TypeId} (h : Blk w b C T) (hb : b ≠ b') : Blk (w.setCell ⟨b', i, none⟩ u) b C T := (Below.heap_setCell _ _ _ _ hb).trans h
structure Ln (F : Frm) (w0 w : World) (n5 n10 n11 : Nat) (vr vz vl : Value) (zp : List (Zone × Value)) (S : Option Source) : Prop where
 kept : Kept F w
 fr : ∀ b C T, BoxT T → Blk w0 b C T → Blk w b C T
 lo : w0.heap.size ≤ n5 ∧ w0.heap.size ≤ n10 ∧ w0.heap.size ≤ n11
 tree : ∀ S', S = some S' → Tree w F.w.heap.size vr vz vl zp S'
 b5 : ∃ C, Blk w n5 C 26
 b10 : ∃ C, Blk w n10 C 26
 b11 : ∃ C, Blk w n11 C 29
 g5 : F.w.heap.size ≤ n5
 g10 : F.w.heap.size ≤ n10
 g11 : F.w.heap.size ≤ n11
section
variable {F : Frm} {w0 w w' : World} {n5 n10 n11 : Nat} {vr vz vl : Value} {zp : List (Zone × Value)} {S : Option Source}
theorem Ln.past (h : Ln F w0 w n5 n10 n11 vr vz vl zp S) (hx : Ext w w') : Ln F w0 w' n5 n10 n11 vr vz vl zp S := by
 obtain ⟨h1, hfr, hlo, h2, ⟨C5, h3⟩, ⟨C10, h4⟩, ⟨C11, h5⟩, g5, g10, g11⟩ := h
 exact ⟨h1.trans hx, fun b C T hT hb => (hfr b C T hT hb).ext hx, hlo, fun S' e => (h2 S' e).past hx, ⟨_, h3.ext hx⟩, ⟨_, h4.ext hx⟩, ⟨_, h5.ext hx⟩, g5, g10, g11⟩
theorem blk_keep {b b' i : Nat} {u : Value} {T : TypeId} (h : ∃ C, Blk w b C T) : ∃ C, Blk (w.setCell ⟨b', i, none⟩ u) b C T := by
 obtain ⟨C, h⟩ := h
 by_cases e : b = b'
 · subst e
   exact ⟨C.setIfInBounds i u, by rw [h.set i u]; exact setB_blk h⟩
 · exact ⟨C, blk_other h e⟩
theorem Ln.store (h : Ln F w0 w n5 n10 n11 vr vz vl zp S) {b i : Nat} {u : Value} (hb : b = n5 ∨ b = n10 ∨ b = n11) : Ln F w0 (w.setCell ⟨b, i, none⟩ u) n5 n10 n11 vr vz vl zp S := by
 obtain ⟨h1, hfr, hlo, h2, h3, h4, h5, g5, g10, g11⟩ := h
 have : ∃ C T, Blk w b C T ∧ BoxT T ∧ F.w.heap.size ≤ b := by
  rcases hb with rfl | rfl | rfl
  · obtain ⟨C, h3⟩ := h3; exact ⟨C, _, h3, .inl rfl, g5⟩
  · obtain ⟨C, h4⟩ := h4; exact ⟨C, _, h4, .inl rfl, g10⟩
  · obtain ⟨C, h5⟩ := h5; exact ⟨C, _, h5, .inr rfl, g11⟩
 obtain ⟨C, T, hB, hT, hge⟩ := this
 refine ⟨h1.storeT hB hT hge, fun b' C' T' hT' hb' => blk_other (hfr b' C' T' hT' hb') (by have := hb'.lt; omega), hlo, fun S' e => (h2 S' e).storeT hB hT, blk_keep h3, blk_keep h4, blk_keep h5, g5, g10, g11⟩
end
theorem Kept.grownT {F : Frm} {w w' : World} {e : TypeId} {size n : Nat} {v : Value} {xs : List Value} (h : Kept F w) (ho : w.ownsRow F.w.heap.size e size v n xs) (he : 9 ≠ e) (hg : w.grownBy w' v.ownBlock) : Kept F w' :=
 ⟨Ext.grown h.ext ho hg, own_other h.row ho he hg⟩
theorem line_end {F : Frm} {w0 w : World} {n5 n10 n11 : Nat} {a1 : Option Addr} {n1 c1 : Nat} {a2 : Option Addr} {n2 c2 : Nat} {a3 : Option Addr} {n3 c3 : Nat} {zp : List (Zone × Value)} {S : Option Source} {o : Fault ⊕ Source} (h : Ln F w0 w n5 n10 n11 (.slice a1 n1 c1) (.slice a2 n2 c2) (.slice a3 n3 c3) zp S) {f : Fault} (hf : faultS o = f) (hS : ∀ S', o = .inr S' → S = some S') : LineEnd F w0 o (.returned (.tuple #[.agg #[.slice a1 n1 c1, .slice a2 n2 c2, .slice a3 n3 c3], faultC f])) w := by
 subst hf
 exact ⟨_, _, _, _, _, _, _, _, _, rfl, h.kept, h.fr, fun S' e => ⟨zp, h.tree S' (hS S' e)⟩⟩
theorem row_block {w : World} {base : Nat} {e : TypeId} {size n : Nat} {v : Value} {xs : List Value} (h : w.ownsRow base e size v n xs) (hn : n ≠ 0) : ∃ g c, v = .slice (some ⟨g, 0, none⟩) n c := by
 rcases h.2 with ⟨_, h2⟩ | ⟨g, cap, cur, h1, _⟩
 · exact absurd h2 hn
 · exact ⟨g, cap, h1⟩
theorem words_at {w : World} {base g c n : Nat} {ws : List Src.Wd} (h : w.ownsRow base 68 2 (.slice (some ⟨g, 0, none⟩) n c) n (wordCells ws)) (j : Nat) (hj : j < ws.length) :
 w.cell? ⟨g, j * 2, none⟩ = some (.string (Src.tx ws j)) ∧ w.cell? ⟨g, j * 2 + 1, none⟩ = some (.int .i64 (Src.pt ws j)) := by
 have hc := @World.ownsRow.cells _ _ _ _ _ _ _ h g rfl
 have hadd : ∀ i, (⟨g, 0, none⟩ : Addr).add i = ⟨g, 0 + i, none⟩ := by intro i; unfold Addr.add; split <;> simp_all
 have := wd_at (w := w) (b := g) (o := 0) (ws := ws) (fun i u hu => by have := hc i u hu; rwa [hadd] at this) j hj
 simpa using this
theorem frame_grown {w w5 w1 : World} {base : Nat} {e : TypeId} {size n : Nat} {v : Value} {xs : List Value} (hx : Ext w w5) (ho : w5.ownsRow base e size v n xs) (h1 : e ≠ 26) (h2 : e ≠ 29) (hg : w5.grownBy w1 v.ownBlock) : ∀ b C T, BoxT T → Blk w b C T → Blk w1 b C T :=
 fun b C T hT hb => blk_grownT (hb.ext hx) ho (by rcases hT with rfl | rfl <;> assumption) hg
theorem box3 (w : World) (A B C : Array Value) (T1 T2 T3 : TypeId) : Blk (((w.alloc (.cells A T1)).alloc (.cells B T2)).alloc (.cells C T3)) w.heap.size A T1 ∧ Blk (((w.alloc (.cells A T1)).alloc (.cells B T2)).alloc (.cells C T3)) (w.heap.size + 1) B T2 ∧ Blk (((w.alloc (.cells A T1)).alloc (.cells B T2)).alloc (.cells C T3)) (w.heap.size + 1 + 1) C T3 := by
 refine ⟨?_, ?_, ?_⟩
 · exact (isext (w := w.alloc (.cells A T1))).block w.heap.size (by simp) |>.trans (World.alloc_heap_new w _)
 · have := World.alloc_heap_new (w.alloc (.cells A T1)) (.cells B T2)
   rw [World.size_alloc] at this
   exact ((isext (w := (w.alloc (.cells A T1)).alloc (.cells B T2)) (w' := ((w.alloc (.cells A T1)).alloc (.cells B T2)).alloc (.cells C T3))).block (w.heap.size + 1) (by simp)).trans this
 · have := World.alloc_heap_new ((w.alloc (.cells A T1)).alloc (.cells B T2)) (.cells C T3)
   rw [World.size_alloc, World.size_alloc] at this
   exact this
theorem box2a (w : World) (A B : Array Value) (T1 T2 : TypeId) : Blk ((w.alloc (.cells A T1)).alloc (.cells B T2)) w.heap.size A T1 :=
 ((isext (w := w.alloc (.cells A T1))).block w.heap.size (by simp)).trans (World.alloc_heap_new w _)
theorem box2 (w : World) (A B : Array Value) (T1 T2 : TypeId) : Blk ((w.alloc (.cells A T1)).alloc (.cells B T2)) (w.heap.size + 1) B T2 := by
 have := World.alloc_heap_new (w.alloc (.cells A T1)) (.cells B T2)
 rw [World.size_alloc] at this
 exact this
theorem blk_newT {w w5 w1 : World} {b base : Nat} {C : Array Value} {T e : TypeId} {size n : Nat} {v : Value} {xs : List Value} (h : Blk w5 b C T) (ho : w.ownsRow base e size v n xs) (hb : w.heap.size ≤ b) (hg : w5.grownBy w1 v.ownBlock) : Blk w1 b C T := by
 refine (hg.block b h.lt (fun e => ?_)).trans h
 have := (ho.lt b e.symm).2
 omega
theorem zone_cell {w : World} {base gz n k : Nat} {vz V : Value} {zi : List (Zone × Value)} {z : Zone} (h : w.ownsRow base 59 2 vz n (zoneRow (zi ++ [(z, V)]))) (hgz : vz.ownBlock = some gz) (hk : zi.length = k) : w.cell? ⟨gz, k * 2 + 1, none⟩ = some V ∧ w.frozen? ⟨gz, k * 2 + 1, none⟩ = false := by
 subst hk
 have hc := @World.ownsRow.cells _ _ _ _ _ _ _ h gz hgz (zi.length * 2 + 1) V (by
  unfold zoneRow
  rw [rowOf_snoc, List.getElem?_append_right (by rw [rowOf_len (c := 2) (fun _ => rfl)]; omega), rowOf_len (c := 2) (fun _ => rfl), show zi.length * 2 + 1 - zi.length * 2 = 1 by omega]; rfl)
 have hadd : (⟨gz, 0, none⟩ : Addr).add (zi.length * 2 + 1) = ⟨gz, zi.length * 2 + 1, none⟩ := by unfold Addr.add; split <;> simp_all
 rw [hadd] at hc
 refine ⟨hc, ?_⟩
 rcases h.2 with ⟨h1, _⟩ | ⟨g, cap, cur, h1, _, h3, _⟩
 · rw [h1] at hgz; simp [Value.ownBlock] at hgz
 · rw [h1] at hgz
   simp [Value.ownBlock] at hgz
   subst hgz
   unfold World.frozen?
   rw [h3]; simp
theorem blk_otherT {w : World} {b gz i base n : Nat} {u vz : Value} {xs : List Value} {C : Array Value} {T : TypeId} (h : Blk w b C T) (hz : w.ownsRow base 59 2 vz n xs) (hgz : vz.ownBlock = some gz) (hT : BoxT T) : Blk (w.setCell ⟨gz, i, none⟩ u) b C T := by
 refine blk_other h (fun e => ?_)
 have := own_blk h hz (by rcases hT with rfl | rfl <;> decide)
 rw [hgz, e] at this
 simp at this
theorem far1 {w : World} {b i c j : Nat} {u v : Value} (h : b ≠ c) (hc : w.cell? ⟨c, j, none⟩ = some u) : (w.setCell ⟨b, i, none⟩ v).cell? ⟨c, j, none⟩ = some u :=
 (World.cell?_setCell_far w ⟨b, i, none⟩ ⟨c, j, none⟩ v h).trans hc
theorem Tryz.infoZoneT : (Tryz.prog.info? 59).map (fun i => (i.zero, i.size, i.bytes)) = some (some (.agg #[.string ByteArray.empty, .slice none 0 0]), 2, 40) := by kernel_rfl
theorem Tryz.infoEraT : (Tryz.prog.info? 56).map (fun i => (i.zero, i.size, i.bytes)) = some (some (.agg #[.int .i64 0, .int .i64 0, .int .i64 0, .string ByteArray.empty, .string ByteArray.empty, .bool false, .int .i64 0, .int .i64 0, .int .i64 0, .int .i64 0, .int .i64 0, .int .i64 0, .int .i64 0]), 13, 120) := by kernel_rfl
end Go.Proofs.YtdhbgelijjlifaaGreatDoor
