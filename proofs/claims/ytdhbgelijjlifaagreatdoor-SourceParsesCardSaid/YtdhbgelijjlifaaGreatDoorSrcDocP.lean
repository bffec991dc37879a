/- Walks of sources: the document's Parse. -/
import Derived.Test.YtdhbgelijjlifaaGreatDoorSrcLineR
import Derived.Test.YtdhbgelijjlifaaGreatDoorSrcLineN
import Derived.Test.YtdhbgelijjlifaaGreatDoorSrcRdW
import Derived.Test.YtdhbgelijjlifaaGreatDoorFieWalkE
set_option linter.unusedVariables false
set_option linter.unusedSimpArgs false
namespace Go.Proofs.YtdhbgelijjlifaaGreatDoor
open Go.RowKit Go.Shelf
namespace Src
def okE (S : Source) : Prop := S.zones = [] ∨ lastE S ≠ []
theorem line_okE {S S' : Source} {ws : List Wd} {size : Nat} {line : Int} (h : lineP S ws size line = .inr S') (hf : okE S) : okE S' := by
 unfold lineP at h
 split at h
 · rename_i ho
   unfold nextP at h
   split at h
   · cases h
   split at h
   · cases h
   split at h
   · cases h
   · injection h with h; subst h
     have hl := last_add (x := ‹Era›) S.rules S.links (open_zones ho)
     right
     rw [hl.1]
     simp
 split at h
 · unfold ruleLineP at h
   split at h
   · cases h
   split at h
   · cases h
   split at h
   · cases h
   · injection h with h; subst h
     exact hf
 split at h
 · unfold zoneP at h
   split at h
   · cases h
   split at h
   · cases h
   split at h
   · cases h
   split at h
   · cases h
   · injection h with h; subst h
     right
     unfold lastE; simp
 split at h
 · unfold linkP at h
   split at h
   · cases h
   split at h
   · cases h
   split at h
   · cases h
   split at h
   · cases h
   · injection h with h; subst h
     exact hf
 · cases h
theorem read_okE {S S' : Source} {s : ByteArray} {n : Int} (h : readP S s n = .inr S') (hf : okE S) : okE S' := by
 unfold readP at h
 split at h
 · cases h
 split at h
 · injection h with h; subst h; exact hf
 · exact line_okE h hf
end Src
theorem dline_any (F : Frm) (w : World) (vr vz vl lv : Value) (zp : List (Zone × Value)) (S : Source) (ws : List Src.Wd) (all : ByteArray) (line : Int) (h : LnIn F w vr vz vl lv zp S ws) (hf : Src.fitsN S) (hall : all.size ≤ 1048576) :
 Calls Tryz.prog 27 #[.agg #[vr, vz, vl], lv, .string all, .int .i64 line, .bool (Src.openB S)] w (LineEnd F w (Src.lineP S ws all.size line)) := by
 cases hop : Src.openB S
 · rcases lit_cases (Src.tx ws 0) ⟨#[82, 117, 108, 101]⟩ [82, 117, 108, 101] (by decide +kernel) with ⟨r1, r2, r3⟩ | ⟨r1, r2, r3⟩
   · rw [line_rule hop (by unfold Src.tl; rw [r3])]
     exact dline_rule F w vr vz vl lv zp S ws all line h hf hall r1 r2
   · rcases lit_cases (Src.tx ws 0) ⟨#[90, 111, 110, 101]⟩ [90, 111, 110, 101] (by decide +kernel) with ⟨s1, s2, s3⟩ | ⟨s1, s2, s3⟩
     · rw [line_zone hop (by unfold Src.tl; rw [s3])]
       exact dline_zone F w vr vz vl lv zp S ws all line h hf hall r1 r2 s1 s2
     · rcases lit_cases (Src.tx ws 0) ⟨#[76, 105, 110, 107]⟩ [76, 105, 110, 107] (by decide +kernel) with ⟨t1, t2, t3⟩ | ⟨t1, t2, t3⟩
       · rw [line_link hop (by unfold Src.tl; rw [t3])]
         exact dline_link F w vr vz vl lv zp S ws all line h hf hall r1 r2 s1 s2 t1 t2
       · exact dline_word F w vr vz vl lv zp S ws all line h hf hall r1 r2 s1 s2 t1 t2 hop
 · rw [line_next hop]
   exact dline_next F w vr vz vl lv zp S ws all line h hf hall hop
theorem rsplitw_any (s : ByteArray) (hs : s.size ≤ maxLen) (w : World) : Calls Tryz.prog 17 #[.string s] w (SplitEnd w (Src.splitW s)) := by
 unfold Src.splitW
 split
 · exact rsplit_any s w ‹_›
 · exact rsplit_long s w hs (by omega)
set_option maxRecDepth 100000 in
set_option maxHeartbeats 4000000 in
theorem dparse_long (s : ByteArray) (w : World) (hs : s.size ≤ maxLen) (h : 100000 < s.size) : Calls Tryz.prog 9 #[.string s] w (ParseEnd w (Src.parseT s)) := by
 have HO : Hid (Src.parseT s = .inl ⟨12, 0, 0⟩) := Lib.hid (by unfold Src.parseT; rw [if_pos h])
 have g : (100000 : Int) < s.size := by omega
 unfold maxLen at hs
 go_enter Tryz.func9, Tryz.ntmps9
 go_wp2
 refine bodyPost_ret (v := .tuple #[.agg #[.slice none 0 0, .slice none 0 0, .slice none 0 0], faultC ⟨12, 0, 0⟩]) ?_ rfl (parse_bad HO.out isext)
 simp [results, Tryz.results9, go_sem]
theorem calls_at {P : Program} {f : FuncId} {args : Array Value} {A cur : World} {R : Ending → World → Prop} {Q : World → Ending → World → Prop} (hx : Ext A cur) (H : ∀ w', Ext A w' → Hid (Calls P f args w' (Q w'))) (k : ∀ e w', Q cur e w' → R e w') : Calls P f args cur R := ((H cur hx).out).mono k
theorem blk_put {w : World} {b i : Nat} {u : Value} {C : Array Value} {T : TypeId} (h : Blk w b C T) : Blk (w.setCell ⟨b, i, none⟩ u) b (C.setIfInBounds i u) T := by
 rw [h.set i u]; exact setB_blk h
theorem blk_put3 {w : World} {b : Nat} {u0 u1 u2 v0 v1 v2 : Value} {T : TypeId} (h : Blk w b #[u0, u1, u2] T) : Blk (((w.setCell ⟨b, 0, none⟩ v0).setCell ⟨b, 1, none⟩ v1).setCell ⟨b, 2, none⟩ v2) b #[v0, v1, v2] T := blk_put (blk_put (blk_put h))
theorem kept_put3 {F : Frm} {w : World} {b : Nat} {u0 u1 u2 v0 v1 v2 : Value} (hK : Kept F w) (h : Blk w b #[u0, u1, u2] 26) (hge : F.w.heap.size ≤ b) : Kept F (((w.setCell ⟨b, 0, none⟩ v0).setCell ⟨b, 1, none⟩ v1).setCell ⟨b, 2, none⟩ v2) :=
 ((hK.storeT h (.inl rfl) hge).storeT (blk_put h) (.inl rfl) hge).storeT (blk_put (blk_put h)) (.inl rfl) hge
theorem tree_put3 {w : World} {base b : Nat} {vr vz vl u0 u1 u2 v0 v1 v2 : Value} {zp : List (Zone × Value)} {S : Source} (hT : Tree w base vr vz vl zp S) (h : Blk w b #[u0, u1, u2] 26) : Tree (((w.setCell ⟨b, 0, none⟩ v0).setCell ⟨b, 1, none⟩ v1).setCell ⟨b, 2, none⟩ v2) base vr vz vl zp S :=
 ((hT.storeT h (.inl rfl)).storeT (blk_put h) (.inl rfl)).storeT (blk_put (blk_put h)) (.inl rfl)
def Dp (F : Frm) (w : World) (n4 : Nat) (C4 : Array Value) (o : Fault ⊕ Source) (v1 v2 v3 : Value) : Prop := Kept F w ∧ Blk w n4 C4 26 ∧ ∀ S', o = .inr S' → ∃ zp, Tree w F.w.heap.size v1 v2 v3 zp S'
theorem Dp.ext {F : Frm} {w w' : World} {n4 : Nat} {C4 : Array Value} {o : Fault ⊕ Source} {v1 v2 v3 : Value} (h : Dp F w n4 C4 o v1 v2 v3) (hx : Ext w w') : Dp F w' n4 C4 o v1 v2 v3 :=
 ⟨h.1.trans hx, h.2.1.ext hx, fun S' e => by obtain ⟨zp, hT⟩ := h.2.2 S' e; exact ⟨zp, hT.past hx⟩⟩
theorem Dp.put {F : Frm} {w : World} {n4 b i : Nat} {C4 C : Array Value} {T : TypeId} {o : Fault ⊕ Source} {v1 v2 v3 u : Value} (h : Dp F w n4 C4 o v1 v2 v3) (hb : Blk w b C T) (hT : BoxT T) (hge : F.w.heap.size ≤ b) (hne : n4 ≠ b) : Dp F (w.setCell ⟨b, i, none⟩ u) n4 C4 o v1 v2 v3 :=
 ⟨h.1.storeT hb hT hge, blk_other h.2.1 hne, fun S' e => by obtain ⟨zp, hT'⟩ := h.2.2 S' e; exact ⟨zp, hT'.storeT hb hT⟩⟩
theorem Dp.put3 {F : Frm} {w : World} {n4 b : Nat} {C4 C : Array Value} {T : TypeId} {o : Fault ⊕ Source} {v1 v2 v3 u0 u1 u2 : Value} (h : Dp F w n4 C4 o v1 v2 v3) (hb : Blk w b C T) (hT : BoxT T) (hge : F.w.heap.size ≤ b) (hne : n4 ≠ b) : Dp F (((w.setCell ⟨b, 0, none⟩ u0).setCell ⟨b, 1, none⟩ u1).setCell ⟨b, 2, none⟩ u2) n4 C4 o v1 v2 v3 :=
 ((h.put hb hT hge hne).put (blk_put hb) hT hge hne).put (blk_put (blk_put hb)) hT hge hne
theorem blk_other3 {w : World} {b b' : Nat} {u0 u1 u2 : Value} {C : Array Value} {T : TypeId} (h : Blk w b C T) (hb : b ≠ b') : Blk (((w.setCell ⟨b', 0, none⟩ u0).setCell ⟨b', 1, none⟩ u1).setCell ⟨b', 2, none⟩ u2) b C T := blk_other (blk_other (blk_other h hb) hb) hb
theorem last_til {w : World} {base : Nat} {vr vz vl : Value} {zp : List (Zone × Value)} {S : Source} (h : Tree w base vr vz vl zp S) (hk : Src.okE S) (hz : S.zones ≠ []) :
 ∃ (gz cz ge ce k m : Nat), S.zones.length = k + 1 ∧ vz = .slice (some ⟨gz, 0, none⟩) (k + 1) cz ∧ w.cell? ⟨gz, k * 2 + 1, none⟩ = some (.slice (some ⟨ge, 0, none⟩) (m + 1) ce) ∧ w.cell? ⟨ge, m * 13 + 5, none⟩ = some (.bool (Src.openB S)) ∧ gz < w.heap.size ∧ ge < w.heap.size ∧ (Src.lastE S).length = m + 1 := by
 obtain ⟨zi, z, V, rfl⟩ := tree_split h hz
 have hnm := tree_names h
 have hlast : Src.lastE S = z.es := by unfold Src.lastE; rw [hnm]; simp
 have hne : z.es ≠ [] := by rcases hk with h1 | h1; exact absurd h1 hz; rwa [hlast] at h1
 have hlen : S.zones.length = zi.length + 1 := by rw [hnm]; simp
 have hzo := h.zones
 obtain ⟨gz, cz, e1⟩ := row_block hzo (by omega)
 obtain ⟨z1, -⟩ := zone_cell hzo (by rw [e1]; rfl) rfl
 have hV := h.all_eras (z, V) (by simp)
 have hl0 : z.es.length ≠ 0 := fun e => hne (List.eq_nil_of_length_eq_zero e)
 obtain ⟨ge, ce, e2⟩ := row_block hV hl0
 obtain ⟨m, hm⟩ : ∃ m, z.es.length = m + 1 := ⟨z.es.length - 1, by omega⟩
 simp only at e2 hV
 rw [e2, hm] at z1 hV
 have hc := @World.ownsRow.cells _ _ _ _ _ _ _ hV ge rfl
 have hadd : ∀ i, (⟨ge, 0, none⟩ : Addr).add i = ⟨ge, 0 + i, none⟩ := by intro i; unfold Addr.add; split <;> simp_all
 have hat := era_at (w := w) (b := ge) (o := 0) (l := z.es) (fun i u hu => by have := hc i u hu; rwa [hadd] at this) m (by omega)
 have hop : Src.openB S = z.es[m].til := by
  unfold Src.openB
  rw [hlast]
  have : z.es.getLast? = some z.es[m] := by
   rw [List.getLast?_eq_getElem?, show z.es.length - 1 = m by omega]
   exact List.getElem?_eq_getElem _
  rw [this]
 refine ⟨gz, cz, ge, ce, zi.length, m, hlen, by rw [← hlen]; exact e1, z1, ?_, (hzo.lt gz (by rw [e1]; rfl)).2, (hV.lt ge rfl).2, by rw [hlast]; exact hm⟩
 rw [hop]
 have := hat.2.2.2.2.2.1
 rwa [Nat.zero_add] at this
set_option maxRecDepth 100000 in
set_option maxHeartbeats 16000000 in
theorem dparse_short (s : ByteArray) (w : World) (h : s.size ≤ 100000) : Calls Tryz.prog 9 #[.string s] w (ParseEnd w (Src.parseT s)) := by
 have HO : Hid (Src.parseT s = Src.parseP (Fie.lines s 0) 0 ⟨[], [], []⟩) := Lib.hid (by unfold Src.parseT; rw [if_neg (by omega)])
 have hsz : ∀ x ∈ Fie.lines s 0, x.size ≤ 1048576 := by
  intro x hx
  rw [Src.lines_eq] at hx
  obtain ⟨l, hl, rfl⟩ := List.mem_map.1 hx
  have := Src.linesL_len _ l hl
  simp at this
  show l.toArray.size ≤ 1048576
  simp; omega
 have hcn : (Fie.lines s 0).length ≤ 100000 := by
  rw [Src.lines_eq, List.length_map]
  have := Src.linesL_count s.data.toList
  simp at this
  omega
 have HL := fun w => Lib.hid (rlines_any s w (by omega))
 generalize Fie.lines s 0 = ls at *
 obtain ⟨n, hn⟩ : ∃ n, ls.length = n := ⟨_, rfl⟩
 have g : decide ((100000 : Int) < s.size) = false := decide_eq_false (by omega)
 go_enter Tryz.func9, Tryz.ntmps9
 go_wp2_with fail
 go_at_call 16
 refine (HL _).out.mono ?_
 rintro _ _ ⟨v, y, rfl, hown, rfl⟩
 clear HL
 rw [hn] at hown hcn
 obtain ⟨av, cv, rfl⟩ := owns_shape hown
 obtain ⟨B0, hown0⟩ : ∃ B0, y.x.ownsRow B0 9 1 (.slice av n cv) n (ls.map Value.string) := ⟨_, hown⟩
 obtain ⟨F, hF⟩ : ∃ F : Frm, F = ⟨((w.alloc (.cells #[.slice none 0 0, .slice none 0 0, .slice none 0 0] 26)).alloc (.cells #[.int .i64 0, .int .i64 0, .int .i64 0] 29)), B0, .slice av n cv, n, ls.map Value.string⟩ := ⟨_, rfl⟩
 have hK : Kept F y.x := by rw [hF]; exact ⟨isext, hown0⟩
 have hFw : F.w.heap.size = w.heap.size + 2 := by rw [hF]; simp
 have hextF : Ext w F.w := by rw [hF]; exact isext
 have hp2 : Blk F.w w.heap.size #[.slice none 0 0, .slice none 0 0, .slice none 0 0] 26 := by
  rw [hF]
  exact (isext (w := w.alloc (.cells #[.slice none 0 0, .slice none 0 0, .slice none 0 0] 26))).block w.heap.size (by simp) |>.trans (World.alloc_heap_new w _)
 have hq2 : Blk F.w (w.heap.size + 1) #[.int .i64 0, .int .i64 0, .int .i64 0] 29 := by
  rw [hF]
  have := World.alloc_heap_new (w.alloc (.cells #[.slice none 0 0, .slice none 0 0, .slice none 0 0] 26)) (.cells #[.int .i64 0, .int .i64 0, .int .i64 0] 29)
  rw [World.size_alloc] at this
  exact this
 have hFv : F.v = .slice av n cv ∧ F.n = n ∧ F.xs = ls.map Value.string := by rw [hF]; exact ⟨rfl, rfl, rfl⟩
 have hb4 : Blk y.x (w.heap.size + 1 + 1) #[.slice none 0 0, .slice none 0 0, .slice none 0 0] 26 := (box3 w #[.slice none 0 0, .slice none 0 0, .slice none 0 0] #[.int .i64 0, .int .i64 0, .int .i64 0] #[.slice none 0 0, .slice none 0 0, .slice none 0 0] 26 29 26).2.2.ext isext
 clear hF hown hown0
 have hsz' := Lib.hid hsz
 have hnn := Lib.hid hn
 clear hsz hn
 go_wp2_with fail
 go_loopw [5, 7] (fun ov iv wr => ∃ (j : Nat) (S : Source) (vr vz vl : Value) (zp : List (Zone × Value)), j ≤ n ∧ iv = .int .i64 j ∧ ov = .bool (Src.openB S) ∧ Kept F wr ∧ Tree wr F.w.heap.size vr vz vl zp S ∧ Blk wr (w.heap.size + 1 + 1) #[vr, vz, vl] 26 ∧ Src.fitsN S ∧ Src.okE S ∧ Hid (Src.parseP (ls.drop j) j S = Src.parseP ls 0 ⟨[], [], []⟩)) (fun _ iv _ => n - (intOf iv).toNat)
 case atStart => exact ⟨0, ⟨[], [], []⟩, _, _, _, [], by omega, rfl, rfl, hK, Tree.empty, hb4, ⟨by simp, by simp, by simp, by unfold Src.lastE; simp⟩, .inl rfl, Lib.hid rfl⟩
 case round =>
  obtain ⟨j, S, vr, vz, vl, zp, j1, rfl, rfl, hKw, hT, hB4, hfit, hokE, HP⟩ := hrel
  clear hK hb4
  have hpw := hp2.ext hKw.ext
  have hqw := hq2.ext hKw.ext
  haveI : InW w.heap.size wr := ⟨hpw.lt⟩
  haveI : InW (w.heap.size + 1) wr := ⟨hqw.lt⟩
  haveI : InW (w.heap.size + 1 + 1) wr := ⟨hB4.lt⟩
  have hxw : Ext w wr := hextF.trans hKw.ext
  haveI : ExtC w wr := ⟨hxw⟩
  have p0 : wr.cell? ⟨w.heap.size, 0, none⟩ = some (.slice none 0 0) := (hpw.cell 0).trans rfl
  have p1 : wr.cell? ⟨w.heap.size, 1, none⟩ = some (.slice none 0 0) := (hpw.cell 1).trans rfl
  have p2 : wr.cell? ⟨w.heap.size, 2, none⟩ = some (.slice none 0 0) := (hpw.cell 2).trans rfl
  have q0 : wr.cell? ⟨w.heap.size + 1, 0, none⟩ = some (.int .i64 0) := (hqw.cell 0).trans rfl
  have q1 : wr.cell? ⟨w.heap.size + 1, 1, none⟩ = some (.int .i64 0) := (hqw.cell 1).trans rfl
  have q2 : wr.cell? ⟨w.heap.size + 1, 2, none⟩ = some (.int .i64 0) := (hqw.cell 2).trans rfl
  have c40 : wr.cell? ⟨w.heap.size + 1 + 1, 0, none⟩ = some vr := (hB4.cell 0).trans rfl
  have c41 : wr.cell? ⟨w.heap.size + 1 + 1, 1, none⟩ = some vz := (hB4.cell 1).trans rfl
  have c42 : wr.cell? ⟨w.heap.size + 1 + 1, 2, none⟩ = some vl := (hB4.cell 2).trans rfl
  have pf0 := hpw.frozen 0
  have pf1 := hpw.frozen 1
  have pf2 := hpw.frozen 2
  have qf0 := hqw.frozen 0
  have qf1 := hqw.frozen 1
  have qf2 := hqw.frozen 2
  obtain ⟨ar, cr, hvr⟩ := owns_shape hT.rules
  obtain ⟨az, cz, hvz⟩ := owns_shape hT.zones
  obtain ⟨al, cl, hvl⟩ := owns_shape hT.links
  by_cases hlt : j < n
  · have hl : j < ls.length := by rw [hnn.out]; exact hlt
    have hP2 : Src.parseP ls 0 ⟨[], [], []⟩ = match Src.readP S ls[j] ((j : Int) + 1) with | .inl f => .inl f | .inr S' => Src.parseP (ls.drop (j + 1)) ((j : Int) + 1) S' := by
     rw [← HP.out, List.drop_eq_getElem_cons hl, Src.parse_cons]
     cases Src.readP S ls[j] ((j : Int) + 1) <;> rfl
    have HP2 := Lib.hid hP2
    have hls := hsz'.out ls[j] (List.getElem_mem hl)
    have hrow := hKw.row
    rw [hFv.1, hFv.2.1, hFv.2.2] at hrow
    obtain ⟨g', c, he⟩ := row_block hrow (by omega)
    injection he with he1 he2 he3
    subst he1
    obtain ⟨-, hgw⟩ := hrow.lt g' rfl
    haveI : InW g' wr := ⟨hgw⟩
    have hcell : wr.cell? ⟨g', j, none⟩ = some (.string ls[j]) := by
     have hc := @World.ownsRow.cells _ _ _ _ _ _ _ hrow g' rfl j (.string ls[j]) (by simp [hl])
     have hadd : (⟨g', 0, none⟩ : Addr).add j = ⟨g', j, none⟩ := by unfold Addr.add; split <;> simp_all
     rwa [hadd] at hc
    have gj : (j : Int) < n := by omega
    have HRW : ∀ w', Kept F w' → w'.cell? ⟨g', j, none⟩ = some (.string (ls[j]'hl)) := fun w' hk => by
     have hrow := hk.row
     rw [hFv.1, hFv.2.1, hFv.2.2] at hrow
     have hc := @World.ownsRow.cells _ _ _ _ _ _ _ hrow g' rfl j (.string ls[j]) (by simp [hl])
     have hadd : (⟨g', 0, none⟩ : Addr).add j = ⟨g', j, none⟩ := by unfold Addr.add; split <;> simp_all
     rwa [hadd] at hc
    clear hP2 hrow HP he2 he3
    have HD := fun w => Lib.hid (rsplitw_any (ls[j]'hl) (by unfold maxLen; omega) w)
    have hRe := fun ws p e h1 h2 => read_err (S := S) (s := ls[j]'hl) (n := (j : Int) + 1) (ws := ws) (p := p) (e := e) h1 h2
    have hRn := fun p e h1 h2 => read_none (S := S) (s := ls[j]'hl) (n := (j : Int) + 1) (p := p) (e := e) h1 h2
    have hRl := fun ws p e h1 h2 h3 => read_line (S := S) (s := ls[j]'hl) (n := (j : Int) + 1) (ws := ws) (p := p) (e := e) h1 h2 h3
    have hwk := Src.words_ok (ls[j]'hl)
    generalize ls[j] = X at *
    cases hsp : Src.splitW X with
    | mk ws pe =>
    obtain ⟨p, e⟩ := pe
    rw [hsp] at HD hwk
    go_wp2_with fail
    go_at_call 17
    refine (HD _).out.mono ?_
    rintro _ _ ⟨v3, y3, rfl, hv3, rfl⟩
    clear HD
    simp only at hv3 hwk ⊢
    have hKy := hKw.trans y3.hb
    have hTy := hT.past y3.hb
    have hBy := hB4.ext y3.hb
    by_cases he : e = 0
    rotate_left
    · have g3 : (e != 0) = true := by simpa using he
      have HR := Lib.hid (hRe ws p e hsp he)
      obtain ⟨a3, c3, rfl⟩ := owns_shape hv3
      go_wp2
      refine bodyPost_ret (v := .tuple #[.agg #[.slice none 0 0, .slice none 0 0, .slice none 0 0], faultC ⟨e, (j : Int) + 1, p⟩]) ?_ rfl (parse_bad (by rw [HO.out, HP2.out, HR.out]) isext)
      simp [results, Tryz.results9, go_sem, p0, p1, p2, q0, q1, q2]
    · have g3 : (e != 0) = false := by simpa using he
      by_cases hw0 : ws = []
      · subst hw0
        have HR := Lib.hid (hRn p e hsp he)
        have HP3 : Hid (Src.parseP (ls.drop (j + 1)) ((j + 1 : Nat) : Int) S = Src.parseP ls 0 ⟨[], [], []⟩) := Lib.hid (by rw [HP2.out, HR.out]; rfl)
        obtain ⟨a3, c3, rfl⟩ := owns_shape hv3
        clear hRe hRn hRl hsp
        go_wp2_with fail
        go_roundw
        case rel => exact ⟨j + 1, S, vr, vz, vl, zp, by omega, by go_num, rfl, hKy, hTy, hBy, hfit, hokE, HP3⟩
        case measure => simp [intOf]; omega
      · have HR := Lib.hid (hRl ws p e hsp he hw0)
        clear hRe hRn hRl hsp
        have hpos : 0 < ws.length := List.length_pos_iff.2 hw0
        obtain ⟨m, hm⟩ : ∃ m, ws.length = m := ⟨_, rfl⟩
        have HC := fun w' (hx : Ext y3.x w') => Lib.hid (dline_any F w' vr vz vl v3 zp S ws X ((j : Int) + 1) ⟨hKy.trans hx, hTy.past hx, ⟨_, own_past hv3 hx⟩, hwk.2, hpos, hwk.1⟩ hfit hls)
        have hfit' := fun S' (e : Src.readP S X ((j : Int) + 1) = .inr S') => Src.read_fits e hfit
        have hok' := fun S' (e : Src.readP S X ((j : Int) + 1) = .inr S') => Src.read_okE e hokE
        rw [HR.out] at hfit' hok'
        have HP4 : Hid (Src.parseP ls 0 ⟨[], [], []⟩ = match Src.lineP S ws X.size ((j : Int) + 1) with | .inl f => .inl f | .inr S' => Src.parseP (ls.drop (j + 1)) ((j : Int) + 1) S') := Lib.hid (by rw [HP2.out, HR.out])
        have hfe := fun f (e : Src.lineP S ws X.size ((j : Int) + 1) = .inl f) => (Src.line_line e).2
        clear HP2 HR
        generalize Src.lineP S ws X.size ((j : Int) + 1) = OUT at *
        rw [hm] at hv3 hpos
        obtain ⟨a3, c3, rfl⟩ := owns_shape hv3
        have g4 : ((m : Int) == 0) = false := beq_eq_false_iff_ne.2 (by omega)
        have HROW : ∀ w', Kept F w' → w'.cell? ⟨g', j, none⟩ = some (.string X) := HRW
        subst hvr hvz hvl
        go_upto_region 13 with fail
        go_cut [11, 12] from 22 to 91 (fun s11 s12 wx => ∃ (A B : Nat) (v1 v2 v3 : Value), s11 = .pointer (some ⟨A, 0, none⟩) ∧ s12 = .pointer (some ⟨B, 0, none⟩) ∧ wx.cell? ⟨A, 0, none⟩ = some v1 ∧ wx.cell? ⟨A, 1, none⟩ = some v2 ∧ wx.cell? ⟨A, 2, none⟩ = some v3 ∧ wx.cell? ⟨B, 0, none⟩ = some (.int .i64 (faultS OUT).e) ∧ wx.cell? ⟨B, 1, none⟩ = some (.int .i64 (faultS OUT).line) ∧ wx.cell? ⟨B, 2, none⟩ = some (.int .i64 (faultS OUT).at0) ∧ w.heap.size + 1 + 1 < A ∧ w.heap.size + 1 + 1 < B ∧ A < wx.heap.size ∧ B < wx.heap.size ∧ Kept F wx ∧ Blk wx (w.heap.size + 1 + 1) #[.slice ar S.rules.length cr, .slice az S.zones.length cz, .slice al S.links.length cl] 26 ∧ (∀ S', OUT = .inr S' → ∃ zp, Tree wx F.w.heap.size v1 v2 v3 zp S'))
        case first =>
         -- REGION13
         have hwy3 : w.heap.size + 1 + 1 < y3.x.heap.size := (inferInstance : InW (w.heap.size + 1 + 1) y3.x).lt
         have hgy : g' < y3.x.heap.size := (inferInstance : InW g' y3.x).lt
         have nq0 : ¬ y3.x.heap.size = w.heap.size + 1 + 1 := by omega
         have nq1 : ¬ y3.x.heap.size + 1 = w.heap.size + 1 + 1 := by omega
         have nq2 : ¬ y3.x.heap.size = w.heap.size + 1 := by omega
         have nq3 : ¬ y3.x.heap.size = g' := by omega
         have nq4 : ¬ y3.x.heap.size + 1 = g' := by omega
         have hwrp : IntKind.i64.wrap ((j : Int) + 1) = (j : Int) + 1 := by rw [IntKind.wrap_i64]; omega
         refine wp_region_held_drew (S := fun w' => w'.cell? ⟨w.heap.size + 1 + 1, 0, none⟩ = some (.slice ar S.rules.length cr) ∧ w'.cell? ⟨w.heap.size + 1 + 1, 1, none⟩ = some (.slice az S.zones.length cz) ∧ w'.cell? ⟨w.heap.size + 1 + 1, 2, none⟩ = some (.slice al S.links.length cl) ∧ w'.cell? ⟨g', j, none⟩ = some (.string X)) (by kernel_rfl) (by (try dsimp only); ((repeat' apply And.intro) <;> (first | done | (go_simp; done) | go_keep))) (fun hHeld => ?_)
         refine wpAnyH_take (i := 0) (oi := ⟨some 49, _, _, _, _, _⟩) (v := ?_) rfl (by kernel_rfl) (by kernel_rfl) (by kernel_rfl) (fun _ _ _ h => h) (Or.inl ⟨by rfl, ?_⟩) (by assumption) ?_
         rotate_left
         · intro w hSw; (try dsimp only at hSw); go_simp; first | done | with_reducible rfl | rw [if_pos (by omega)] | rw [if_neg (by omega)]
         try simp only [Act.put, putA, putZ, putS]
         refine wpAnyH_take (i := 1) (oi := ⟨some 50, _, _, _, _, _⟩) (v := ?_) rfl (by kernel_rfl) (by kernel_rfl) (by kernel_rfl) (fun _ _ _ h => h) (Or.inl ⟨by rfl, ?_⟩) (by assumption) ?_
         rotate_left
         · intro w hSw; (try dsimp only at hSw); go_simp; first | done | with_reducible rfl | rw [if_pos (by omega)] | rw [if_neg (by omega)]
         try simp only [Act.put, putA, putZ, putS]
         refine wpAnyH_take (i := 2) (oi := ⟨some 51, _, _, _, _, _⟩) (v := ?_) rfl (by kernel_rfl) (by kernel_rfl) (by kernel_rfl) (fun _ _ _ h => h) (Or.inl ⟨by rfl, ?_⟩) (by assumption) ?_
         rotate_left
         · intro w hSw; (try dsimp only at hSw); go_simp; first | done | with_reducible rfl | rw [if_pos (by omega)] | rw [if_neg (by omega)]
         try simp only [Act.put, putA, putZ, putS]
         refine wpAnyH_take (i := 3) (oi := ⟨some 52, _, _, _, _, _⟩) (v := ?_) rfl (by kernel_rfl) (by kernel_rfl) (by kernel_rfl) (fun _ _ _ h => h) (Or.inl ⟨by rfl, ?_⟩) (by assumption) ?_
         rotate_left
         · intro w hSw; (try dsimp only at hSw); go_simp; first | done | with_reducible rfl | rw [if_pos (by omega)] | rw [if_neg (by omega)]
         try simp only [Act.put, putA, putZ, putS]
         refine wpAnyH_take (i := 4) (oi := ⟨some 53, _, _, _, _, _⟩) (v := ?_) rfl (by kernel_rfl) (by kernel_rfl) (by kernel_rfl) (fun _ _ _ h => h) (Or.inl ⟨by rfl, ?_⟩) (by assumption) ?_
         rotate_left
         · intro w hSw; (try dsimp only at hSw); go_simp; first | done | with_reducible rfl | rw [if_pos (by omega)] | rw [if_neg (by omega)]
         try simp only [Act.put, putA, putZ, putS]
         refine wpAnyH_take (i := 5) (oi := ⟨some 54, _, _, _, _, _⟩) (v := ?_) rfl (by kernel_rfl) (by kernel_rfl) (by kernel_rfl) (fun _ _ _ h => h) (Or.inl ⟨by rfl, ?_⟩) (by assumption) ?_
         rotate_left
         · intro w hSw; (try dsimp only at hSw); go_simp; first | done | with_reducible rfl | rw [if_pos (by omega)] | rw [if_neg (by omega)]
         try simp only [Act.put, putA, putZ, putS]
         refine wpAnyH_take (i := 6) (oi := ⟨some 55, _, _, _, _, _⟩) (v := ?_) rfl (by kernel_rfl) (by kernel_rfl) (by kernel_rfl) (fun _ _ _ h => h) (Or.inl ⟨by rfl, ?_⟩) (by assumption) ?_
         rotate_left
         · intro w hSw; (try dsimp only at hSw); go_simp; first | done | with_reducible rfl | rw [if_pos (by omega)] | rw [if_neg (by omega)]
         try simp only [Act.put, putA, putZ, putS]
         refine wpAnyH_take (i := 7) (oi := ⟨some 56, _, _, _, _, _⟩) (v := ?_) rfl (by kernel_rfl) (by kernel_rfl) (by kernel_rfl) (fun _ _ _ h => h) (Or.inl ⟨by rfl, ?_⟩) (by assumption) ?_
         rotate_left
         · intro w hSw; (try dsimp only at hSw); go_simp; first | done | with_reducible rfl | rw [if_pos (by omega)] | rw [if_neg (by omega)]
         try simp only [Act.put, putA, putZ, putS]
         refine wpAnyH_take (i := 8) (oi := ⟨some 57, _, _, _, _, _⟩) (v := ?_) rfl (by kernel_rfl) (by kernel_rfl) (by kernel_rfl) (fun _ _ _ h => h) (Or.inl ⟨by rfl, ?_⟩) (by assumption) ?_
         rotate_left
         · intro w hSw; (try dsimp only at hSw); go_simp; first | done | with_reducible rfl | rw [if_pos (by omega)] | rw [if_neg (by omega)]
         try simp only [Act.put, putA, putZ, putS]
         refine wpAnyH_ready (rs := [9, 13, 14]) (by kernel_rfl) (by simp) ?_
         refine AllReadyH.cons (o := ⟨some 58, _, _, _, _, _⟩) rfl (fun K hK => ?_) ?_
         · go_simp; refine calls_at (A := y3.x) (Q := fun w' => LineEnd F w' OUT) isext HC ?_; rintro _ wL ⟨a1, n1, c1, a2, n2, c2, a4, n4, c4, rfl, hK1, hfr, hT1⟩; have B4L := hfr _ _ _ (.inl rfl) (hBy.ext isext); have i4L : InW (w.heap.size + 1 + 1) wL := ⟨B4L.lt⟩; have m0 : wL.cell? ⟨w.heap.size + 1 + 1, 0, none⟩ = some (.slice ar S.rules.length cr) := (B4L.cell 0).trans rfl; have m1 : wL.cell? ⟨w.heap.size + 1 + 1, 1, none⟩ = some (.slice az S.zones.length cz) := (B4L.cell 1).trans rfl; have m2 : wL.cell? ⟨w.heap.size + 1 + 1, 2, none⟩ = some (.slice al S.links.length cl) := (B4L.cell 2).trans rfl; have m3 := HROW wL hK1; have igL : InW g' wL := ⟨World.block_lt_of_cell? wL _ m3⟩; have hD : Dp F wL (w.heap.size + 1 + 1) #[.slice ar S.rules.length cr, .slice az S.zones.length cz, .slice al S.links.length cl] OUT (.slice a1 n1 c1) (.slice a2 n2 c2) (.slice a4 n4 c4) := ⟨hK1, B4L, hT1⟩; first | (have BX := hfr y3.x.heap.size #[.slice none 0 0, .slice none 0 0, .slice none 0 0] 26 (.inl rfl) (World.alloc_heap_new y3.x _); have iBX : InW (y3.x.heap.size) wL := ⟨BX.lt⟩; have bX0 : wL.cell? ⟨y3.x.heap.size, 0, none⟩ = some (.slice none 0 0) := (BX.cell 0).trans rfl; have bX1 : wL.cell? ⟨y3.x.heap.size, 1, none⟩ = some (.slice none 0 0) := (BX.cell 1).trans rfl; have bX2 : wL.cell? ⟨y3.x.heap.size, 2, none⟩ = some (.slice none 0 0) := (BX.cell 2).trans rfl; have bfX0 := BX.frozen 0; have bfX1 := BX.frozen 1; have bfX2 := BX.frozen 2) | (have BX := hfr y3.x.heap.size #[.slice none 0 0, .slice none 0 0, .slice none 0 0] 26 (.inl rfl) (box2a y3.x #[.slice none 0 0, .slice none 0 0, .slice none 0 0] #[.int .i64 0, .int .i64 0, .int .i64 0] 26 29); have BY := hfr (y3.x.heap.size + 1) #[.int .i64 0, .int .i64 0, .int .i64 0] 29 (.inr rfl) (box2 y3.x #[.slice none 0 0, .slice none 0 0, .slice none 0 0] #[.int .i64 0, .int .i64 0, .int .i64 0] 26 29); have iBX : InW (y3.x.heap.size) wL := ⟨BX.lt⟩; have bX0 : wL.cell? ⟨y3.x.heap.size, 0, none⟩ = some (.slice none 0 0) := (BX.cell 0).trans rfl; have bX1 : wL.cell? ⟨y3.x.heap.size, 1, none⟩ = some (.slice none 0 0) := (BX.cell 1).trans rfl; have bX2 : wL.cell? ⟨y3.x.heap.size, 2, none⟩ = some (.slice none 0 0) := (BX.cell 2).trans rfl; have bfX0 := BX.frozen 0; have bfX1 := BX.frozen 1; have bfX2 := BX.frozen 2; have iBY : InW (y3.x.heap.size + 1) wL := ⟨BY.lt⟩; have bY0 : wL.cell? ⟨y3.x.heap.size + 1, 0, none⟩ = some (.int .i64 0) := (BY.cell 0).trans rfl; have bY1 : wL.cell? ⟨y3.x.heap.size + 1, 1, none⟩ = some (.int .i64 0) := (BY.cell 1).trans rfl; have bY2 : wL.cell? ⟨y3.x.heap.size + 1, 2, none⟩ = some (.int .i64 0) := (BY.cell 2).trans rfl; have bfY0 := BY.frozen 0; have bfY1 := BY.frozen 1; have bfY2 := BY.frozen 2) | (have BY := hfr y3.x.heap.size #[.int .i64 0, .int .i64 0, .int .i64 0] 29 (.inr rfl) (World.alloc_heap_new y3.x _); have iBY : InW (y3.x.heap.size) wL := ⟨BY.lt⟩; have bY0 : wL.cell? ⟨y3.x.heap.size, 0, none⟩ = some (.int .i64 0) := (BY.cell 0).trans rfl; have bY1 : wL.cell? ⟨y3.x.heap.size, 1, none⟩ = some (.int .i64 0) := (BY.cell 1).trans rfl; have bY2 : wL.cell? ⟨y3.x.heap.size, 2, none⟩ = some (.int .i64 0) := (BY.cell 2).trans rfl; have bfY0 := BY.frozen 0; have bfY1 := BY.frozen 1; have bfY2 := BY.frozen 2) | (have BY := hfr y3.x.heap.size #[.int .i64 0, .int .i64 0, .int .i64 0] 29 (.inr rfl) (box2a y3.x #[.int .i64 0, .int .i64 0, .int .i64 0] #[.slice none 0 0, .slice none 0 0, .slice none 0 0] 29 26); have BX := hfr (y3.x.heap.size + 1) #[.slice none 0 0, .slice none 0 0, .slice none 0 0] 26 (.inl rfl) (box2 y3.x #[.int .i64 0, .int .i64 0, .int .i64 0] #[.slice none 0 0, .slice none 0 0, .slice none 0 0] 29 26); have iBY : InW (y3.x.heap.size) wL := ⟨BY.lt⟩; have bY0 : wL.cell? ⟨y3.x.heap.size, 0, none⟩ = some (.int .i64 0) := (BY.cell 0).trans rfl; have bY1 : wL.cell? ⟨y3.x.heap.size, 1, none⟩ = some (.int .i64 0) := (BY.cell 1).trans rfl; have bY2 : wL.cell? ⟨y3.x.heap.size, 2, none⟩ = some (.int .i64 0) := (BY.cell 2).trans rfl; have bfY0 := BY.frozen 0; have bfY1 := BY.frozen 1; have bfY2 := BY.frozen 2; have iBX : InW (y3.x.heap.size + 1) wL := ⟨BX.lt⟩; have bX0 : wL.cell? ⟨y3.x.heap.size + 1, 0, none⟩ = some (.slice none 0 0) := (BX.cell 0).trans rfl; have bX1 : wL.cell? ⟨y3.x.heap.size + 1, 1, none⟩ = some (.slice none 0 0) := (BX.cell 1).trans rfl; have bX2 : wL.cell? ⟨y3.x.heap.size + 1, 2, none⟩ = some (.slice none 0 0) := (BX.cell 2).trans rfl; have bfX0 := BX.frozen 0; have bfX1 := BX.frozen 1; have bfX2 := BX.frozen 2) | skip
           refine hK.out _ _ ?_ (fun hHeld => ?_)
           · (try dsimp only); ((repeat' apply And.intro) <;> (first | done | (go_simp; done) | go_keep))
           clear hK K
           try simp only [Act.put, putA, putZ, putS]
           refine wpAnyH_take (i := 10) (oi := ⟨some 48, _, _, _, _, _⟩) (v := ?_) rfl (by kernel_rfl) (by kernel_rfl) (by kernel_rfl) (fun _ _ _ h => h) (Or.inl ⟨by rfl, ?_⟩) (by assumption) ?_
           rotate_left
           · intro w hSw; (try dsimp only at hSw); go_simp; first | done | with_reducible rfl | rw [if_pos (by omega)] | rw [if_neg (by omega)]
           try simp only [Act.put, putA, putZ, putS]
           refine wpAnyH_take (i := 11) (oi := ⟨some 59, _, _, _, _, _⟩) (v := ?_) rfl (by kernel_rfl) (by kernel_rfl) (by kernel_rfl) (fun _ _ _ h => h) (Or.inl ⟨by rfl, ?_⟩) (by assumption) ?_
           rotate_left
           · intro w hSw; (try dsimp only at hSw); go_simp; first | done | with_reducible rfl | rw [if_pos (by omega)] | rw [if_neg (by omega)]
           try simp only [Act.put, putA, putZ, putS]
           refine wpAnyH_take (i := 12) (oi := ⟨some 60, _, _, _, _, _⟩) (v := ?_) rfl (by kernel_rfl) (by kernel_rfl) (by kernel_rfl) (fun _ _ _ h => h) (Or.inl ⟨by rfl, ?_⟩) (by assumption) ?_
           rotate_left
           · intro w hSw; (try dsimp only at hSw); go_simp; first | done | with_reducible rfl | rw [if_pos (by omega)] | rw [if_neg (by omega)]
           try simp only [Act.put, putA, putZ, putS]
           refine wpAnyH_ready (rs := [13, 14]) (by kernel_rfl) (by simp) ?_
           refine AllReadyH.cons (o := ⟨some 11, _, _, _, _, _⟩) rfl (fun K hK => ?_) ?_
           · go_simp
             refine hK.out _ _ ?_ (fun hHeld => ?_)
             · (try dsimp only); ((repeat' apply And.intro) <;> (first | done | (go_simp; done) | go_keep))
             clear hK K
             try simp only [Act.put, putA, putZ, putS]
             refine wpAnyH_ready (rs := [14]) (by kernel_rfl) (by simp) ?_
             refine AllReadyH.cons (o := ⟨some 12, _, _, _, _, _⟩) rfl (fun K hK => ?_) ?_
             · go_simp
               refine hK.out _ _ ?_ (fun hHeld => ?_)
               · (try dsimp only); ((repeat' apply And.intro) <;> (first | done | (go_simp; done) | go_keep))
               clear hK K
               try simp only [Act.put, putA, putZ, putS]
               refine wpAnyH_ready (rs := [15]) (by kernel_rfl) (by simp) ?_
               refine AllReadyH.cons (o := ⟨none, _, _, _, _, _⟩) rfl (fun K hK => ?_) ?_
               · go_simp
                 refine hK.out _ _ ?_ (fun hHeld => ?_)
                 · (try dsimp only); ((repeat' apply And.intro) <;> (first | done | (go_simp; done) | go_keep))
                 clear hK K
                 try simp only [Act.put, putA, putZ, putS]
                 refine wpAnyH_ready (rs := [16]) (by kernel_rfl) (by simp) ?_
                 refine AllReadyH.cons (o := ⟨none, _, _, _, _, _⟩) rfl (fun K hK => ?_) ?_
                 · go_simp
                   refine hK.out _ _ ?_ (fun hHeld => ?_)
                   · (try dsimp only); ((repeat' apply And.intro) <;> (first | done | (go_simp; done) | go_keep))
                   clear hK K
                   try simp only [Act.put, putA, putZ, putS]
                   refine wpAnyH_done (by kernel_rfl) ?_ _
                   go_wp2_with fail
                   go_meet
                   refine ⟨_, _, .slice a1 n1 c1, .slice a2 n2 c2, .slice a4 n4 c4, rfl, rfl, by go_simp, by go_simp, by go_simp, by go_simp, by go_simp, by go_simp, ?_, ?_, ?_, ?_, ?_⟩
                   · have := i4L.lt; omega
                   · have := i4L.lt; omega
                   · first | (go_simp; done) | (have := BX.lt; simpa using this) | (refine Nat.lt_of_lt_of_le BX.lt ?_; simp; done)
                   · first | (go_simp; done) | (have := BY.lt; simpa using this) | (refine Nat.lt_of_lt_of_le BY.lt ?_; simp; done)
                   · first
                      | exact hD.ext isext
                      | exact (hD.put3 (u0 := .slice a1 n1 c1) (u1 := .slice a2 n2 c2) (u2 := .slice a4 n4 c4) BX (.inl rfl) (by omega) (by omega)).ext isext
                      | exact (hD.put3 (u0 := .int .i64 (faultS OUT).e) (u1 := .int .i64 (faultS OUT).line) (u2 := .int .i64 (faultS OUT).at0) BY (.inr rfl) (by omega) (by omega)).ext isext
                      | exact ((hD.put3 (u0 := .slice a1 n1 c1) (u1 := .slice a2 n2 c2) (u2 := .slice a4 n4 c4) BX (.inl rfl) (by omega) (by omega)).put3 (u0 := .int .i64 (faultS OUT).e) (u1 := .int .i64 (faultS OUT).line) (u2 := .int .i64 (faultS OUT).at0) (blk_other3 BY (by omega)) (.inr rfl) (by omega) (by omega)).ext isext
                 exact AllReadyH.nil
               exact AllReadyH.nil
             exact AllReadyH.nil
           refine AllReadyH.cons (o := ⟨some 12, _, _, _, _, _⟩) rfl (fun K hK => ?_) ?_
           · go_simp
             refine hK.out _ _ ?_ (fun hHeld => ?_)
             · (try dsimp only); ((repeat' apply And.intro) <;> (first | done | (go_simp; done) | go_keep))
             clear hK K
             try simp only [Act.put, putA, putZ, putS]
             refine wpAnyH_ready (rs := [13]) (by kernel_rfl) (by simp) ?_
             refine AllReadyH.cons (o := ⟨some 11, _, _, _, _, _⟩) rfl (fun K hK => ?_) ?_
             · go_simp
               refine hK.out _ _ ?_ (fun hHeld => ?_)
               · (try dsimp only); ((repeat' apply And.intro) <;> (first | done | (go_simp; done) | go_keep))
               clear hK K
               try simp only [Act.put, putA, putZ, putS]
               refine wpAnyH_ready (rs := [15]) (by kernel_rfl) (by simp) ?_
               refine AllReadyH.cons (o := ⟨none, _, _, _, _, _⟩) rfl (fun K hK => ?_) ?_
               · go_simp
                 refine hK.out _ _ ?_ (fun hHeld => ?_)
                 · (try dsimp only); ((repeat' apply And.intro) <;> (first | done | (go_simp; done) | go_keep))
                 clear hK K
                 try simp only [Act.put, putA, putZ, putS]
                 refine wpAnyH_ready (rs := [16]) (by kernel_rfl) (by simp) ?_
                 refine AllReadyH.cons (o := ⟨none, _, _, _, _, _⟩) rfl (fun K hK => ?_) ?_
                 · go_simp
                   refine hK.out _ _ ?_ (fun hHeld => ?_)
                   · (try dsimp only); ((repeat' apply And.intro) <;> (first | done | (go_simp; done) | go_keep))
                   clear hK K
                   try simp only [Act.put, putA, putZ, putS]
                   refine wpAnyH_done (by kernel_rfl) ?_ _
                   go_wp2_with fail
                   go_meet
                   refine ⟨_, _, .slice a1 n1 c1, .slice a2 n2 c2, .slice a4 n4 c4, rfl, rfl, by go_simp, by go_simp, by go_simp, by go_simp, by go_simp, by go_simp, ?_, ?_, ?_, ?_, ?_⟩
                   · have := i4L.lt; omega
                   · have := i4L.lt; omega
                   · first | (go_simp; done) | (have := BX.lt; simpa using this) | (refine Nat.lt_of_lt_of_le BX.lt ?_; simp; done)
                   · first | (go_simp; done) | (have := BY.lt; simpa using this) | (refine Nat.lt_of_lt_of_le BY.lt ?_; simp; done)
                   · first
                      | exact hD.ext isext
                      | exact (hD.put3 (u0 := .slice a1 n1 c1) (u1 := .slice a2 n2 c2) (u2 := .slice a4 n4 c4) BX (.inl rfl) (by omega) (by omega)).ext isext
                      | exact (hD.put3 (u0 := .int .i64 (faultS OUT).e) (u1 := .int .i64 (faultS OUT).line) (u2 := .int .i64 (faultS OUT).at0) BY (.inr rfl) (by omega) (by omega)).ext isext
                      | exact ((hD.put3 (u0 := .slice a1 n1 c1) (u1 := .slice a2 n2 c2) (u2 := .slice a4 n4 c4) BX (.inl rfl) (by omega) (by omega)).put3 (u0 := .int .i64 (faultS OUT).e) (u1 := .int .i64 (faultS OUT).line) (u2 := .int .i64 (faultS OUT).at0) (blk_other3 BY (by omega)) (.inr rfl) (by omega) (by omega)).ext isext
                 exact AllReadyH.nil
               exact AllReadyH.nil
             exact AllReadyH.nil
           exact AllReadyH.nil
         refine AllReadyH.cons (o := ⟨some 11, _, _, _, _, _⟩) rfl (fun K hK => ?_) ?_
         · go_simp
           refine hK.out _ _ ?_ (fun hHeld => ?_)
           · (try dsimp only); ((repeat' apply And.intro) <;> (first | done | (go_simp; done) | go_keep))
           clear hK K
           try simp only [Act.put, putA, putZ, putS]
           refine wpAnyH_ready (rs := [9, 14]) (by kernel_rfl) (by simp) ?_
           refine AllReadyH.cons (o := ⟨some 58, _, _, _, _, _⟩) rfl (fun K hK => ?_) ?_
           · go_simp; refine calls_at (A := y3.x) (Q := fun w' => LineEnd F w' OUT) isext HC ?_; rintro _ wL ⟨a1, n1, c1, a2, n2, c2, a4, n4, c4, rfl, hK1, hfr, hT1⟩; have B4L := hfr _ _ _ (.inl rfl) (hBy.ext isext); have i4L : InW (w.heap.size + 1 + 1) wL := ⟨B4L.lt⟩; have m0 : wL.cell? ⟨w.heap.size + 1 + 1, 0, none⟩ = some (.slice ar S.rules.length cr) := (B4L.cell 0).trans rfl; have m1 : wL.cell? ⟨w.heap.size + 1 + 1, 1, none⟩ = some (.slice az S.zones.length cz) := (B4L.cell 1).trans rfl; have m2 : wL.cell? ⟨w.heap.size + 1 + 1, 2, none⟩ = some (.slice al S.links.length cl) := (B4L.cell 2).trans rfl; have m3 := HROW wL hK1; have igL : InW g' wL := ⟨World.block_lt_of_cell? wL _ m3⟩; have hD : Dp F wL (w.heap.size + 1 + 1) #[.slice ar S.rules.length cr, .slice az S.zones.length cz, .slice al S.links.length cl] OUT (.slice a1 n1 c1) (.slice a2 n2 c2) (.slice a4 n4 c4) := ⟨hK1, B4L, hT1⟩; first | (have BX := hfr y3.x.heap.size #[.slice none 0 0, .slice none 0 0, .slice none 0 0] 26 (.inl rfl) (World.alloc_heap_new y3.x _); have iBX : InW (y3.x.heap.size) wL := ⟨BX.lt⟩; have bX0 : wL.cell? ⟨y3.x.heap.size, 0, none⟩ = some (.slice none 0 0) := (BX.cell 0).trans rfl; have bX1 : wL.cell? ⟨y3.x.heap.size, 1, none⟩ = some (.slice none 0 0) := (BX.cell 1).trans rfl; have bX2 : wL.cell? ⟨y3.x.heap.size, 2, none⟩ = some (.slice none 0 0) := (BX.cell 2).trans rfl; have bfX0 := BX.frozen 0; have bfX1 := BX.frozen 1; have bfX2 := BX.frozen 2) | (have BX := hfr y3.x.heap.size #[.slice none 0 0, .slice none 0 0, .slice none 0 0] 26 (.inl rfl) (box2a y3.x #[.slice none 0 0, .slice none 0 0, .slice none 0 0] #[.int .i64 0, .int .i64 0, .int .i64 0] 26 29); have BY := hfr (y3.x.heap.size + 1) #[.int .i64 0, .int .i64 0, .int .i64 0] 29 (.inr rfl) (box2 y3.x #[.slice none 0 0, .slice none 0 0, .slice none 0 0] #[.int .i64 0, .int .i64 0, .int .i64 0] 26 29); have iBX : InW (y3.x.heap.size) wL := ⟨BX.lt⟩; have bX0 : wL.cell? ⟨y3.x.heap.size, 0, none⟩ = some (.slice none 0 0) := (BX.cell 0).trans rfl; have bX1 : wL.cell? ⟨y3.x.heap.size, 1, none⟩ = some (.slice none 0 0) := (BX.cell 1).trans rfl; have bX2 : wL.cell? ⟨y3.x.heap.size, 2, none⟩ = some (.slice none 0 0) := (BX.cell 2).trans rfl; have bfX0 := BX.frozen 0; have bfX1 := BX.frozen 1; have bfX2 := BX.frozen 2; have iBY : InW (y3.x.heap.size + 1) wL := ⟨BY.lt⟩; have bY0 : wL.cell? ⟨y3.x.heap.size + 1, 0, none⟩ = some (.int .i64 0) := (BY.cell 0).trans rfl; have bY1 : wL.cell? ⟨y3.x.heap.size + 1, 1, none⟩ = some (.int .i64 0) := (BY.cell 1).trans rfl; have bY2 : wL.cell? ⟨y3.x.heap.size + 1, 2, none⟩ = some (.int .i64 0) := (BY.cell 2).trans rfl; have bfY0 := BY.frozen 0; have bfY1 := BY.frozen 1; have bfY2 := BY.frozen 2) | (have BY := hfr y3.x.heap.size #[.int .i64 0, .int .i64 0, .int .i64 0] 29 (.inr rfl) (World.alloc_heap_new y3.x _); have iBY : InW (y3.x.heap.size) wL := ⟨BY.lt⟩; have bY0 : wL.cell? ⟨y3.x.heap.size, 0, none⟩ = some (.int .i64 0) := (BY.cell 0).trans rfl; have bY1 : wL.cell? ⟨y3.x.heap.size, 1, none⟩ = some (.int .i64 0) := (BY.cell 1).trans rfl; have bY2 : wL.cell? ⟨y3.x.heap.size, 2, none⟩ = some (.int .i64 0) := (BY.cell 2).trans rfl; have bfY0 := BY.frozen 0; have bfY1 := BY.frozen 1; have bfY2 := BY.frozen 2) | (have BY := hfr y3.x.heap.size #[.int .i64 0, .int .i64 0, .int .i64 0] 29 (.inr rfl) (box2a y3.x #[.int .i64 0, .int .i64 0, .int .i64 0] #[.slice none 0 0, .slice none 0 0, .slice none 0 0] 29 26); have BX := hfr (y3.x.heap.size + 1) #[.slice none 0 0, .slice none 0 0, .slice none 0 0] 26 (.inl rfl) (box2 y3.x #[.int .i64 0, .int .i64 0, .int .i64 0] #[.slice none 0 0, .slice none 0 0, .slice none 0 0] 29 26); have iBY : InW (y3.x.heap.size) wL := ⟨BY.lt⟩; have bY0 : wL.cell? ⟨y3.x.heap.size, 0, none⟩ = some (.int .i64 0) := (BY.cell 0).trans rfl; have bY1 : wL.cell? ⟨y3.x.heap.size, 1, none⟩ = some (.int .i64 0) := (BY.cell 1).trans rfl; have bY2 : wL.cell? ⟨y3.x.heap.size, 2, none⟩ = some (.int .i64 0) := (BY.cell 2).trans rfl; have bfY0 := BY.frozen 0; have bfY1 := BY.frozen 1; have bfY2 := BY.frozen 2; have iBX : InW (y3.x.heap.size + 1) wL := ⟨BX.lt⟩; have bX0 : wL.cell? ⟨y3.x.heap.size + 1, 0, none⟩ = some (.slice none 0 0) := (BX.cell 0).trans rfl; have bX1 : wL.cell? ⟨y3.x.heap.size + 1, 1, none⟩ = some (.slice none 0 0) := (BX.cell 1).trans rfl; have bX2 : wL.cell? ⟨y3.x.heap.size + 1, 2, none⟩ = some (.slice none 0 0) := (BX.cell 2).trans rfl; have bfX0 := BX.frozen 0; have bfX1 := BX.frozen 1; have bfX2 := BX.frozen 2) | skip
             refine hK.out _ _ ?_ (fun hHeld => ?_)
             · (try dsimp only); ((repeat' apply And.intro) <;> (first | done | (go_simp; done) | go_keep))
             clear hK K
             try simp only [Act.put, putA, putZ, putS]
             refine wpAnyH_take (i := 10) (oi := ⟨some 48, _, _, _, _, _⟩) (v := ?_) rfl (by kernel_rfl) (by kernel_rfl) (by kernel_rfl) (fun _ _ _ h => h) (Or.inl ⟨by rfl, ?_⟩) (by assumption) ?_
             rotate_left
             · intro w hSw; (try dsimp only at hSw); go_simp; first | done | with_reducible rfl | rw [if_pos (by omega)] | rw [if_neg (by omega)]
             try simp only [Act.put, putA, putZ, putS]
             refine wpAnyH_take (i := 11) (oi := ⟨some 59, _, _, _, _, _⟩) (v := ?_) rfl (by kernel_rfl) (by kernel_rfl) (by kernel_rfl) (fun _ _ _ h => h) (Or.inl ⟨by rfl, ?_⟩) (by assumption) ?_
             rotate_left
             · intro w hSw; (try dsimp only at hSw); go_simp; first | done | with_reducible rfl | rw [if_pos (by omega)] | rw [if_neg (by omega)]
             try simp only [Act.put, putA, putZ, putS]
             refine wpAnyH_take (i := 12) (oi := ⟨some 60, _, _, _, _, _⟩) (v := ?_) rfl (by kernel_rfl) (by kernel_rfl) (by kernel_rfl) (fun _ _ _ h => h) (Or.inl ⟨by rfl, ?_⟩) (by assumption) ?_
             rotate_left
             · intro w hSw; (try dsimp only at hSw); go_simp; first | done | with_reducible rfl | rw [if_pos (by omega)] | rw [if_neg (by omega)]
             try simp only [Act.put, putA, putZ, putS]
             refine wpAnyH_ready (rs := [14]) (by kernel_rfl) (by simp) ?_
             refine AllReadyH.cons (o := ⟨some 12, _, _, _, _, _⟩) rfl (fun K hK => ?_) ?_
             · go_simp
               refine hK.out _ _ ?_ (fun hHeld => ?_)
               · (try dsimp only); ((repeat' apply And.intro) <;> (first | done | (go_simp; done) | go_keep))
               clear hK K
               try simp only [Act.put, putA, putZ, putS]
               refine wpAnyH_ready (rs := [15]) (by kernel_rfl) (by simp) ?_
               refine AllReadyH.cons (o := ⟨none, _, _, _, _, _⟩) rfl (fun K hK => ?_) ?_
               · go_simp
                 refine hK.out _ _ ?_ (fun hHeld => ?_)
                 · (try dsimp only); ((repeat' apply And.intro) <;> (first | done | (go_simp; done) | go_keep))
                 clear hK K
                 try simp only [Act.put, putA, putZ, putS]
                 refine wpAnyH_ready (rs := [16]) (by kernel_rfl) (by simp) ?_
                 refine AllReadyH.cons (o := ⟨none, _, _, _, _, _⟩) rfl (fun K hK => ?_) ?_
                 · go_simp
                   refine hK.out _ _ ?_ (fun hHeld => ?_)
                   · (try dsimp only); ((repeat' apply And.intro) <;> (first | done | (go_simp; done) | go_keep))
                   clear hK K
                   try simp only [Act.put, putA, putZ, putS]
                   refine wpAnyH_done (by kernel_rfl) ?_ _
                   go_wp2_with fail
                   go_meet
                   refine ⟨_, _, .slice a1 n1 c1, .slice a2 n2 c2, .slice a4 n4 c4, rfl, rfl, by go_simp, by go_simp, by go_simp, by go_simp, by go_simp, by go_simp, ?_, ?_, ?_, ?_, ?_⟩
                   · have := i4L.lt; omega
                   · have := i4L.lt; omega
                   · first | (go_simp; done) | (have := BX.lt; simpa using this) | (refine Nat.lt_of_lt_of_le BX.lt ?_; simp; done)
                   · first | (go_simp; done) | (have := BY.lt; simpa using this) | (refine Nat.lt_of_lt_of_le BY.lt ?_; simp; done)
                   · first
                      | exact hD.ext isext
                      | exact (hD.put3 (u0 := .slice a1 n1 c1) (u1 := .slice a2 n2 c2) (u2 := .slice a4 n4 c4) BX (.inl rfl) (by omega) (by omega)).ext isext
                      | exact (hD.put3 (u0 := .int .i64 (faultS OUT).e) (u1 := .int .i64 (faultS OUT).line) (u2 := .int .i64 (faultS OUT).at0) BY (.inr rfl) (by omega) (by omega)).ext isext
                      | exact ((hD.put3 (u0 := .slice a1 n1 c1) (u1 := .slice a2 n2 c2) (u2 := .slice a4 n4 c4) BX (.inl rfl) (by omega) (by omega)).put3 (u0 := .int .i64 (faultS OUT).e) (u1 := .int .i64 (faultS OUT).line) (u2 := .int .i64 (faultS OUT).at0) (blk_other3 BY (by omega)) (.inr rfl) (by omega) (by omega)).ext isext
                 exact AllReadyH.nil
               exact AllReadyH.nil
             exact AllReadyH.nil
           refine AllReadyH.cons (o := ⟨some 12, _, _, _, _, _⟩) rfl (fun K hK => ?_) ?_
           · go_simp
             refine hK.out _ _ ?_ (fun hHeld => ?_)
             · (try dsimp only); ((repeat' apply And.intro) <;> (first | done | (go_simp; done) | go_keep))
             clear hK K
             try simp only [Act.put, putA, putZ, putS]
             refine wpAnyH_ready (rs := [9]) (by kernel_rfl) (by simp) ?_
             refine AllReadyH.cons (o := ⟨some 58, _, _, _, _, _⟩) rfl (fun K hK => ?_) ?_
             · go_simp; refine calls_at (A := y3.x) (Q := fun w' => LineEnd F w' OUT) isext HC ?_; rintro _ wL ⟨a1, n1, c1, a2, n2, c2, a4, n4, c4, rfl, hK1, hfr, hT1⟩; have B4L := hfr _ _ _ (.inl rfl) (hBy.ext isext); have i4L : InW (w.heap.size + 1 + 1) wL := ⟨B4L.lt⟩; have m0 : wL.cell? ⟨w.heap.size + 1 + 1, 0, none⟩ = some (.slice ar S.rules.length cr) := (B4L.cell 0).trans rfl; have m1 : wL.cell? ⟨w.heap.size + 1 + 1, 1, none⟩ = some (.slice az S.zones.length cz) := (B4L.cell 1).trans rfl; have m2 : wL.cell? ⟨w.heap.size + 1 + 1, 2, none⟩ = some (.slice al S.links.length cl) := (B4L.cell 2).trans rfl; have m3 := HROW wL hK1; have igL : InW g' wL := ⟨World.block_lt_of_cell? wL _ m3⟩; have hD : Dp F wL (w.heap.size + 1 + 1) #[.slice ar S.rules.length cr, .slice az S.zones.length cz, .slice al S.links.length cl] OUT (.slice a1 n1 c1) (.slice a2 n2 c2) (.slice a4 n4 c4) := ⟨hK1, B4L, hT1⟩; first | (have BX := hfr y3.x.heap.size #[.slice none 0 0, .slice none 0 0, .slice none 0 0] 26 (.inl rfl) (World.alloc_heap_new y3.x _); have iBX : InW (y3.x.heap.size) wL := ⟨BX.lt⟩; have bX0 : wL.cell? ⟨y3.x.heap.size, 0, none⟩ = some (.slice none 0 0) := (BX.cell 0).trans rfl; have bX1 : wL.cell? ⟨y3.x.heap.size, 1, none⟩ = some (.slice none 0 0) := (BX.cell 1).trans rfl; have bX2 : wL.cell? ⟨y3.x.heap.size, 2, none⟩ = some (.slice none 0 0) := (BX.cell 2).trans rfl; have bfX0 := BX.frozen 0; have bfX1 := BX.frozen 1; have bfX2 := BX.frozen 2) | (have BX := hfr y3.x.heap.size #[.slice none 0 0, .slice none 0 0, .slice none 0 0] 26 (.inl rfl) (box2a y3.x #[.slice none 0 0, .slice none 0 0, .slice none 0 0] #[.int .i64 0, .int .i64 0, .int .i64 0] 26 29); have BY := hfr (y3.x.heap.size + 1) #[.int .i64 0, .int .i64 0, .int .i64 0] 29 (.inr rfl) (box2 y3.x #[.slice none 0 0, .slice none 0 0, .slice none 0 0] #[.int .i64 0, .int .i64 0, .int .i64 0] 26 29); have iBX : InW (y3.x.heap.size) wL := ⟨BX.lt⟩; have bX0 : wL.cell? ⟨y3.x.heap.size, 0, none⟩ = some (.slice none 0 0) := (BX.cell 0).trans rfl; have bX1 : wL.cell? ⟨y3.x.heap.size, 1, none⟩ = some (.slice none 0 0) := (BX.cell 1).trans rfl; have bX2 : wL.cell? ⟨y3.x.heap.size, 2, none⟩ = some (.slice none 0 0) := (BX.cell 2).trans rfl; have bfX0 := BX.frozen 0; have bfX1 := BX.frozen 1; have bfX2 := BX.frozen 2; have iBY : InW (y3.x.heap.size + 1) wL := ⟨BY.lt⟩; have bY0 : wL.cell? ⟨y3.x.heap.size + 1, 0, none⟩ = some (.int .i64 0) := (BY.cell 0).trans rfl; have bY1 : wL.cell? ⟨y3.x.heap.size + 1, 1, none⟩ = some (.int .i64 0) := (BY.cell 1).trans rfl; have bY2 : wL.cell? ⟨y3.x.heap.size + 1, 2, none⟩ = some (.int .i64 0) := (BY.cell 2).trans rfl; have bfY0 := BY.frozen 0; have bfY1 := BY.frozen 1; have bfY2 := BY.frozen 2) | (have BY := hfr y3.x.heap.size #[.int .i64 0, .int .i64 0, .int .i64 0] 29 (.inr rfl) (World.alloc_heap_new y3.x _); have iBY : InW (y3.x.heap.size) wL := ⟨BY.lt⟩; have bY0 : wL.cell? ⟨y3.x.heap.size, 0, none⟩ = some (.int .i64 0) := (BY.cell 0).trans rfl; have bY1 : wL.cell? ⟨y3.x.heap.size, 1, none⟩ = some (.int .i64 0) := (BY.cell 1).trans rfl; have bY2 : wL.cell? ⟨y3.x.heap.size, 2, none⟩ = some (.int .i64 0) := (BY.cell 2).trans rfl; have bfY0 := BY.frozen 0; have bfY1 := BY.frozen 1; have bfY2 := BY.frozen 2) | (have BY := hfr y3.x.heap.size #[.int .i64 0, .int .i64 0, .int .i64 0] 29 (.inr rfl) (box2a y3.x #[.int .i64 0, .int .i64 0, .int .i64 0] #[.slice none 0 0, .slice none 0 0, .slice none 0 0] 29 26); have BX := hfr (y3.x.heap.size + 1) #[.slice none 0 0, .slice none 0 0, .slice none 0 0] 26 (.inl rfl) (box2 y3.x #[.int .i64 0, .int .i64 0, .int .i64 0] #[.slice none 0 0, .slice none 0 0, .slice none 0 0] 29 26); have iBY : InW (y3.x.heap.size) wL := ⟨BY.lt⟩; have bY0 : wL.cell? ⟨y3.x.heap.size, 0, none⟩ = some (.int .i64 0) := (BY.cell 0).trans rfl; have bY1 : wL.cell? ⟨y3.x.heap.size, 1, none⟩ = some (.int .i64 0) := (BY.cell 1).trans rfl; have bY2 : wL.cell? ⟨y3.x.heap.size, 2, none⟩ = some (.int .i64 0) := (BY.cell 2).trans rfl; have bfY0 := BY.frozen 0; have bfY1 := BY.frozen 1; have bfY2 := BY.frozen 2; have iBX : InW (y3.x.heap.size + 1) wL := ⟨BX.lt⟩; have bX0 : wL.cell? ⟨y3.x.heap.size + 1, 0, none⟩ = some (.slice none 0 0) := (BX.cell 0).trans rfl; have bX1 : wL.cell? ⟨y3.x.heap.size + 1, 1, none⟩ = some (.slice none 0 0) := (BX.cell 1).trans rfl; have bX2 : wL.cell? ⟨y3.x.heap.size + 1, 2, none⟩ = some (.slice none 0 0) := (BX.cell 2).trans rfl; have bfX0 := BX.frozen 0; have bfX1 := BX.frozen 1; have bfX2 := BX.frozen 2) | skip
               refine hK.out _ _ ?_ (fun hHeld => ?_)
               · (try dsimp only); ((repeat' apply And.intro) <;> (first | done | (go_simp; done) | go_keep))
               clear hK K
               try simp only [Act.put, putA, putZ, putS]
               refine wpAnyH_take (i := 10) (oi := ⟨some 48, _, _, _, _, _⟩) (v := ?_) rfl (by kernel_rfl) (by kernel_rfl) (by kernel_rfl) (fun _ _ _ h => h) (Or.inl ⟨by rfl, ?_⟩) (by assumption) ?_
               rotate_left
               · intro w hSw; (try dsimp only at hSw); go_simp; first | done | with_reducible rfl | rw [if_pos (by omega)] | rw [if_neg (by omega)]
               try simp only [Act.put, putA, putZ, putS]
               refine wpAnyH_take (i := 11) (oi := ⟨some 59, _, _, _, _, _⟩) (v := ?_) rfl (by kernel_rfl) (by kernel_rfl) (by kernel_rfl) (fun _ _ _ h => h) (Or.inl ⟨by rfl, ?_⟩) (by assumption) ?_
               rotate_left
               · intro w hSw; (try dsimp only at hSw); go_simp; first | done | with_reducible rfl | rw [if_pos (by omega)] | rw [if_neg (by omega)]
               try simp only [Act.put, putA, putZ, putS]
               refine wpAnyH_take (i := 12) (oi := ⟨some 60, _, _, _, _, _⟩) (v := ?_) rfl (by kernel_rfl) (by kernel_rfl) (by kernel_rfl) (fun _ _ _ h => h) (Or.inl ⟨by rfl, ?_⟩) (by assumption) ?_
               rotate_left
               · intro w hSw; (try dsimp only at hSw); go_simp; first | done | with_reducible rfl | rw [if_pos (by omega)] | rw [if_neg (by omega)]
               try simp only [Act.put, putA, putZ, putS]
               refine wpAnyH_ready (rs := [15]) (by kernel_rfl) (by simp) ?_
               refine AllReadyH.cons (o := ⟨none, _, _, _, _, _⟩) rfl (fun K hK => ?_) ?_
               · go_simp
                 refine hK.out _ _ ?_ (fun hHeld => ?_)
                 · (try dsimp only); ((repeat' apply And.intro) <;> (first | done | (go_simp; done) | go_keep))
                 clear hK K
                 try simp only [Act.put, putA, putZ, putS]
                 refine wpAnyH_ready (rs := [16]) (by kernel_rfl) (by simp) ?_
                 refine AllReadyH.cons (o := ⟨none, _, _, _, _, _⟩) rfl (fun K hK => ?_) ?_
                 · go_simp
                   refine hK.out _ _ ?_ (fun hHeld => ?_)
                   · (try dsimp only); ((repeat' apply And.intro) <;> (first | done | (go_simp; done) | go_keep))
                   clear hK K
                   try simp only [Act.put, putA, putZ, putS]
                   refine wpAnyH_done (by kernel_rfl) ?_ _
                   go_wp2_with fail
                   go_meet
                   refine ⟨_, _, .slice a1 n1 c1, .slice a2 n2 c2, .slice a4 n4 c4, rfl, rfl, by go_simp, by go_simp, by go_simp, by go_simp, by go_simp, by go_simp, ?_, ?_, ?_, ?_, ?_⟩
                   · have := i4L.lt; omega
                   · have := i4L.lt; omega
                   · first | (go_simp; done) | (have := BX.lt; simpa using this) | (refine Nat.lt_of_lt_of_le BX.lt ?_; simp; done)
                   · first | (go_simp; done) | (have := BY.lt; simpa using this) | (refine Nat.lt_of_lt_of_le BY.lt ?_; simp; done)
                   · first
                      | exact hD.ext isext
                      | exact (hD.put3 (u0 := .slice a1 n1 c1) (u1 := .slice a2 n2 c2) (u2 := .slice a4 n4 c4) BX (.inl rfl) (by omega) (by omega)).ext isext
                      | exact (hD.put3 (u0 := .int .i64 (faultS OUT).e) (u1 := .int .i64 (faultS OUT).line) (u2 := .int .i64 (faultS OUT).at0) BY (.inr rfl) (by omega) (by omega)).ext isext
                      | exact ((hD.put3 (u0 := .slice a1 n1 c1) (u1 := .slice a2 n2 c2) (u2 := .slice a4 n4 c4) BX (.inl rfl) (by omega) (by omega)).put3 (u0 := .int .i64 (faultS OUT).e) (u1 := .int .i64 (faultS OUT).line) (u2 := .int .i64 (faultS OUT).at0) (blk_other3 BY (by omega)) (.inr rfl) (by omega) (by omega)).ext isext
                 exact AllReadyH.nil
               exact AllReadyH.nil
             exact AllReadyH.nil
           exact AllReadyH.nil
         refine AllReadyH.cons (o := ⟨some 12, _, _, _, _, _⟩) rfl (fun K hK => ?_) ?_
         · go_simp
           refine hK.out _ _ ?_ (fun hHeld => ?_)
           · (try dsimp only); ((repeat' apply And.intro) <;> (first | done | (go_simp; done) | go_keep))
           clear hK K
           try simp only [Act.put, putA, putZ, putS]
           refine wpAnyH_ready (rs := [9, 13]) (by kernel_rfl) (by simp) ?_
           refine AllReadyH.cons (o := ⟨some 58, _, _, _, _, _⟩) rfl (fun K hK => ?_) ?_
           · go_simp; refine calls_at (A := y3.x) (Q := fun w' => LineEnd F w' OUT) isext HC ?_; rintro _ wL ⟨a1, n1, c1, a2, n2, c2, a4, n4, c4, rfl, hK1, hfr, hT1⟩; have B4L := hfr _ _ _ (.inl rfl) (hBy.ext isext); have i4L : InW (w.heap.size + 1 + 1) wL := ⟨B4L.lt⟩; have m0 : wL.cell? ⟨w.heap.size + 1 + 1, 0, none⟩ = some (.slice ar S.rules.length cr) := (B4L.cell 0).trans rfl; have m1 : wL.cell? ⟨w.heap.size + 1 + 1, 1, none⟩ = some (.slice az S.zones.length cz) := (B4L.cell 1).trans rfl; have m2 : wL.cell? ⟨w.heap.size + 1 + 1, 2, none⟩ = some (.slice al S.links.length cl) := (B4L.cell 2).trans rfl; have m3 := HROW wL hK1; have igL : InW g' wL := ⟨World.block_lt_of_cell? wL _ m3⟩; have hD : Dp F wL (w.heap.size + 1 + 1) #[.slice ar S.rules.length cr, .slice az S.zones.length cz, .slice al S.links.length cl] OUT (.slice a1 n1 c1) (.slice a2 n2 c2) (.slice a4 n4 c4) := ⟨hK1, B4L, hT1⟩; first | (have BX := hfr y3.x.heap.size #[.slice none 0 0, .slice none 0 0, .slice none 0 0] 26 (.inl rfl) (World.alloc_heap_new y3.x _); have iBX : InW (y3.x.heap.size) wL := ⟨BX.lt⟩; have bX0 : wL.cell? ⟨y3.x.heap.size, 0, none⟩ = some (.slice none 0 0) := (BX.cell 0).trans rfl; have bX1 : wL.cell? ⟨y3.x.heap.size, 1, none⟩ = some (.slice none 0 0) := (BX.cell 1).trans rfl; have bX2 : wL.cell? ⟨y3.x.heap.size, 2, none⟩ = some (.slice none 0 0) := (BX.cell 2).trans rfl; have bfX0 := BX.frozen 0; have bfX1 := BX.frozen 1; have bfX2 := BX.frozen 2) | (have BX := hfr y3.x.heap.size #[.slice none 0 0, .slice none 0 0, .slice none 0 0] 26 (.inl rfl) (box2a y3.x #[.slice none 0 0, .slice none 0 0, .slice none 0 0] #[.int .i64 0, .int .i64 0, .int .i64 0] 26 29); have BY := hfr (y3.x.heap.size + 1) #[.int .i64 0, .int .i64 0, .int .i64 0] 29 (.inr rfl) (box2 y3.x #[.slice none 0 0, .slice none 0 0, .slice none 0 0] #[.int .i64 0, .int .i64 0, .int .i64 0] 26 29); have iBX : InW (y3.x.heap.size) wL := ⟨BX.lt⟩; have bX0 : wL.cell? ⟨y3.x.heap.size, 0, none⟩ = some (.slice none 0 0) := (BX.cell 0).trans rfl; have bX1 : wL.cell? ⟨y3.x.heap.size, 1, none⟩ = some (.slice none 0 0) := (BX.cell 1).trans rfl; have bX2 : wL.cell? ⟨y3.x.heap.size, 2, none⟩ = some (.slice none 0 0) := (BX.cell 2).trans rfl; have bfX0 := BX.frozen 0; have bfX1 := BX.frozen 1; have bfX2 := BX.frozen 2; have iBY : InW (y3.x.heap.size + 1) wL := ⟨BY.lt⟩; have bY0 : wL.cell? ⟨y3.x.heap.size + 1, 0, none⟩ = some (.int .i64 0) := (BY.cell 0).trans rfl; have bY1 : wL.cell? ⟨y3.x.heap.size + 1, 1, none⟩ = some (.int .i64 0) := (BY.cell 1).trans rfl; have bY2 : wL.cell? ⟨y3.x.heap.size + 1, 2, none⟩ = some (.int .i64 0) := (BY.cell 2).trans rfl; have bfY0 := BY.frozen 0; have bfY1 := BY.frozen 1; have bfY2 := BY.frozen 2) | (have BY := hfr y3.x.heap.size #[.int .i64 0, .int .i64 0, .int .i64 0] 29 (.inr rfl) (World.alloc_heap_new y3.x _); have iBY : InW (y3.x.heap.size) wL := ⟨BY.lt⟩; have bY0 : wL.cell? ⟨y3.x.heap.size, 0, none⟩ = some (.int .i64 0) := (BY.cell 0).trans rfl; have bY1 : wL.cell? ⟨y3.x.heap.size, 1, none⟩ = some (.int .i64 0) := (BY.cell 1).trans rfl; have bY2 : wL.cell? ⟨y3.x.heap.size, 2, none⟩ = some (.int .i64 0) := (BY.cell 2).trans rfl; have bfY0 := BY.frozen 0; have bfY1 := BY.frozen 1; have bfY2 := BY.frozen 2) | (have BY := hfr y3.x.heap.size #[.int .i64 0, .int .i64 0, .int .i64 0] 29 (.inr rfl) (box2a y3.x #[.int .i64 0, .int .i64 0, .int .i64 0] #[.slice none 0 0, .slice none 0 0, .slice none 0 0] 29 26); have BX := hfr (y3.x.heap.size + 1) #[.slice none 0 0, .slice none 0 0, .slice none 0 0] 26 (.inl rfl) (box2 y3.x #[.int .i64 0, .int .i64 0, .int .i64 0] #[.slice none 0 0, .slice none 0 0, .slice none 0 0] 29 26); have iBY : InW (y3.x.heap.size) wL := ⟨BY.lt⟩; have bY0 : wL.cell? ⟨y3.x.heap.size, 0, none⟩ = some (.int .i64 0) := (BY.cell 0).trans rfl; have bY1 : wL.cell? ⟨y3.x.heap.size, 1, none⟩ = some (.int .i64 0) := (BY.cell 1).trans rfl; have bY2 : wL.cell? ⟨y3.x.heap.size, 2, none⟩ = some (.int .i64 0) := (BY.cell 2).trans rfl; have bfY0 := BY.frozen 0; have bfY1 := BY.frozen 1; have bfY2 := BY.frozen 2; have iBX : InW (y3.x.heap.size + 1) wL := ⟨BX.lt⟩; have bX0 : wL.cell? ⟨y3.x.heap.size + 1, 0, none⟩ = some (.slice none 0 0) := (BX.cell 0).trans rfl; have bX1 : wL.cell? ⟨y3.x.heap.size + 1, 1, none⟩ = some (.slice none 0 0) := (BX.cell 1).trans rfl; have bX2 : wL.cell? ⟨y3.x.heap.size + 1, 2, none⟩ = some (.slice none 0 0) := (BX.cell 2).trans rfl; have bfX0 := BX.frozen 0; have bfX1 := BX.frozen 1; have bfX2 := BX.frozen 2) | skip
             refine hK.out _ _ ?_ (fun hHeld => ?_)
             · (try dsimp only); ((repeat' apply And.intro) <;> (first | done | (go_simp; done) | go_keep))
             clear hK K
             try simp only [Act.put, putA, putZ, putS]
             refine wpAnyH_take (i := 10) (oi := ⟨some 48, _, _, _, _, _⟩) (v := ?_) rfl (by kernel_rfl) (by kernel_rfl) (by kernel_rfl) (fun _ _ _ h => h) (Or.inl ⟨by rfl, ?_⟩) (by assumption) ?_
             rotate_left
             · intro w hSw; (try dsimp only at hSw); go_simp; first | done | with_reducible rfl | rw [if_pos (by omega)] | rw [if_neg (by omega)]
             try simp only [Act.put, putA, putZ, putS]
             refine wpAnyH_take (i := 11) (oi := ⟨some 59, _, _, _, _, _⟩) (v := ?_) rfl (by kernel_rfl) (by kernel_rfl) (by kernel_rfl) (fun _ _ _ h => h) (Or.inl ⟨by rfl, ?_⟩) (by assumption) ?_
             rotate_left
             · intro w hSw; (try dsimp only at hSw); go_simp; first | done | with_reducible rfl | rw [if_pos (by omega)] | rw [if_neg (by omega)]
             try simp only [Act.put, putA, putZ, putS]
             refine wpAnyH_take (i := 12) (oi := ⟨some 60, _, _, _, _, _⟩) (v := ?_) rfl (by kernel_rfl) (by kernel_rfl) (by kernel_rfl) (fun _ _ _ h => h) (Or.inl ⟨by rfl, ?_⟩) (by assumption) ?_
             rotate_left
             · intro w hSw; (try dsimp only at hSw); go_simp; first | done | with_reducible rfl | rw [if_pos (by omega)] | rw [if_neg (by omega)]
             try simp only [Act.put, putA, putZ, putS]
             refine wpAnyH_ready (rs := [13]) (by kernel_rfl) (by simp) ?_
             refine AllReadyH.cons (o := ⟨some 11, _, _, _, _, _⟩) rfl (fun K hK => ?_) ?_
             · go_simp
               refine hK.out _ _ ?_ (fun hHeld => ?_)
               · (try dsimp only); ((repeat' apply And.intro) <;> (first | done | (go_simp; done) | go_keep))
               clear hK K
               try simp only [Act.put, putA, putZ, putS]
               refine wpAnyH_ready (rs := [15]) (by kernel_rfl) (by simp) ?_
               refine AllReadyH.cons (o := ⟨none, _, _, _, _, _⟩) rfl (fun K hK => ?_) ?_
               · go_simp
                 refine hK.out _ _ ?_ (fun hHeld => ?_)
                 · (try dsimp only); ((repeat' apply And.intro) <;> (first | done | (go_simp; done) | go_keep))
                 clear hK K
                 try simp only [Act.put, putA, putZ, putS]
                 refine wpAnyH_ready (rs := [16]) (by kernel_rfl) (by simp) ?_
                 refine AllReadyH.cons (o := ⟨none, _, _, _, _, _⟩) rfl (fun K hK => ?_) ?_
                 · go_simp
                   refine hK.out _ _ ?_ (fun hHeld => ?_)
                   · (try dsimp only); ((repeat' apply And.intro) <;> (first | done | (go_simp; done) | go_keep))
                   clear hK K
                   try simp only [Act.put, putA, putZ, putS]
                   refine wpAnyH_done (by kernel_rfl) ?_ _
                   go_wp2_with fail
                   go_meet
                   refine ⟨_, _, .slice a1 n1 c1, .slice a2 n2 c2, .slice a4 n4 c4, rfl, rfl, by go_simp, by go_simp, by go_simp, by go_simp, by go_simp, by go_simp, ?_, ?_, ?_, ?_, ?_⟩
                   · have := i4L.lt; omega
                   · have := i4L.lt; omega
                   · first | (go_simp; done) | (have := BX.lt; simpa using this) | (refine Nat.lt_of_lt_of_le BX.lt ?_; simp; done)
                   · first | (go_simp; done) | (have := BY.lt; simpa using this) | (refine Nat.lt_of_lt_of_le BY.lt ?_; simp; done)
                   · first
                      | exact hD.ext isext
                      | exact (hD.put3 (u0 := .slice a1 n1 c1) (u1 := .slice a2 n2 c2) (u2 := .slice a4 n4 c4) BX (.inl rfl) (by omega) (by omega)).ext isext
                      | exact (hD.put3 (u0 := .int .i64 (faultS OUT).e) (u1 := .int .i64 (faultS OUT).line) (u2 := .int .i64 (faultS OUT).at0) BY (.inr rfl) (by omega) (by omega)).ext isext
                      | exact ((hD.put3 (u0 := .slice a1 n1 c1) (u1 := .slice a2 n2 c2) (u2 := .slice a4 n4 c4) BX (.inl rfl) (by omega) (by omega)).put3 (u0 := .int .i64 (faultS OUT).e) (u1 := .int .i64 (faultS OUT).line) (u2 := .int .i64 (faultS OUT).at0) (blk_other3 BY (by omega)) (.inr rfl) (by omega) (by omega)).ext isext
                 exact AllReadyH.nil
               exact AllReadyH.nil
             exact AllReadyH.nil
           refine AllReadyH.cons (o := ⟨some 11, _, _, _, _, _⟩) rfl (fun K hK => ?_) ?_
           · go_simp
             refine hK.out _ _ ?_ (fun hHeld => ?_)
             · (try dsimp only); ((repeat' apply And.intro) <;> (first | done | (go_simp; done) | go_keep))
             clear hK K
             try simp only [Act.put, putA, putZ, putS]
             refine wpAnyH_ready (rs := [9]) (by kernel_rfl) (by simp) ?_
             refine AllReadyH.cons (o := ⟨some 58, _, _, _, _, _⟩) rfl (fun K hK => ?_) ?_
             · go_simp; refine calls_at (A := y3.x) (Q := fun w' => LineEnd F w' OUT) isext HC ?_; rintro _ wL ⟨a1, n1, c1, a2, n2, c2, a4, n4, c4, rfl, hK1, hfr, hT1⟩; have B4L := hfr _ _ _ (.inl rfl) (hBy.ext isext); have i4L : InW (w.heap.size + 1 + 1) wL := ⟨B4L.lt⟩; have m0 : wL.cell? ⟨w.heap.size + 1 + 1, 0, none⟩ = some (.slice ar S.rules.length cr) := (B4L.cell 0).trans rfl; have m1 : wL.cell? ⟨w.heap.size + 1 + 1, 1, none⟩ = some (.slice az S.zones.length cz) := (B4L.cell 1).trans rfl; have m2 : wL.cell? ⟨w.heap.size + 1 + 1, 2, none⟩ = some (.slice al S.links.length cl) := (B4L.cell 2).trans rfl; have m3 := HROW wL hK1; have igL : InW g' wL := ⟨World.block_lt_of_cell? wL _ m3⟩; have hD : Dp F wL (w.heap.size + 1 + 1) #[.slice ar S.rules.length cr, .slice az S.zones.length cz, .slice al S.links.length cl] OUT (.slice a1 n1 c1) (.slice a2 n2 c2) (.slice a4 n4 c4) := ⟨hK1, B4L, hT1⟩; first | (have BX := hfr y3.x.heap.size #[.slice none 0 0, .slice none 0 0, .slice none 0 0] 26 (.inl rfl) (World.alloc_heap_new y3.x _); have iBX : InW (y3.x.heap.size) wL := ⟨BX.lt⟩; have bX0 : wL.cell? ⟨y3.x.heap.size, 0, none⟩ = some (.slice none 0 0) := (BX.cell 0).trans rfl; have bX1 : wL.cell? ⟨y3.x.heap.size, 1, none⟩ = some (.slice none 0 0) := (BX.cell 1).trans rfl; have bX2 : wL.cell? ⟨y3.x.heap.size, 2, none⟩ = some (.slice none 0 0) := (BX.cell 2).trans rfl; have bfX0 := BX.frozen 0; have bfX1 := BX.frozen 1; have bfX2 := BX.frozen 2) | (have BX := hfr y3.x.heap.size #[.slice none 0 0, .slice none 0 0, .slice none 0 0] 26 (.inl rfl) (box2a y3.x #[.slice none 0 0, .slice none 0 0, .slice none 0 0] #[.int .i64 0, .int .i64 0, .int .i64 0] 26 29); have BY := hfr (y3.x.heap.size + 1) #[.int .i64 0, .int .i64 0, .int .i64 0] 29 (.inr rfl) (box2 y3.x #[.slice none 0 0, .slice none 0 0, .slice none 0 0] #[.int .i64 0, .int .i64 0, .int .i64 0] 26 29); have iBX : InW (y3.x.heap.size) wL := ⟨BX.lt⟩; have bX0 : wL.cell? ⟨y3.x.heap.size, 0, none⟩ = some (.slice none 0 0) := (BX.cell 0).trans rfl; have bX1 : wL.cell? ⟨y3.x.heap.size, 1, none⟩ = some (.slice none 0 0) := (BX.cell 1).trans rfl; have bX2 : wL.cell? ⟨y3.x.heap.size, 2, none⟩ = some (.slice none 0 0) := (BX.cell 2).trans rfl; have bfX0 := BX.frozen 0; have bfX1 := BX.frozen 1; have bfX2 := BX.frozen 2; have iBY : InW (y3.x.heap.size + 1) wL := ⟨BY.lt⟩; have bY0 : wL.cell? ⟨y3.x.heap.size + 1, 0, none⟩ = some (.int .i64 0) := (BY.cell 0).trans rfl; have bY1 : wL.cell? ⟨y3.x.heap.size + 1, 1, none⟩ = some (.int .i64 0) := (BY.cell 1).trans rfl; have bY2 : wL.cell? ⟨y3.x.heap.size + 1, 2, none⟩ = some (.int .i64 0) := (BY.cell 2).trans rfl; have bfY0 := BY.frozen 0; have bfY1 := BY.frozen 1; have bfY2 := BY.frozen 2) | (have BY := hfr y3.x.heap.size #[.int .i64 0, .int .i64 0, .int .i64 0] 29 (.inr rfl) (World.alloc_heap_new y3.x _); have iBY : InW (y3.x.heap.size) wL := ⟨BY.lt⟩; have bY0 : wL.cell? ⟨y3.x.heap.size, 0, none⟩ = some (.int .i64 0) := (BY.cell 0).trans rfl; have bY1 : wL.cell? ⟨y3.x.heap.size, 1, none⟩ = some (.int .i64 0) := (BY.cell 1).trans rfl; have bY2 : wL.cell? ⟨y3.x.heap.size, 2, none⟩ = some (.int .i64 0) := (BY.cell 2).trans rfl; have bfY0 := BY.frozen 0; have bfY1 := BY.frozen 1; have bfY2 := BY.frozen 2) | (have BY := hfr y3.x.heap.size #[.int .i64 0, .int .i64 0, .int .i64 0] 29 (.inr rfl) (box2a y3.x #[.int .i64 0, .int .i64 0, .int .i64 0] #[.slice none 0 0, .slice none 0 0, .slice none 0 0] 29 26); have BX := hfr (y3.x.heap.size + 1) #[.slice none 0 0, .slice none 0 0, .slice none 0 0] 26 (.inl rfl) (box2 y3.x #[.int .i64 0, .int .i64 0, .int .i64 0] #[.slice none 0 0, .slice none 0 0, .slice none 0 0] 29 26); have iBY : InW (y3.x.heap.size) wL := ⟨BY.lt⟩; have bY0 : wL.cell? ⟨y3.x.heap.size, 0, none⟩ = some (.int .i64 0) := (BY.cell 0).trans rfl; have bY1 : wL.cell? ⟨y3.x.heap.size, 1, none⟩ = some (.int .i64 0) := (BY.cell 1).trans rfl; have bY2 : wL.cell? ⟨y3.x.heap.size, 2, none⟩ = some (.int .i64 0) := (BY.cell 2).trans rfl; have bfY0 := BY.frozen 0; have bfY1 := BY.frozen 1; have bfY2 := BY.frozen 2; have iBX : InW (y3.x.heap.size + 1) wL := ⟨BX.lt⟩; have bX0 : wL.cell? ⟨y3.x.heap.size + 1, 0, none⟩ = some (.slice none 0 0) := (BX.cell 0).trans rfl; have bX1 : wL.cell? ⟨y3.x.heap.size + 1, 1, none⟩ = some (.slice none 0 0) := (BX.cell 1).trans rfl; have bX2 : wL.cell? ⟨y3.x.heap.size + 1, 2, none⟩ = some (.slice none 0 0) := (BX.cell 2).trans rfl; have bfX0 := BX.frozen 0; have bfX1 := BX.frozen 1; have bfX2 := BX.frozen 2) | skip
               refine hK.out _ _ ?_ (fun hHeld => ?_)
               · (try dsimp only); ((repeat' apply And.intro) <;> (first | done | (go_simp; done) | go_keep))
               clear hK K
               try simp only [Act.put, putA, putZ, putS]
               refine wpAnyH_take (i := 10) (oi := ⟨some 48, _, _, _, _, _⟩) (v := ?_) rfl (by kernel_rfl) (by kernel_rfl) (by kernel_rfl) (fun _ _ _ h => h) (Or.inl ⟨by rfl, ?_⟩) (by assumption) ?_
               rotate_left
               · intro w hSw; (try dsimp only at hSw); go_simp; first | done | with_reducible rfl | rw [if_pos (by omega)] | rw [if_neg (by omega)]
               try simp only [Act.put, putA, putZ, putS]
               refine wpAnyH_take (i := 11) (oi := ⟨some 59, _, _, _, _, _⟩) (v := ?_) rfl (by kernel_rfl) (by kernel_rfl) (by kernel_rfl) (fun _ _ _ h => h) (Or.inl ⟨by rfl, ?_⟩) (by assumption) ?_
               rotate_left
               · intro w hSw; (try dsimp only at hSw); go_simp; first | done | with_reducible rfl | rw [if_pos (by omega)] | rw [if_neg (by omega)]
               try simp only [Act.put, putA, putZ, putS]
               refine wpAnyH_take (i := 12) (oi := ⟨some 60, _, _, _, _, _⟩) (v := ?_) rfl (by kernel_rfl) (by kernel_rfl) (by kernel_rfl) (fun _ _ _ h => h) (Or.inl ⟨by rfl, ?_⟩) (by assumption) ?_
               rotate_left
               · intro w hSw; (try dsimp only at hSw); go_simp; first | done | with_reducible rfl | rw [if_pos (by omega)] | rw [if_neg (by omega)]
               try simp only [Act.put, putA, putZ, putS]
               refine wpAnyH_ready (rs := [15]) (by kernel_rfl) (by simp) ?_
               refine AllReadyH.cons (o := ⟨none, _, _, _, _, _⟩) rfl (fun K hK => ?_) ?_
               · go_simp
                 refine hK.out _ _ ?_ (fun hHeld => ?_)
                 · (try dsimp only); ((repeat' apply And.intro) <;> (first | done | (go_simp; done) | go_keep))
                 clear hK K
                 try simp only [Act.put, putA, putZ, putS]
                 refine wpAnyH_ready (rs := [16]) (by kernel_rfl) (by simp) ?_
                 refine AllReadyH.cons (o := ⟨none, _, _, _, _, _⟩) rfl (fun K hK => ?_) ?_
                 · go_simp
                   refine hK.out _ _ ?_ (fun hHeld => ?_)
                   · (try dsimp only); ((repeat' apply And.intro) <;> (first | done | (go_simp; done) | go_keep))
                   clear hK K
                   try simp only [Act.put, putA, putZ, putS]
                   refine wpAnyH_done (by kernel_rfl) ?_ _
                   go_wp2_with fail
                   go_meet
                   refine ⟨_, _, .slice a1 n1 c1, .slice a2 n2 c2, .slice a4 n4 c4, rfl, rfl, by go_simp, by go_simp, by go_simp, by go_simp, by go_simp, by go_simp, ?_, ?_, ?_, ?_, ?_⟩
                   · have := i4L.lt; omega
                   · have := i4L.lt; omega
                   · first | (go_simp; done) | (have := BX.lt; simpa using this) | (refine Nat.lt_of_lt_of_le BX.lt ?_; simp; done)
                   · first | (go_simp; done) | (have := BY.lt; simpa using this) | (refine Nat.lt_of_lt_of_le BY.lt ?_; simp; done)
                   · first
                      | exact hD.ext isext
                      | exact (hD.put3 (u0 := .slice a1 n1 c1) (u1 := .slice a2 n2 c2) (u2 := .slice a4 n4 c4) BX (.inl rfl) (by omega) (by omega)).ext isext
                      | exact (hD.put3 (u0 := .int .i64 (faultS OUT).e) (u1 := .int .i64 (faultS OUT).line) (u2 := .int .i64 (faultS OUT).at0) BY (.inr rfl) (by omega) (by omega)).ext isext
                      | exact ((hD.put3 (u0 := .slice a1 n1 c1) (u1 := .slice a2 n2 c2) (u2 := .slice a4 n4 c4) BX (.inl rfl) (by omega) (by omega)).put3 (u0 := .int .i64 (faultS OUT).e) (u1 := .int .i64 (faultS OUT).line) (u2 := .int .i64 (faultS OUT).at0) (blk_other3 BY (by omega)) (.inr rfl) (by omega) (by omega)).ext isext
                 exact AllReadyH.nil
               exact AllReadyH.nil
             exact AllReadyH.nil
           exact AllReadyH.nil
         exact AllReadyH.nil
         -- END13
        case rest =>
         obtain ⟨A, B, v1, v2, v3, rfl, rfl, a0, a1, a2, b0, b1, b2, hA0, hB0, hA, hB, hK1, hB41, hT1⟩ := hcut
         obtain ⟨yx, rfl⟩ := fin hK1.ext
         have ne1 : ¬ w.heap.size = B := by omega
         have ne2 : ¬ w.heap.size + 1 = B := by omega
         have ne3 : ¬ w.heap.size + 1 + 1 = B := by omega
         have ne4 : ¬ w.heap.size + 1 + 1 = A := by omega
         haveI : InW A yx.x := ⟨hA⟩
         haveI : InW B yx.x := ⟨hB⟩
         haveI : InW (w.heap.size + 1 + 1) yx.x := ⟨hB41.lt⟩
         have hp1 := hp2.ext hK1.ext
         have hq1 := hq2.ext hK1.ext
         haveI : InW w.heap.size yx.x := ⟨hp1.lt⟩
         haveI : InW (w.heap.size + 1) yx.x := ⟨hq1.lt⟩
         have x0 : yx.x.cell? ⟨w.heap.size, 0, none⟩ = some (.slice none 0 0) := (hp1.cell 0).trans rfl
         have x1 : yx.x.cell? ⟨w.heap.size, 1, none⟩ = some (.slice none 0 0) := (hp1.cell 1).trans rfl
         have x2 : yx.x.cell? ⟨w.heap.size, 2, none⟩ = some (.slice none 0 0) := (hp1.cell 2).trans rfl
         have z0 : yx.x.cell? ⟨w.heap.size + 1, 0, none⟩ = some (.int .i64 0) := (hq1.cell 0).trans rfl
         have z1 : yx.x.cell? ⟨w.heap.size + 1, 1, none⟩ = some (.int .i64 0) := (hq1.cell 1).trans rfl
         have z2 : yx.x.cell? ⟨w.heap.size + 1, 2, none⟩ = some (.int .i64 0) := (hq1.cell 2).trans rfl
         have xf0 := hp1.frozen 0
         have xf1 := hp1.frozen 1
         have xf2 := hp1.frozen 2
         have zf0 := hq1.frozen 0
         have zf1 := hq1.frozen 1
         have zf2 := hq1.frozen 2
         haveI : ExtC w F.w := ⟨hextF⟩
         cases OUT with
         | inl f =>
           have hf := hfe f rfl
           obtain ⟨e', l1, q1⟩ := f
           simp only [faultS] at b0 b1 b2 hf
           have g5 : (e' != 0) = true := by simpa using hf
           have HOO : Hid (Src.parseT s = .inl ⟨e', l1, q1⟩) := Lib.hid (by rw [HO.out, HP4.out])
           clear hfe hfit' hok' hT1 HC HP4 hf
           go_wp2_with fail
           -- REGION15
           refine wp_region_held_drew (S := fun _ => True) (by kernel_rfl) trivial (fun hHeld => ?_)
           refine wpAnyH_take (i := 0) (oi := ⟨some 64, _, _, _, _, _⟩) (v := ?_) rfl (by kernel_rfl) (by kernel_rfl) (by kernel_rfl) (fun _ _ _ h => h) (Or.inl ⟨by rfl, ?_⟩) (by assumption) ?_
           rotate_left
           · intro w _; go_simp; first | done | (with_reducible rfl)
           try simp only [Act.put, putA, putZ, putS]
           refine wpAnyH_ready (rs := [1, 2]) (by kernel_rfl) (by simp) ?_
           refine AllReadyH.cons (o := ⟨some 65, _, _, _, _, _⟩) rfl (fun K hK => ?_) ?_
           · go_simp
             refine hK.out _ _ ?_ (fun hHeld => ?_)
             · trivial
             clear hK K
             try simp only [Act.put, putA, putZ, putS]
             refine wpAnyH_ready (rs := [2]) (by kernel_rfl) (by simp) ?_
             refine AllReadyH.cons (o := ⟨none, _, _, _, _, _⟩) rfl (fun K hK => ?_) ?_
             · go_simp
               refine hK.out _ _ ?_ (fun hHeld => ?_)
               · trivial
               clear hK K
               try simp only [Act.put, putA, putZ, putS]
               refine wpAnyH_ready (rs := [3]) (by kernel_rfl) (by simp) ?_
               refine AllReadyH.cons (o := ⟨none, _, _, _, _, _⟩) rfl (fun K hK => ?_) ?_
               · go_simp
                 refine hK.out _ _ ?_ (fun hHeld => ?_)
                 · trivial
                 clear hK K
                 try simp only [Act.put, putA, putZ, putS]
                 refine wpAnyH_done (by kernel_rfl) ?_ _
                 go_wp2
                 refine bodyPost_ret (v := .tuple #[.agg #[.slice none 0 0, .slice none 0 0, .slice none 0 0], faultC ⟨e', l1, q1⟩]) ?_ rfl (parse_bad HOO.out isext)
                 simp [results, Tryz.results9, go_sem, x0, x1, x2, z0, z1, z2]
               exact AllReadyH.nil
             exact AllReadyH.nil
           refine AllReadyH.cons (o := ⟨none, _, _, _, _, _⟩) rfl (fun K hK => ?_) ?_
           · go_simp
             refine hK.out _ _ ?_ (fun hHeld => ?_)
             · trivial
             clear hK K
             try simp only [Act.put, putA, putZ, putS]
             refine wpAnyH_ready (rs := [1]) (by kernel_rfl) (by simp) ?_
             refine AllReadyH.cons (o := ⟨some 65, _, _, _, _, _⟩) rfl (fun K hK => ?_) ?_
             · go_simp
               refine hK.out _ _ ?_ (fun hHeld => ?_)
               · trivial
               clear hK K
               try simp only [Act.put, putA, putZ, putS]
               refine wpAnyH_ready (rs := [3]) (by kernel_rfl) (by simp) ?_
               refine AllReadyH.cons (o := ⟨none, _, _, _, _, _⟩) rfl (fun K hK => ?_) ?_
               · go_simp
                 refine hK.out _ _ ?_ (fun hHeld => ?_)
                 · trivial
                 clear hK K
                 try simp only [Act.put, putA, putZ, putS]
                 refine wpAnyH_done (by kernel_rfl) ?_ _
                 go_wp2
                 refine bodyPost_ret (v := .tuple #[.agg #[.slice none 0 0, .slice none 0 0, .slice none 0 0], faultC ⟨e', l1, q1⟩]) ?_ rfl (parse_bad HOO.out isext)
                 simp [results, Tryz.results9, go_sem, x0, x1, x2, z0, z1, z2]
               exact AllReadyH.nil
             exact AllReadyH.nil
           exact AllReadyH.nil
           -- END15
         | inr S' =>
           obtain ⟨zp', hT'⟩ := hT1 S' rfl
           have hfit2 := hfit' S' rfl
           have hok2 := hok' S' rfl
           have HP3 : Hid (Src.parseP (ls.drop (j + 1)) ((j + 1 : Nat) : Int) S' = Src.parseP ls 0 ⟨[], [], []⟩) := Lib.hid (by rw [HP4.out]; rfl)
           clear hfe hfit' hok' hT1 HC HP4
           simp only [faultS] at b0 b1 b2
           obtain ⟨br, dr, rfl⟩ := owns_shape hT'.rules
           obtain ⟨bz, dz, rfl⟩ := owns_shape hT'.zones
           obtain ⟨bl, dl, rfl⟩ := owns_shape hT'.links
           have n0 : yx.x.cell? ⟨w.heap.size + 1 + 1, 0, none⟩ = some (.slice ar S.rules.length cr) := (hB41.cell 0).trans rfl
           have n1 : yx.x.cell? ⟨w.heap.size + 1 + 1, 1, none⟩ = some (.slice az S.zones.length cz) := (hB41.cell 1).trans rfl
           have n2 : yx.x.cell? ⟨w.heap.size + 1 + 1, 2, none⟩ = some (.slice al S.links.length cl) := (hB41.cell 2).trans rfl
           have nf0 := hB41.frozen 0
           have nf1 := hB41.frozen 1
           have nf2 := hB41.frozen 2
           have hT4 := tree_put3 (v0 := .slice br S'.rules.length dr) (v1 := .slice bz S'.zones.length dz) (v2 := .slice bl S'.links.length dl) hT' hB41
           have hK4 := kept_put3 (v0 := .slice br S'.rules.length dr) (v1 := .slice bz S'.zones.length dz) (v2 := .slice bl S'.links.length dl) hK1 hB41 (by omega)
           have hB5 := blk_put3 (v0 := .slice br S'.rules.length dr) (v1 := .slice bz S'.zones.length dz) (v2 := .slice bl S'.links.length dl) hB41
           obtain ⟨W4, hW4⟩ : ∃ W4, ((yx.x.setCell ⟨w.heap.size + 1 + 1, 0, none⟩ (.slice br S'.rules.length dr)).setCell ⟨w.heap.size + 1 + 1, 1, none⟩ (.slice bz S'.zones.length dz)).setCell ⟨w.heap.size + 1 + 1, 2, none⟩ (.slice bl S'.links.length dl) = W4 := ⟨_, rfl⟩
           rw [hW4] at hT4 hK4 hB5
           by_cases hz : S'.zones = []
           · have hz0 : S'.zones.length = 0 := by rw [hz]; rfl
             have hop : Src.openB S' = false := by
              cases h9 : Src.openB S' with
              | false => rfl
              | true => exact absurd hz (Src.open_zones h9)
             rw [hz0] at hW4 hT4 hB5
             go_upto_region 17 with fail
             clear hW4
             haveI : InW (w.heap.size + 1 + 1) W4 := ⟨hB5.lt⟩
             have k0 : W4.cell? ⟨w.heap.size + 1 + 1, 1, none⟩ = some (.slice bz 0 dz) := (hB5.cell 1).trans rfl
             go_wp2_with fail
             go_quiet (fail)
             go_wp2_with fail
             go_roundw
             case rel => exact ⟨j + 1, S', _, _, _, zp', by omega, by go_num, by rw [hop], hK4.trans isext, hT4.past isext, hB5.ext isext, hfit2, hok2, HP3⟩
             case measure => simp [intOf]; omega
           · obtain ⟨gz, cz', ge, ce, k, m', hz1, hz2, hz3, hz4, hz5, hz6, hz9⟩ := last_til hT4 hok2 hz
             have hk9 : k ≤ 50 := by have := hfit2.2.1; omega
             have hm9 : m' ≤ 40 := by have := hfit2.2.2.2; omega
             clear hz9
             rw [hz1] at hz2 hW4 hT4 hB5
             injection hz2 with hz2 hz7 hz8
             subst hz2 hz8
             clear hz7
             go_upto_region 17 with fail
             clear hW4
             haveI : InW (w.heap.size + 1 + 1) W4 := ⟨hB5.lt⟩
             haveI : InW gz W4 := ⟨hz5⟩
             haveI : InW ge W4 := ⟨hz6⟩
             have k0 : W4.cell? ⟨w.heap.size + 1 + 1, 1, none⟩ = some (.slice (some ⟨gz, 0, none⟩) (k + 1) dz) := (hB5.cell 1).trans rfl
             generalize hob : Src.openB S' = ob at *
             go_wp2_with fail
             go_quiet (fail)
             go_wp2_with fail
             go_roundw
             case rel => exact ⟨j + 1, S', _, _, _, zp', by omega, by go_num, by rw [hob], hK4.trans isext, hT4.past isext, hB5.ext isext, hfit2, hok2, HP3⟩
             case measure => simp [intOf]; omega
  · obtain rfl : j = n := by omega
    have hP2 : Src.parseP ls 0 ⟨[], [], []⟩ = if Src.openB S = true then .inl ⟨14, (j : Int) + 1, 0⟩ else .inr S := by
     rw [← HP.out, List.drop_eq_nil_of_le (by rw [hnn.out]; omega)]; rfl
    have HP2 := Lib.hid hP2
    clear hP2 HP
    subst hvr hvz hvl
    cases hop : Src.openB S
    rotate_left
    · have HOO : Hid (Src.parseT s = .inl ⟨14, (j : Int) + 1, 0⟩) := Lib.hid (by rw [HO.out, HP2.out, if_pos hop])
      go_wp2
      refine bodyPost_ret (v := .tuple #[.agg #[.slice none 0 0, .slice none 0 0, .slice none 0 0], faultC ⟨14, (j : Int) + 1, 0⟩]) ?_ rfl (parse_bad HOO.out isext)
      simp [results, Tryz.results9, go_sem, p0, p1, p2, q0, q1, q2]
    · have HOO : Hid (Src.parseT s = .inr S) := Lib.hid (by rw [HO.out, HP2.out, if_neg (by rw [hop]; simp)])
      go_wp2
      refine bodyPost_ret (v := .tuple #[.agg #[.slice ar S.rules.length cr, .slice az S.zones.length cz, .slice al S.links.length cl], faultC ⟨0, 0, 0⟩]) ?_ rfl (parse_good HOO.out isext ?_)
      · simp [results, Tryz.results9, go_sem, p0, p1, p2, q0, q1, q2]
      · refine (Tree.reads (base := F.w.heap.size) (zp := zp) ?_)
        iterate 6 refine Tree.store ?_ (by simp only []; omega)
        exact hT
theorem dparse_any (s : ByteArray) (hs : s.size ≤ maxLen) (w : World) : Calls Tryz.prog 9 #[.string s] w (ParseEnd w (Src.parseT s)) := by
 by_cases h : s.size ≤ 100000
 · exact dparse_short s w h
 · exact dparse_long s w hs (by omega)
end Go.Proofs.YtdhbgelijjlifaaGreatDoor
