/- Walks of sources: the reader's rule. -/
import Derived.Test.YtdhbgelijjlifaaDoorSrcRdR
import Derived.Test.YtdhbgelijjlifaaDoorSrcRdS
import Derived.Test.YtdhbgelijjlifaaDoorSrcRdT
import Derived.Test.YtdhbgelijjlifaaDoorSrcRdN
import Derived.Test.YtdhbgelijjlifaaDoorSrcRdQ
import Derived.Test.YtdhbgelijjlifaaDoorSrcSet
import Derived.Test.YtdhbgelijjlifaaDoorMomWalkE
set_option linter.unusedVariables false
set_option linter.unusedSimpArgs false
namespace Go.Proofs.YtdhbgelijjlifaaDoor
open Go.RowKit Go.Shelf

theorem prule_any (wb : Frm) (w : World) (b : Nat) (S : Source) (line : Int) (all : ByteArray) (ws : List Src.Wd) (hg : GoodW w) (h : Rd wb w b S line all ws) (hs : ∀ x ∈ ws, x.1.size ≤ 1000) (hw0 : 0 < ws.length) (hw16 : ws.length ≤ 100) (hall : all.size ≤ 1048576) :
    Calls Tryd.prog 19 #[.pointer (some ⟨b, 0, none⟩)] w (RdEnd wb b line all ws (Src.ruleLineP S ws all.size line)) := by
  rcases lit_cases (Src.tx ws 3) ⟨#[111, 110, 108, 121]⟩ [111, 110, 108, 121] (by decide +kernel) with ⟨t1, t2, t3⟩ | ⟨t1, t2, t3⟩
  · exact prule_only wb w b S line all ws hg h hs hw0 hw16 hall t1 t2 (by unfold Src.toP; rw [if_pos (by unfold Src.tl; rw [t3])])
  · have n3 : ¬ Src.tl ws 3 = [111, 110, 108, 121] := t3
    rcases lit_cases (Src.tx ws 3) ⟨#[109, 97, 120]⟩ [109, 97, 120] (by decide +kernel) with ⟨t4, t5, t6⟩ | ⟨t4, t5, t6⟩
    · exact prule_max wb w b S line all ws hg h hs hw0 hw16 hall t1 t2 t4 t5 (by unfold Src.toP; rw [if_neg n3, if_pos (by unfold Src.tl; rw [t6])])
    · exact prule_year wb w b S line all ws hg h hs hw0 hw16 hall t1 t2 t4 t5 (by unfold Src.toP; rw [if_neg n3, if_neg (show ¬ Src.tl ws 3 = [109, 97, 120] from t6)])
end Go.Proofs.YtdhbgelijjlifaaDoor
set_option linter.unusedVariables false
set_option linter.unusedSimpArgs false
namespace Go.Proofs.YtdhbgelijjlifaaDoor
open Go.RowKit Go.Shelf

theorem look_newF {P : Program} {t k e : TypeId} (ht : P.underlying t = some (.map k e)) (hk : P.underlying k = some .string) (w0 : World) (es : Array MapEntry) (clock : Nat) (key : ByteArray) (z : Value) (hz : ∀ w, (zeroValue e).run P w = .ok z w) (r : Option (Nat × Value))
    (hf : Instr.findNow .string (.string key) es.toList 0 = some r) :
    (Instr.lookup t (.map (some w0.heap.size)) (.string key) false).run P (w0.alloc (.map es clock)) = .ok (foundV z r) (w0.alloc (.map es clock)) := by
  have h1 := heap_new_get w0 (.map es clock)
  have h2 := fun w => find_run (P := P) hk w (.string key) es.toList r hf
  cases r with
  | none => simp [Instr.lookup, run_underlying ht, MapKept.run_getObj_map h1, check_run hk, h2, hz, Result.andThen, foundV]
  | some r => simp [Instr.lookup, run_underlying ht, MapKept.run_getObj_map h1, check_run hk, h2, hz, Result.andThen, foundV]
theorem func_nil (f : FuncId) (w : World) : (binOp .eql 58 (.func (.func f) #[] #[]) .nilFunc).run Tryd.prog w = .ok (.bool false) w := by kernel_rfl
theorem nil_nil (w : World) : (binOp .eql 58 .nilFunc .nilFunc).run Tryd.prog w = .ok (.bool true) w := by kernel_rfl
theorem put_at {P : Program} {t k e : TypeId} (ht : P.underlying t = some (.map k e)) (hk : P.underlying k = some .string) (w0 : World) (B : Nat) (hB : B = w0.heap.size) (es : Array MapEntry) (clock : Nat) (key : ByteArray) (v : Value)
    (hf : Instr.findNow .string (.string key) es.toList 0 = some none) :
    (Instr.mapUpdate t (.map (some B)) (.string key) v).run P (w0.alloc (.map es clock)) = .ok () (w0.alloc (.map (es.push ⟨.string key, v, clock⟩) (clock + 1))) := by
  subst hB; exact put_new ht hk w0 es clock key v hf
theorem look_atF {P : Program} {t k e : TypeId} (ht : P.underlying t = some (.map k e)) (hk : P.underlying k = some .string) (w0 : World) (B : Nat) (hB : B = w0.heap.size) (es : Array MapEntry) (clock : Nat) (key : ByteArray) (z : Value) (hz : ∀ w, (zeroValue e).run P w = .ok z w) (r : Option (Nat × Value))
    (hf : Instr.findNow .string (.string key) es.toList 0 = some r) :
    (Instr.lookup t (.map (some B)) (.string key) false).run P (w0.alloc (.map es clock)) = .ok (foundV z r) (w0.alloc (.map es clock)) := by
  subst hB; exact look_newF ht hk w0 es clock key z hz r hf
theorem rd_line {wb : Frm} {w : World} {b : Nat} {S : Source} {line : Int} {all : ByteArray} {ws : List Src.Wd} (h : Rd wb w b S line all ws) (line' : Int) : Rd wb (w.setCell ⟨b, 3, none⟩ (.int .i64 line')) b S line' all ws := by
  obtain ⟨h1, h2, vr, vz, vl, lv, zp, Bw, h3, h4, h5⟩ := h
  refine ⟨h1.store h3 h2 _ _, h2, vr, vz, vl, lv, zp, Bw, ?_, h4.store (by show b < b + 1; omega), own_store h5 (own_blk h3 h5 (by decide))⟩
  rw [h3.set 3 (.int .i64 line')]
  exact setB_blk h3
theorem rd_text {wb : Frm} {w : World} {b B' : Nat} {S : Source} {line : Int} {all all' : ByteArray} {ws ws' : List Src.Wd} {lv' : Value} (h : Rd wb w b S line all ws) (hl : w.ownsRow B' 61 2 lv' ws'.length (wordCells ws')) :
    Rd wb ((w.setCell ⟨b, 4, none⟩ (.string all')).setCell ⟨b, 5, none⟩ lv') b S line all' ws' := by
  obtain ⟨h1, h2, vr, vz, vl, lv, zp, Bw, h3, h4, h5⟩ := h
  have hbl := own_blk h3 hl (by decide)
  have hs := setB_blk (C' := #[vr, vz, vl, .int .i64 line, .string all', lv, .bool (Src.openB S)]) h3
  have e4 : w.setCell ⟨b, 4, none⟩ (.string all') = setB w b #[vr, vz, vl, .int .i64 line, .string all', lv, .bool (Src.openB S)] 47 := by rw [h3.set 4 (.string all')]; rfl
  have hb4 : Blk (w.setCell ⟨b, 4, none⟩ (.string all')) b #[vr, vz, vl, .int .i64 line, .string all', lv, .bool (Src.openB S)] 47 := by rw [e4]; exact hs
  refine ⟨(h1.store h3 h2 _ _).store hb4 h2 _ _, h2, vr, vz, vl, lv', zp, B', ?_, (h4.store (by show b < b + 1; omega)).store (by show b < b + 1; omega), own_store (own_store hl hbl) hbl⟩
  rw [hb4.set 5 lv']
  exact setB_blk hb4
/-- How a line that is read ends. -/
def ReadEnd (wb : Frm) (b : Nat) (line : Int) (o : Fault ⊕ Source) (e : Ending) (w' : World) : Prop := match o with
  | .inl f => e = gaveUp f ∧ Kept wb w'
  | .inr S => e = .returned (.tuple #[]) ∧ ∃ all ws, Rd wb w' b S line all ws
theorem read_bad {wb : Frm} {b : Nat} {line : Int} {o : Fault ⊕ Source} {f : Fault} {w' : World} (ho : o = .inl f) (hx : Kept wb w') : ReadEnd wb b line o (gaveUp f) w' := by subst ho; exact ⟨rfl, hx⟩
theorem read_good {wb : Frm} {b : Nat} {line : Int} {all : ByteArray} {ws : List Src.Wd} {o : Fault ⊕ Source} {S : Source} {w' : World} (ho : o = .inr S) (h : Rd wb w' b S line all ws) : ReadEnd wb b line o (.returned (.tuple #[])) w' := by subst ho; exact ⟨rfl, all, ws, h⟩
theorem psplit_any (s : ByteArray) (hs : s.size ≤ 1048576) (w : World) : Calls Tryd.prog 17 #[.string s] w (SplitEnd w (Src.splitW s)) := by
  unfold Src.splitW
  by_cases h : s.size ≤ 500
  · rw [if_pos h]; exact split_any s w h
  · rw [if_neg h]; exact split_long s w (by unfold maxLen; omega) (by omega)
theorem read_err {S : Source} {s : ByteArray} {n : Int} {ws : List Src.Wd} {p e : Int} (hr : Src.splitW s = (ws, p, e)) (he : ¬ e = 0) : Src.readP S s n = .inl ⟨e, n, p⟩ := by
  unfold Src.readP; rw [hr]; simp only [he, not_false_eq_true, if_true]
theorem read_none {S : Source} {s : ByteArray} {n : Int} {p e : Int} (hr : Src.splitW s = ([], p, e)) (he : e = 0) : Src.readP S s n = .inr S := by
  unfold Src.readP; rw [hr]; simp only [he, not_true_eq_false, if_false, if_true]
theorem read_line {S : Source} {s : ByteArray} {n : Int} {ws : List Src.Wd} {p e : Int} (hr : Src.splitW s = (ws, p, e)) (he : e = 0) (hw : ws ≠ []) : Src.readP S s n = Src.lineP S ws s.size n := by
  unfold Src.readP; rw [hr]; simp only [he, hw, not_true_eq_false, if_false]
theorem line_next {S : Source} {ws : List Src.Wd} {z : Nat} {n : Int} (h : Src.openB S = true) : Src.lineP S ws z n = Src.nextP S ws z n := by unfold Src.lineP; rw [if_pos h]
theorem line_rule {S : Source} {ws : List Src.Wd} {z : Nat} {n : Int} (h : Src.openB S = false) (h1 : Src.tl ws 0 = [82, 117, 108, 101]) : Src.lineP S ws z n = Src.ruleLineP S ws z n := by unfold Src.lineP; rw [if_neg (by rw [h]; simp), if_pos h1]
theorem line_zone {S : Source} {ws : List Src.Wd} {z : Nat} {n : Int} (h : Src.openB S = false) (h1 : Src.tl ws 0 = [90, 111, 110, 101]) : Src.lineP S ws z n = Src.zoneP S ws z n := by unfold Src.lineP; rw [if_neg (by rw [h]; simp), if_neg (by rw [h1]; decide), if_pos h1]
theorem line_link {S : Source} {ws : List Src.Wd} {z : Nat} {n : Int} (h : Src.openB S = false) (h1 : Src.tl ws 0 = [76, 105, 110, 107]) : Src.lineP S ws z n = Src.linkP S ws z n := by unfold Src.lineP; rw [if_neg (by rw [h]; simp), if_neg (by rw [h1]; decide), if_neg (by rw [h1]; decide), if_pos h1]
theorem line_word {S : Source} {ws : List Src.Wd} {z : Nat} {n : Int} (h : Src.openB S = false) (h1 : ¬ Src.tl ws 0 = [82, 117, 108, 101]) (h2 : ¬ Src.tl ws 0 = [90, 111, 110, 101]) (h3 : ¬ Src.tl ws 0 = [76, 105, 110, 107]) : Src.lineP S ws z n = .inl ⟨13, n, Src.pt ws 0⟩ := by unfold Src.lineP; rw [if_neg (by rw [h]; simp), if_neg h1, if_neg h2, if_neg h3]
def methodEs : Array MapEntry := #[⟨.string ⟨#[82, 117, 108, 101]⟩, .func (.func 19) #[] #[], 0⟩, ⟨.string ⟨#[90, 111, 110, 101]⟩, .func (.func 20) #[] #[], 1⟩, ⟨.string ⟨#[76, 105, 110, 107]⟩, .func (.func 21) #[] #[], 2⟩]
theorem find_none {a : ByteArray} (h1 : (a == ⟨#[82, 117, 108, 101]⟩) = false) (h2 : (a == ⟨#[90, 111, 110, 101]⟩) = false) (h3 : (a == ⟨#[76, 105, 110, 107]⟩) = false) : Instr.findNow .string (.string a) methodEs.toList 0 = some none := by
  simp only [methodEs, Instr.findNow, Instr.sameNow]
  simp only [h1, h2, h3]
theorem own_words {w : World} {base g c : Nat} {ws : List Src.Wd} (h : w.ownsRow base 61 2 (.slice (some ⟨g, 0, none⟩) ws.length c) ws.length (wordCells ws)) (j : Nat) (hj : j < ws.length) :
    w.cell? ⟨g, j * 2, none⟩ = some (.string (Src.tx ws j)) ∧ w.cell? ⟨g, j * 2 + 1, none⟩ = some (.int .i64 (Src.pt ws j)) := by
  have hc := @World.ownsRow.cells _ _ _ _ _ _ _ h g rfl
  have hadd : ∀ i, (⟨g, 0, none⟩ : Addr).add i = ⟨g, 0 + i, none⟩ := by intro i; unfold Addr.add; split <;> simp_all
  have := wd_at (w := w) (b := g) (o := 0) (ws := ws) (fun i u hu => by have := hc i u hu; rwa [hadd] at this) j hj
  simpa using this
theorem ends_of {P : Program} {f : FuncId} {args : Array Value} {w : World} {R : Ending → World → Prop} {wb : Frm} {b : Nat} {line : Int} {all : ByteArray} {ws : List Src.Wd} {o : Fault ⊕ Source} (h : Calls P f args w (RdEnd wb b line all ws o)) (k : ∀ e w', RdEnd wb b line all ws o e w' → R e w') : Calls P f args w R := h.mono k
set_option maxRecDepth 100000 in
set_option maxHeartbeats 16000000 in
theorem pread_any (wb : Frm) (w : World) (b : Nat) (S : Source) (line : Int) (s : ByteArray) (hgb : GoodW wb.w) (h : ∃ all ws, Rd wb w b S line all ws) (hf : Src.fitsN S) (hs : s.size ≤ 1048576) (hl0 : 0 ≤ line) (hl1 : line ≤ 2000000) :
    Calls Tryd.prog 11 #[.pointer (some ⟨b, 0, none⟩), .string s] w (ReadEnd wb b (line + 1) (Src.readP S s (line + 1))) := by
  have p0 := fun (w0 : World) (B : Nat) (hB : B = w0.heap.size) => put_at (P := Tryd.prog) Tryd.underlying59 Tryd.underlying9 w0 B hB #[] 0 ⟨#[82, 117, 108, 101]⟩ (.func (.func 19) #[] #[]) rfl
  have p1 := fun (w0 : World) (B : Nat) (hB : B = w0.heap.size) => put_at (P := Tryd.prog) Tryd.underlying59 Tryd.underlying9 w0 B hB #[⟨.string ⟨#[82, 117, 108, 101]⟩, .func (.func 19) #[] #[], 0⟩] 1 ⟨#[90, 111, 110, 101]⟩ (.func (.func 20) #[] #[]) rfl
  have p2 := fun (w0 : World) (B : Nat) (hB : B = w0.heap.size) => put_at (P := Tryd.prog) Tryd.underlying59 Tryd.underlying9 w0 B hB #[⟨.string ⟨#[82, 117, 108, 101]⟩, .func (.func 19) #[] #[], 0⟩, ⟨.string ⟨#[90, 111, 110, 101]⟩, .func (.func 20) #[] #[], 1⟩] 2 ⟨#[76, 105, 110, 107]⟩ (.func (.func 21) #[] #[]) rfl
  simp only [List.push_toArray, List.nil_append, List.cons_append, Nat.reduceAdd] at p0 p1 p2
  have lk := fun (r : Option (Nat × Value)) (key : ByteArray) hf (w0 : World) (B : Nat) (hB : B = w0.heap.size) => look_atF (P := Tryd.prog) Tryd.underlying59 Tryd.underlying9 w0 B hB methodEs 3 key .nilFunc (fun w => Tryd.zeroValue58 w) r hf
  have hmm := @run_makeMap Tryd.prog
  have hfn := func_nil
  have hnn := nil_nil
  obtain ⟨all0, ws0, hR⟩ := h
  have hR1 := rd_line hR (line + 1)
  have HSp := fun w => Lib.hid (psplit_any s hs w)
  have hwo := Src.words_ok s
  have hge := hR.ge
  obtain ⟨-, -, vr, vz, vl, lv0, zp, Bw, hblk, -, -⟩ := hR
  haveI : InW b w := ⟨hblk.lt⟩
  have hbw := hblk.lt
  have c3 : w.cell? ⟨b, 3, none⟩ = some (.int .i64 line) := (hblk.cell 3).trans rfl
  have f3 : w.frozen? ⟨b, 3, none⟩ = false := hblk.frozen 3
  have c4 : w.cell? ⟨b, 4, none⟩ = some (.string all0) := (hblk.cell 4).trans rfl
  have f4 : w.frozen? ⟨b, 4, none⟩ = false := hblk.frozen 4
  have c5 : w.cell? ⟨b, 5, none⟩ = some lv0 := (hblk.cell 5).trans rfl
  have f5 : w.frozen? ⟨b, 5, none⟩ = false := hblk.frozen 5
  have c6 : w.cell? ⟨b, 6, none⟩ = some (.bool (Src.openB S)) := (hblk.cell 6).trans rfl
  clear hblk
  obtain ⟨r, hr⟩ : ∃ r, Src.splitW s = r := ⟨_, rfl⟩
  rw [hr] at HSp hwo
  obtain ⟨ws, p, e⟩ := r
  simp only at hwo
  obtain ⟨hw16, hws⟩ := hwo
  have HE1 := fun he => Lib.hid (@read_err S s (line + 1) ws p e hr he)
  have HE3 := fun he hw => Lib.hid (@read_line S s (line + 1) ws p e hr he hw)
  have Hr := Lib.hid hr
  clear hr
  go_enter Tryd.func11, Tryd.ntmps11
  go_wp2_with fail
  go_at_call 17
  refine (HSp _).out.mono ?_
  rintro _ _ ⟨v, y, rfl, hown, rfl⟩
  clear HSp
  simp only at hown
  by_cases he : e = 0
  rotate_left
  · have g1 : (e != 0) = true := by simpa using he
    have HO := HE1 he
    clear HE1 HE3
    go_wp2_with fail
    go_at_call 12
    refine (pwrong_any b (line + 1) e p _ (Nat.lt_of_lt_of_le (by rw [World.size_setCell]; exact hbw) y.le) (by go_simp)).bad ?_
    intro y2
    go_wp2
    exact bodyPost_panic rfl (read_bad HO.out (hR1.ext.trans (y.hb.trans y2.hb)))
  subst he
  by_cases hw0 : ws = []
  · subst hw0
    have HO := Lib.hid (@read_none S s (line + 1) p 0 Hr.out rfl)
    obtain ⟨a, c, rfl⟩ := owns_shape hown
    clear HE1 HE3
    go_wp2
    go_end0
    exact read_good HO.out (rd_ext hR1 y.hb)
  have HO := HE3 rfl hw0
  clear HE1 HE3
  have hwn : ws.length ≠ 0 := by intro h0; exact hw0 (List.length_eq_zero_iff.1 h0)
  have hR2 : Rd wb ((y.set b 4 (.string s)).set b 5 v).x b S (line + 1) s ws := rd_text (all' := s) (rd_ext hR1 y.hb) hown
  obtain ⟨g, c, rfl⟩ := owns_block hown hwn
  obtain ⟨n, hn⟩ : ∃ n, ws.length = n := ⟨_, rfl⟩
  obtain ⟨hg1, hg2⟩ := hown.lt g rfl
  rw [World.size_setCell] at hg1
  have gb : ¬ g = b := by omega
  have gb' : ¬ b = g := by omega
  haveI : InW g y.x := ⟨hg2⟩
  have k1 := len_of (owns_reads hown (by decide))
  obtain ⟨d0, d1⟩ := own_words hown 0 (by omega)
  simp only [Nat.zero_mul, Nat.zero_add] at d0 d1
  rw [hn] at hR2 hwn k1 ⊢
  have b1 : n ≤ 16 := by omega
  have g2 : ((n : Int) == 0) = false := by simpa using hwn
  have g3 : (0 : Int) < n := by omega
  have hopen : ∃ o, Src.openB S = o := ⟨_, rfl⟩
  obtain ⟨op, hop⟩ := hopen
  rw [hop] at c6
  cases op
  rotate_left
  · have hO2 := Lib.hid (HO.out.trans (line_next hop))
    go_wp2_with fail
    go_at_call 18
    refine rdEnd_use (pnext_any wb _ b S (line + 1) s ws (hgb.ext hR2.ext.ext) hR2 hws (by omega) (by omega) hs (Src.open_zones hop) (by have := hf.2.2.2; omega) (by have := hf.2.1; omega)) (fun F w' hF hx => ?_) (fun S' w' hF hR => ?_)
    · go_wp2
      exact bodyPost_panic rfl (read_bad (hO2.out.trans hF) hx)
    · go_wp2
      go_end0
      exact read_good (hO2.out.trans hF) hR
  rcases lit_cases (Src.tx ws 0) ⟨#[82, 117, 108, 101]⟩ [82, 117, 108, 101] (by decide +kernel) with ⟨t0, t0', t0''⟩ | ⟨t0, t0', t0''⟩
  · have hO2 := Lib.hid (HO.out.trans (line_rule hop (by unfold Src.tl; rw [t0''])))
    rw [t0''] at d0
    have lk := lk (some (0, .func (.func 19) #[] #[])) ⟨#[82, 117, 108, 101]⟩ rfl
    simp only [foundV, methodEs] at lk
    clear t0 t0' t0''
    go_wp2_with fail
    trace_state
    go_at_call 19
    refine rdEnd_use (prule_any wb _ b S (line + 1) s ws (hgb.ext (rd_ext hR2 isext).ext.ext) (rd_ext hR2 isext) hws (by omega) (by omega) hs) (fun F w' hF hx => ?_) (fun S' w' hF hR => ?_)
    · go_wp2
      exact bodyPost_panic rfl (read_bad (hO2.out.trans hF) hx)
    · go_wp2
      go_end0
      exact read_good (hO2.out.trans hF) hR
  rcases lit_cases (Src.tx ws 0) ⟨#[90, 111, 110, 101]⟩ [90, 111, 110, 101] (by decide +kernel) with ⟨t1, t1', t1''⟩ | ⟨t1, t1', t1''⟩
  · have hO2 := Lib.hid (HO.out.trans (line_zone hop (by unfold Src.tl; rw [t1''])))
    rw [t1''] at d0
    have lk := lk (some (1, .func (.func 20) #[] #[])) ⟨#[90, 111, 110, 101]⟩ rfl
    simp only [foundV, methodEs] at lk
    clear t1 t1' t1''
    go_wp2_with fail
    trace_state
    go_at_call 20
    refine rdEnd_use (pzone_any wb _ b S (line + 1) s ws hgb (rd_ext hR2 isext) hws (by omega) (by omega) hs hop) (fun F w' hF hx => ?_) (fun S' w' hF hR => ?_)
    · go_wp2
      exact bodyPost_panic rfl (read_bad (hO2.out.trans hF) hx)
    · go_wp2
      go_end0
      exact read_good (hO2.out.trans hF) hR
  rcases lit_cases (Src.tx ws 0) ⟨#[76, 105, 110, 107]⟩ [76, 105, 110, 107] (by decide +kernel) with ⟨t2, t2', t2''⟩ | ⟨t2, t2', t2''⟩
  · have hO2 := Lib.hid (HO.out.trans (line_link hop (by unfold Src.tl; rw [t2''])))
    rw [t2''] at d0
    have lk := lk (some (2, .func (.func 21) #[] #[])) ⟨#[76, 105, 110, 107]⟩ rfl
    simp only [foundV, methodEs] at lk
    clear t2 t2' t2''
    go_wp2_with fail
    trace_state
    go_at_call 21
    refine rdEnd_use (plink_any wb _ b S (line + 1) s ws (hgb.ext (rd_ext hR2 isext).ext.ext) (rd_ext hR2 isext) hws (by omega) (by omega) hs) (fun F w' hF hx => ?_) (fun S' w' hF hR => ?_)
    · go_wp2
      exact bodyPost_panic rfl (read_bad (hO2.out.trans hF) hx)
    · go_wp2
      go_end0
      exact read_good (hO2.out.trans hF) hR
  have hO2 := Lib.hid (HO.out.trans (line_word hop t0'' t1'' t2''))
  have lk := lk none (Src.tx ws 0) (find_none t0 t1 t2)
  simp only [foundV, methodEs] at lk
  clear t0 t0' t0'' t1 t1' t1'' t2 t2' t2''
  go_wp2_with fail
  go_at_call 12
  have hb9 := hR2
  obtain ⟨-, -, vr9, vz9, vl9, lv9, zp9, Bw9, hblk9, -, -⟩ := hb9
  refine (pwrong_any b (line + 1) 13 (Src.pt ws 0) _ (Nat.lt_of_lt_of_le hblk9.lt (Below.size isext)) (by go_simp)).bad ?_
  intro y2
  go_wp2
  exact bodyPost_panic rfl (read_bad hO2.out ((rd_ext hR2 isext).ext.trans y2.hb))
end Go.Proofs.YtdhbgelijjlifaaDoor
