/- Walks of sources: the reader's rule. -/
import Derived.Test.YtdhbgelijjlifaaGreatDoorSrcRdR
import Derived.Test.YtdhbgelijjlifaaGreatDoorSrcRdS
import Derived.Test.YtdhbgelijjlifaaGreatDoorSrcRdT
import Derived.Test.YtdhbgelijjlifaaGreatDoorSrcRdN
import Derived.Test.YtdhbgelijjlifaaGreatDoorSrcRdQ
import Derived.Test.YtdhbgelijjlifaaGreatDoorSrcSet
import Derived.Test.YtdhbgelijjlifaaGreatDoorMomWalkE
import Derived.Test.YtdhbgelijjlifaaGreatDoorSrcRdE
import Derived.Defers
import Derived.Recover
import Derived.Test.YtdhbgelijjlifaaGreatDoorFieWalkK
import Derived.Test.YtdhbgelijjlifaaGreatDoorSrcLawB
set_option linter.unusedVariables false
set_option linter.unusedSimpArgs false
namespace Go.Proofs.YtdhbgelijjlifaaGreatDoor
open Go.RowKit Go.Shelf
theorem prule_any (wb : Frm) (w : World) (b : Nat) (S : Source) (line : Int) (all : ByteArray) (ws : List Src.Wd) (hg : GoodW w) (h : Rd wb w b S line all ws) (hs : ∀ x ∈ ws, x.1.size ≤ 1000) (hw0 : 0 < ws.length) (hw16 : ws.length ≤ 100) (hall : all.size ≤ 1048576) :
 Calls Tryz.prog 49 #[.pointer (some ⟨b, 0, none⟩)] w (RdEnd wb b line all ws (Src.ruleLineP S ws all.size line)) := by
 rcases lit_cases (Src.tx ws 3) ⟨#[111, 110, 108, 121]⟩ [111, 110, 108, 121] (by decide +kernel) with ⟨t1, t2, t3⟩ | ⟨t1, t2, t3⟩
 · exact prule_only wb w b S line all ws hg h hs hw0 hw16 hall t1 t2 (by unfold Src.toP; rw [if_pos (by unfold Src.tl; rw [t3])])
 · have n3 : ¬ Src.tl ws 3 = [111, 110, 108, 121] := t3
   rcases lit_cases (Src.tx ws 3) ⟨#[109, 97, 120]⟩ [109, 97, 120] (by decide +kernel) with ⟨t4, t5, t6⟩ | ⟨t4, t5, t6⟩
   · exact prule_max wb w b S line all ws hg h hs hw0 hw16 hall t1 t2 t4 t5 (by unfold Src.toP; rw [if_neg n3, if_pos (by unfold Src.tl; rw [t6])])
   · exact prule_year wb w b S line all ws hg h hs hw0 hw16 hall t1 t2 t4 t5 (by unfold Src.toP; rw [if_neg n3, if_neg (show ¬ Src.tl ws 3 = [109, 97, 120] from t6)])
end Go.Proofs.YtdhbgelijjlifaaGreatDoor
namespace Go.Proofs.YtdhbgelijjlifaaGreatDoor
open Go.RowKit Go.Shelf
theorem look_newF {P : Program} {t k e : TypeId} (ht : P.underlying t = some (.map k e)) (hk : P.underlying k = some .string) (w0 : World) (es : Array MapEntry) (clock : Nat) (key : ByteArray) (z : Value) (hz : ∀ w, (zeroValue e).run P w = .ok z w) (r : Option (Nat × Value))
 (hf : Instr.findNow .string (.string key) es.toList 0 = some r) :
 (Instr.lookup t (.map (some w0.heap.size)) (.string key) false).run P (w0.alloc (.map es clock)) = .ok (foundV z r) (w0.alloc (.map es clock)) := by
 have h1 := heap_new_get w0 (.map es clock)
 have h2 := fun w => find_run (P := P) hk w (.string key) es.toList r hf
 cases r with
 | none => simp [Instr.lookup, run_underlying ht, MapKept.run_getObj_map h1, check_run hk, h2, hz, Result.andThen, foundV]
 | some r => simp [Instr.lookup, run_underlying ht, MapKept.run_getObj_map h1, check_run hk, h2, hz, Result.andThen, foundV]
theorem func_nil (f : FuncId) (w : World) : (binOp .eql 92 (.func (.func f) #[] #[]) .nilFunc).run Tryz.prog w = .ok (.bool false) w := by kernel_rfl
theorem nil_nil (w : World) : (binOp .eql 92 .nilFunc .nilFunc).run Tryz.prog w = .ok (.bool true) w := by kernel_rfl
theorem put_at {P : Program} {t k e : TypeId} (ht : P.underlying t = some (.map k e)) (hk : P.underlying k = some .string) (w0 : World) (B : Nat) (hB : B = w0.heap.size) (es : Array MapEntry) (clock : Nat) (key : ByteArray) (v : Value)
 (hf : Instr.findNow .string (.string key) es.toList 0 = some none) :
 (Instr.mapUpdate t (.map (some B)) (.string key) v).run P (w0.alloc (.map es clock)) = .ok () (w0.alloc (.map (es.push ⟨.string key, v, clock⟩) (clock + 1))) := by
 subst hB; exact put_new ht hk w0 es clock key v hf
theorem look_atF {P : Program} {t k e : TypeId} (ht : P.underlying t = some (.map k e)) (hk : P.underlying k = some .string) (w0 : World) (B : Nat) (hB : B = w0.heap.size) (es : Array MapEntry) (clock : Nat) (key : ByteArray) (z : Value) (hz : ∀ w, (zeroValue e).run P w = .ok z w) (r : Option (Nat × Value))
 (hf : Instr.findNow .string (.string key) es.toList 0 = some r) :
 (Instr.lookup t (.map (some B)) (.string key) false).run P (w0.alloc (.map es clock)) = .ok (foundV z r) (w0.alloc (.map es clock)) := by
 subst hB; exact look_newF ht hk w0 es clock key z hz r hf
theorem rd_line {wb : Frm} {w : World} {b : Nat} {S : Source} {line : Int} {all : ByteArray} {ws : List Src.Wd} (h : Rd wb w b S line all ws) (line' : Int) : Rd wb (w.setCell ⟨b, 3, none⟩ (.int .i64 line')) b S line' all ws := by
 obtain ⟨h1, h2, vr, vz, vl, lv, zp, Bw, h3, h4, h5⟩ := h
 refine ⟨h1.store h3 h2 _ _, h2, vr, vz, vl, lv, zp, Bw, ?_, h4.store (by show b < b + 1; omega), own_store h5 (own_blk h3 h5 (by decide))⟩
 rw [h3.set 3 (.int .i64 line')]
 exact setB_blk h3
theorem rd_text {wb : Frm} {w : World} {b B' : Nat} {S : Source} {line : Int} {all all' : ByteArray} {ws ws' : List Src.Wd} {lv' : Value} (h : Rd wb w b S line all ws) (hl : w.ownsRow B' 68 2 lv' ws'.length (wordCells ws')) :
 Rd wb ((w.setCell ⟨b, 4, none⟩ (.string all')).setCell ⟨b, 5, none⟩ lv') b S line all' ws' := by
 obtain ⟨h1, h2, vr, vz, vl, lv, zp, Bw, h3, h4, h5⟩ := h
 have hbl := own_blk h3 hl (by decide)
 have hs := setB_blk (C' := #[vr, vz, vl, .int .i64 line, .string all', lv, .bool (Src.openB S)]) h3
 have e4 : w.setCell ⟨b, 4, none⟩ (.string all') = setB w b #[vr, vz, vl, .int .i64 line, .string all', lv, .bool (Src.openB S)] 49 := by rw [h3.set 4 (.string all')]; rfl
 have hb4 : Blk (w.setCell ⟨b, 4, none⟩ (.string all')) b #[vr, vz, vl, .int .i64 line, .string all', lv, .bool (Src.openB S)] 49 := by rw [e4]; exact hs
 refine ⟨(h1.store h3 h2 _ _).store hb4 h2 _ _, h2, vr, vz, vl, lv', zp, B', ?_, (h4.store (by show b < b + 1; omega)).store (by show b < b + 1; omega), own_store (own_store hl hbl) hbl⟩
 rw [hb4.set 5 lv']
 exact setB_blk hb4
def ReadEnd (wb : Frm) (b : Nat) (line : Int) (o : Fault ⊕ Source) (e : Ending) (w' : World) : Prop := match o with
 | .inl f => e = gaveUp f ∧ Kept wb w'
 | .inr S => e = .returned (.tuple #[]) ∧ ∃ all ws, Rd wb w' b S line all ws
theorem read_bad {wb : Frm} {b : Nat} {line : Int} {o : Fault ⊕ Source} {f : Fault} {w' : World} (ho : o = .inl f) (hx : Kept wb w') : ReadEnd wb b line o (gaveUp f) w' := by subst ho; exact ⟨rfl, hx⟩
theorem read_good {wb : Frm} {b : Nat} {line : Int} {all : ByteArray} {ws : List Src.Wd} {o : Fault ⊕ Source} {S : Source} {w' : World} (ho : o = .inr S) (h : Rd wb w' b S line all ws) : ReadEnd wb b line o (.returned (.tuple #[])) w' := by subst ho; exact ⟨rfl, all, ws, h⟩
theorem psplit_any (s : ByteArray) (hs : s.size ≤ 1048576) (w : World) : Calls Tryz.prog 47 #[.string s] w (SplitEnd w (Src.splitW s)) := by
 unfold Src.splitW
 by_cases h : s.size ≤ 500
 · rw [if_pos h]; exact split_any s w h
 · rw [if_neg h]; exact split_long s w (by unfold maxLen; omega) (by omega)
theorem read_err {S : Source} {s : ByteArray} {n : Int} {ws : List Src.Wd} {p e : Int} (hr : Src.splitW s = (ws, p, e)) (he : ¬ e = 0) : Src.readP S s n = .inl ⟨e, n, p⟩ := by
 unfold Src.readP; rw [hr]; simp only [he, not_false_eq_true, if_true]
theorem read_none {S : Source} {s : ByteArray} {n : Int} {p e : Int} (hr : Src.splitW s = ([], p, e)) (he : e = 0) : Src.readP S s n = .inr S := by
 unfold Src.readP; rw [hr]; simp only [he, not_true_eq_false, if_false, if_true]
theorem read_line {S : Source} {s : ByteArray} {n : Int} {ws : List Src.Wd} {p e : Int} (hr : Src.splitW s = (ws, p, e)) (he : e = 0) (hw : ws ≠ []) : Src.readP S s n = Src.lineP S ws s.size n := by
 unfold Src.readP; rw [hr]; simp only [he, hw, not_true_eq_false, if_false]
theorem line_next {S : Source} {ws : List Src.Wd} {z : Nat} {n : Int} (h : Src.openB S = true) : Src.lineP S ws z n = Src.nextP S ws z n := by unfold Src.lineP; rw [if_pos h]
theorem line_rule {S : Source} {ws : List Src.Wd} {z : Nat} {n : Int} (h : Src.openB S = false) (h1 : Src.tl ws 0 = [82, 117, 108, 101]) : Src.lineP S ws z n = Src.ruleLineP S ws z n := by unfold Src.lineP; rw [if_neg (by rw [h]; simp), if_pos h1]
theorem line_zone {S : Source} {ws : List Src.Wd} {z : Nat} {n : Int} (h : Src.openB S = false) (h1 : Src.tl ws 0 = [90, 111, 110, 101]) : Src.lineP S ws z n = Src.zoneP S ws z n := by unfold Src.lineP; rw [if_neg (by rw [h]; simp), if_neg (by rw [h1]; decide), if_pos h1]
theorem line_link {S : Source} {ws : List Src.Wd} {z : Nat} {n : Int} (h : Src.openB S = false) (h1 : Src.tl ws 0 = [76, 105, 110, 107]) : Src.lineP S ws z n = Src.linkP S ws z n := by unfold Src.lineP; rw [if_neg (by rw [h]; simp), if_neg (by rw [h1]; decide), if_neg (by rw [h1]; decide), if_pos h1]
theorem line_word {S : Source} {ws : List Src.Wd} {z : Nat} {n : Int} (h : Src.openB S = false) (h1 : ¬ Src.tl ws 0 = [82, 117, 108, 101]) (h2 : ¬ Src.tl ws 0 = [90, 111, 110, 101]) (h3 : ¬ Src.tl ws 0 = [76, 105, 110, 107]) : Src.lineP S ws z n = .inl ⟨13, n, Src.pt ws 0⟩ := by unfold Src.lineP; rw [if_neg (by rw [h]; simp), if_neg h1, if_neg h2, if_neg h3]
def methodEs : Array MapEntry := #[⟨.string ⟨#[82, 117, 108, 101]⟩, .func (.func 49) #[] #[], 0⟩, ⟨.string ⟨#[90, 111, 110, 101]⟩, .func (.func 50) #[] #[], 1⟩, ⟨.string ⟨#[76, 105, 110, 107]⟩, .func (.func 51) #[] #[], 2⟩]
theorem find_none {a : ByteArray} (h1 : (a == ⟨#[82, 117, 108, 101]⟩) = false) (h2 : (a == ⟨#[90, 111, 110, 101]⟩) = false) (h3 : (a == ⟨#[76, 105, 110, 107]⟩) = false) : Instr.findNow .string (.string a) methodEs.toList 0 = some none := by
 simp only [methodEs, Instr.findNow, Instr.sameNow]
 simp only [h1, h2, h3]
theorem own_words {w : World} {base g c : Nat} {ws : List Src.Wd} (h : w.ownsRow base 68 2 (.slice (some ⟨g, 0, none⟩) ws.length c) ws.length (wordCells ws)) (j : Nat) (hj : j < ws.length) :
 w.cell? ⟨g, j * 2, none⟩ = some (.string (Src.tx ws j)) ∧ w.cell? ⟨g, j * 2 + 1, none⟩ = some (.int .i64 (Src.pt ws j)) := by
 have hc := @World.ownsRow.cells _ _ _ _ _ _ _ h g rfl
 have hadd : ∀ i, (⟨g, 0, none⟩ : Addr).add i = ⟨g, 0 + i, none⟩ := by intro i; unfold Addr.add; split <;> simp_all
 have := wd_at (w := w) (b := g) (o := 0) (ws := ws) (fun i u hu => by have := hc i u hu; rwa [hadd] at this) j hj
 simpa using this
set_option maxRecDepth 100000 in
set_option maxHeartbeats 16000000 in
theorem pread_any (wb : Frm) (w : World) (b : Nat) (S : Source) (line : Int) (s : ByteArray) (hgb : GoodW wb.w) (h : ∃ all ws, Rd wb w b S line all ws) (hf : Src.fitsN S) (hs : s.size ≤ 1048576) (hl0 : 0 ≤ line) (hl1 : line ≤ 2000000) :
 Calls Tryz.prog 25 #[.pointer (some ⟨b, 0, none⟩), .string s] w (ReadEnd wb b (line + 1) (Src.readP S s (line + 1))) := by
 have p0 := fun (w0 : World) (B : Nat) (hB : B = w0.heap.size) => put_at (P := Tryz.prog) Tryz.underlying93 Tryz.underlying9 w0 B hB #[] 0 ⟨#[82, 117, 108, 101]⟩ (.func (.func 49) #[] #[]) rfl
 have p1 := fun (w0 : World) (B : Nat) (hB : B = w0.heap.size) => put_at (P := Tryz.prog) Tryz.underlying93 Tryz.underlying9 w0 B hB #[⟨.string ⟨#[82, 117, 108, 101]⟩, .func (.func 49) #[] #[], 0⟩] 1 ⟨#[90, 111, 110, 101]⟩ (.func (.func 50) #[] #[]) rfl
 have p2 := fun (w0 : World) (B : Nat) (hB : B = w0.heap.size) => put_at (P := Tryz.prog) Tryz.underlying93 Tryz.underlying9 w0 B hB #[⟨.string ⟨#[82, 117, 108, 101]⟩, .func (.func 49) #[] #[], 0⟩, ⟨.string ⟨#[90, 111, 110, 101]⟩, .func (.func 50) #[] #[], 1⟩] 2 ⟨#[76, 105, 110, 107]⟩ (.func (.func 51) #[] #[]) rfl
 simp only [List.push_toArray, List.nil_append, List.cons_append, Nat.reduceAdd] at p0 p1 p2
 have lk := fun (r : Option (Nat × Value)) (key : ByteArray) hf (w0 : World) (B : Nat) (hB : B = w0.heap.size) => look_atF (P := Tryz.prog) Tryz.underlying93 Tryz.underlying9 w0 B hB methodEs 3 key .nilFunc (fun w => Tryz.zeroValue92 w) r hf
 have hmm := @run_makeMap Tryz.prog
 have hfn := func_nil
 have hnn := nil_nil
 obtain ⟨all0, ws0, hR⟩ := h
 have hR1 := rd_line hR (line + 1)
 have HSp := fun w => Lib.hid (psplit_any s hs w)
 have hwo := Src.words_ok s
 have hge := hR.ge
 obtain ⟨-, -, vr, vz, vl, lv0, zp, Bw, hblk, -, -⟩ := hR
 haveI : InW b w := ⟨hblk.lt⟩
 have hbw := hblk.lt
 have c3 : w.cell? ⟨b, 3, none⟩ = some (.int .i64 line) := (hblk.cell 3).trans rfl
 have f3 : w.frozen? ⟨b, 3, none⟩ = false := hblk.frozen 3
 have c4 : w.cell? ⟨b, 4, none⟩ = some (.string all0) := (hblk.cell 4).trans rfl
 have f4 : w.frozen? ⟨b, 4, none⟩ = false := hblk.frozen 4
 have c5 : w.cell? ⟨b, 5, none⟩ = some lv0 := (hblk.cell 5).trans rfl
 have f5 : w.frozen? ⟨b, 5, none⟩ = false := hblk.frozen 5
 have c6 : w.cell? ⟨b, 6, none⟩ = some (.bool (Src.openB S)) := (hblk.cell 6).trans rfl
 clear hblk
 obtain ⟨r, hr⟩ : ∃ r, Src.splitW s = r := ⟨_, rfl⟩
 rw [hr] at HSp hwo
 obtain ⟨ws, p, e⟩ := r
 simp only at hwo
 obtain ⟨hw16, hws⟩ := hwo
 have HE1 := fun he => Lib.hid (@read_err S s (line + 1) ws p e hr he)
 have HE3 := fun he hw => Lib.hid (@read_line S s (line + 1) ws p e hr he hw)
 have Hr := Lib.hid hr
 clear hr
 go_enter Tryz.func25, Tryz.ntmps25
 go_wp2_with fail
 go_at_call 47
 refine (HSp _).out.mono ?_
 rintro _ _ ⟨v, y, rfl, hown, rfl⟩
 clear HSp
 simp only at hown
 by_cases he : e = 0
 rotate_left
 · have g1 : (e != 0) = true := by simpa using he
   have HO := HE1 he
   clear HE1 HE3
   go_wp2_with fail
   go_at_call 26
   refine (pwrong_any b (line + 1) e p _ (Nat.lt_of_lt_of_le (by rw [World.size_setCell]; exact hbw) y.le) (by go_simp)).bad ?_
   intro y2
   go_wp2
   exact bodyPost_panic rfl (read_bad HO.out (hR1.ext.trans (y.hb.trans y2.hb)))
 subst he
 by_cases hw0 : ws = []
 · subst hw0
   have HO := Lib.hid (@read_none S s (line + 1) p 0 Hr.out rfl)
   obtain ⟨a, c, rfl⟩ := owns_shape hown
   clear HE1 HE3
   go_wp2
   go_end0
   exact read_good HO.out (rd_ext hR1 y.hb)
 have HO := HE3 rfl hw0
 clear HE1 HE3
 have hwn : ws.length ≠ 0 := by intro h0; exact hw0 (List.length_eq_zero_iff.1 h0)
 have hR2 : Rd wb ((y.set b 4 (.string s)).set b 5 v).x b S (line + 1) s ws := rd_text (all' := s) (rd_ext hR1 y.hb) hown
 obtain ⟨g, c, rfl⟩ := owns_block hown hwn
 obtain ⟨n, hn⟩ : ∃ n, ws.length = n := ⟨_, rfl⟩
 obtain ⟨hg1, hg2⟩ := hown.lt g rfl
 rw [World.size_setCell] at hg1
 have gb : ¬ g = b := by omega
 have gb' : ¬ b = g := by omega
 haveI : InW g y.x := ⟨hg2⟩
 have k1 := len_of (owns_reads hown (by decide))
 obtain ⟨d0, d1⟩ := own_words hown 0 (by omega)
 simp only [Nat.zero_mul, Nat.zero_add] at d0 d1
 rw [hn] at hR2 hwn k1 ⊢
 have b1 : n ≤ 16 := by omega
 have g2 : ((n : Int) == 0) = false := by simpa using hwn
 have g3 : (0 : Int) < n := by omega
 have hopen : ∃ o, Src.openB S = o := ⟨_, rfl⟩
 obtain ⟨op, hop⟩ := hopen
 rw [hop] at c6
 cases op
 rotate_left
 · have hO2 := Lib.hid (HO.out.trans (line_next hop))
   go_wp2_with fail
   go_at_call 48
   refine rdEnd_use (pnext_any wb _ b S (line + 1) s ws (hgb.ext hR2.ext.ext) hR2 hws (by omega) (by omega) hs (Src.open_zones hop) (by have := hf.2.2.2; omega) (by have := hf.2.1; omega)) (fun F w' hF hx => ?_) (fun S' w' hF hR => ?_)
   · go_wp2
     exact bodyPost_panic rfl (read_bad (hO2.out.trans hF) hx)
   · go_wp2
     go_end0
     exact read_good (hO2.out.trans hF) hR
 rcases lit_cases (Src.tx ws 0) ⟨#[82, 117, 108, 101]⟩ [82, 117, 108, 101] (by decide +kernel) with ⟨t0, t0', t0''⟩ | ⟨t0, t0', t0''⟩
 · have hO2 := Lib.hid (HO.out.trans (line_rule hop (by unfold Src.tl; rw [t0''])))
   rw [t0''] at d0
   have lk := lk (some (0, .func (.func 49) #[] #[])) ⟨#[82, 117, 108, 101]⟩ rfl
   simp only [foundV, methodEs] at lk
   clear t0 t0' t0''
   go_wp2_with fail
   trace_state
   go_at_call 49
   refine rdEnd_use (prule_any wb _ b S (line + 1) s ws (hgb.ext (rd_ext hR2 isext).ext.ext) (rd_ext hR2 isext) hws (by omega) (by omega) hs) (fun F w' hF hx => ?_) (fun S' w' hF hR => ?_)
   · go_wp2
     exact bodyPost_panic rfl (read_bad (hO2.out.trans hF) hx)
   · go_wp2
     go_end0
     exact read_good (hO2.out.trans hF) hR
 rcases lit_cases (Src.tx ws 0) ⟨#[90, 111, 110, 101]⟩ [90, 111, 110, 101] (by decide +kernel) with ⟨t1, t1', t1''⟩ | ⟨t1, t1', t1''⟩
 · have hO2 := Lib.hid (HO.out.trans (line_zone hop (by unfold Src.tl; rw [t1''])))
   rw [t1''] at d0
   have lk := lk (some (1, .func (.func 50) #[] #[])) ⟨#[90, 111, 110, 101]⟩ rfl
   simp only [foundV, methodEs] at lk
   clear t1 t1' t1''
   go_wp2_with fail
   trace_state
   go_at_call 50
   refine rdEnd_use (pzone_any wb _ b S (line + 1) s ws hgb (rd_ext hR2 isext) hws (by omega) (by omega) hs hop) (fun F w' hF hx => ?_) (fun S' w' hF hR => ?_)
   · go_wp2
     exact bodyPost_panic rfl (read_bad (hO2.out.trans hF) hx)
   · go_wp2
     go_end0
     exact read_good (hO2.out.trans hF) hR
 rcases lit_cases (Src.tx ws 0) ⟨#[76, 105, 110, 107]⟩ [76, 105, 110, 107] (by decide +kernel) with ⟨t2, t2', t2''⟩ | ⟨t2, t2', t2''⟩
 · have hO2 := Lib.hid (HO.out.trans (line_link hop (by unfold Src.tl; rw [t2''])))
   rw [t2''] at d0
   have lk := lk (some (2, .func (.func 51) #[] #[])) ⟨#[76, 105, 110, 107]⟩ rfl
   simp only [foundV, methodEs] at lk
   clear t2 t2' t2''
   go_wp2_with fail
   trace_state
   go_at_call 51
   refine rdEnd_use (plink_any wb _ b S (line + 1) s ws (hgb.ext (rd_ext hR2 isext).ext.ext) (rd_ext hR2 isext) hws (by omega) (by omega) hs) (fun F w' hF hx => ?_) (fun S' w' hF hR => ?_)
   · go_wp2
     exact bodyPost_panic rfl (read_bad (hO2.out.trans hF) hx)
   · go_wp2
     go_end0
     exact read_good (hO2.out.trans hF) hR
 have hO2 := Lib.hid (HO.out.trans (line_word hop t0'' t1'' t2''))
 have lk := lk none (Src.tx ws 0) (find_none t0 t1 t2)
 simp only [foundV, methodEs] at lk
 clear t0 t0' t0'' t1 t1' t1'' t2 t2' t2''
 go_wp2_with fail
 go_at_call 26
 have hb9 := hR2
 obtain ⟨-, -, vr9, vz9, vl9, lv9, zp9, Bw9, hblk9, -, -⟩ := hb9
 refine (pwrong_any b (line + 1) 13 (Src.pt ws 0) _ (Nat.lt_of_lt_of_le hblk9.lt (Below.size isext)) (by go_simp)).bad ?_
 intro y2
 go_wp2
 exact bodyPost_panic rfl (read_bad hO2.out ((rd_ext hR2 isext).ext.trans y2.hb))
end Go.Proofs.YtdhbgelijjlifaaGreatDoor
namespace Go.Proofs.YtdhbgelijjlifaaGreatDoor
open Go.RowKit Go.Shelf
theorem assert_fault (x : TypeId) (v : Value) (w : World) : (Instr.typeAssert (.iface 29 v) x 29 true).run Tryz.prog w = .ok (.tuple #[v, .bool true]) w := by kernel_rfl
theorem assert_nil (x : TypeId) (w : World) : (Instr.typeAssert .nilIface x 29 true).run Tryz.prog w = .ok (.tuple #[.agg #[.int .i64 0, .int .i64 0, .int .i64 0], .bool false]) w := by kernel_rfl
theorem wp_at_act {P : Program} {c : Code} {Q : Exit → Act → World → Prop} {a a' : Act} {w : World} (h : a = a') (k : c.wp P Q a' w) : c.wp P Q a w := by subst h; exact k
def Caught (W0 : World) (p q : Nat) (f : Fault) (w' : World) : Prop :=
 Ext W0 w' ∧ w'.cell? ⟨p, 0, none⟩ = some (.slice none 0 0) ∧ w'.cell? ⟨p, 1, none⟩ = some (.slice none 0 0) ∧ w'.cell? ⟨p, 2, none⟩ = some (.slice none 0 0)
  ∧ w'.cell? ⟨q, 0, none⟩ = some (.int .i64 f.e) ∧ w'.cell? ⟨q, 1, none⟩ = some (.int .i64 f.line) ∧ w'.cell? ⟨q, 2, none⟩ = some (.int .i64 f.at0)
set_option maxRecDepth 100000 in
set_option maxHeartbeats 4000000 in
theorem catch_fault (W0 w : World) (p q : Nat) (f : Fault) (older : List PanicEntry) (a0 a1 a2 b0 b1 b2 : Value) (hp : Blk w p #[a0, a1, a2] 26) (hq : Blk w q #[b0, b1, b2] 29) (hpq : ¬ p = q) (hx : Ext W0 w) (h1 : W0.heap.size ≤ p) (h2 : W0.heap.size ≤ q) :
 CallsD Tryz.prog 23 #[.pointer (some ⟨p, 0, none⟩), .pointer (some ⟨q, 0, none⟩)] (.panicking ({ v := .iface 29 (faultC f), recovered := false } :: older)) w fun e u' w' =>
  e = .returned (.tuple #[]) ∧ u' = .panicking ({ v := .iface 29 (faultC f), recovered := true } :: older) ∧ Caught W0 p q f w' := by
 have hpq' : ¬ q = p := fun h => hpq h.symm
 haveI : InW p w := ⟨hp.lt⟩
 haveI : InW q w := ⟨hq.lt⟩
 haveI : ExtC W0 w := ⟨hx⟩
 haveI : GeW W0 p := ⟨h1⟩
 haveI : GeW W0 q := ⟨h2⟩
 have cp0 : w.cell? ⟨p, 0, none⟩ = some a0 := (hp.cell 0).trans rfl
 have cp1 : w.cell? ⟨p, 1, none⟩ = some a1 := (hp.cell 1).trans rfl
 have cp2 : w.cell? ⟨p, 2, none⟩ = some a2 := (hp.cell 2).trans rfl
 have cq0 : w.cell? ⟨q, 0, none⟩ = some b0 := (hq.cell 0).trans rfl
 have cq1 : w.cell? ⟨q, 1, none⟩ = some b1 := (hq.cell 1).trans rfl
 have cq2 : w.cell? ⟨q, 2, none⟩ = some b2 := (hq.cell 2).trans rfl
 have fp0 := hp.frozen 0
 have fp1 := hp.frozen 1
 have fp2 := hp.frozen 2
 have fq0 := hq.frozen 0
 have fq1 := hq.frozen 1
 have fq2 := hq.frozen 2
 clear hp hq
 refine callsD_of_wpS Tryz.func23 rfl fun c₀ cs hu => ?_
 apply wpS_seq
 apply wpS_region
 simp [wpOpsS, go_sem, recoverD, hu, assert_fault, Tryz.ntmps23, Exit.thenS]
 apply wpS_seq
 apply wpS_region
 simp [wpOpsS, go_sem, Exit.thenS]
 refine wpS_cond (t := true) (by simp [Act.eval, Array.replicate]) ?_
 simp only [if_true]
 refine wpS_of_wp ?_
 refine wp_at_act (a' := { tmps := #[.pointer (some ⟨p, 0, none⟩), .pointer (some ⟨q, 0, none⟩), .pointer (some ⟨w.heap.size, 0, none⟩), .bool true, .tuple #[faultC f, .bool true], .iface 29 (faultC f), .tuple #[faultC f, .bool true], faultC f, .bool true, .bool true, undef, undef], defers := [] }) (by kernel_rfl) ?_
 refine wp_region_held_drew (S := fun _ => True) (by kernel_rfl) trivial (fun hHeld => ?_)
 refine wpAnyH_take (i := 0) (oi := ⟨some 10, _, _, _, _, _⟩) (v := ?_) rfl (by kernel_rfl) (by kernel_rfl) (by kernel_rfl) (fun _ _ _ h => h) (Or.inl ⟨by rfl, ?_⟩) (by assumption) ?_
 rotate_left
 · intro w _; go_simp; first | done | (with_reducible rfl)
 try simp only [Act.put, putA, putZ, putS]
 refine wpAnyH_ready (rs := [1, 2]) (by kernel_rfl) (by simp) ?_
 refine AllReadyH.cons (o := ⟨some 11, _, _, _, _, _⟩) rfl (fun K hK => ?_) ?_
 · go_simp
   refine hK.out _ _ ?_ (fun hHeld => ?_)
   · trivial
   clear hK K
   try simp only [Act.put, putA, putZ, putS]
   refine wpAnyH_ready (rs := [2]) (by kernel_rfl) (by simp) ?_
   refine AllReadyH.cons (o := ⟨none, _, _, _, _, _⟩) rfl (fun K hK => ?_) ?_
   · go_simp
     refine hK.out _ _ ?_ (fun hHeld => ?_)
     · trivial
     clear hK K
     try simp only [Act.put, putA, putZ, putS]
     refine wpAnyH_ready (rs := [3]) (by kernel_rfl) (by simp) ?_
     refine AllReadyH.cons (o := ⟨none, _, _, _, _, _⟩) rfl (fun K hK => ?_) ?_
     · go_simp
       refine hK.out _ _ ?_ (fun hHeld => ?_)
       · trivial
       clear hK K
       try simp only [Act.put, putA, putZ, putS]
       refine wpAnyH_done (by kernel_rfl) ?_ _
       refine ⟨rfl, _, rfl, .tuple #[], by simp [results, Tryz.results23, go_sem], rfl, rfl, ?_⟩
       exact ⟨isext, by go_simp, by go_simp, by go_simp, by go_simp, by go_simp, by go_simp⟩
     exact AllReadyH.nil
   exact AllReadyH.nil
 refine AllReadyH.cons (o := ⟨none, _, _, _, _, _⟩) rfl (fun K hK => ?_) ?_
 · go_simp
   refine hK.out _ _ ?_ (fun hHeld => ?_)
   · trivial
   clear hK K
   try simp only [Act.put, putA, putZ, putS]
   refine wpAnyH_ready (rs := [1]) (by kernel_rfl) (by simp) ?_
   refine AllReadyH.cons (o := ⟨some 11, _, _, _, _, _⟩) rfl (fun K hK => ?_) ?_
   · go_simp
     refine hK.out _ _ ?_ (fun hHeld => ?_)
     · trivial
     clear hK K
     try simp only [Act.put, putA, putZ, putS]
     refine wpAnyH_ready (rs := [3]) (by kernel_rfl) (by simp) ?_
     refine AllReadyH.cons (o := ⟨none, _, _, _, _, _⟩) rfl (fun K hK => ?_) ?_
     · go_simp
       refine hK.out _ _ ?_ (fun hHeld => ?_)
       · trivial
       clear hK K
       try simp only [Act.put, putA, putZ, putS]
       refine wpAnyH_done (by kernel_rfl) ?_ _
       refine ⟨rfl, _, rfl, .tuple #[], by simp [results, Tryz.results23, go_sem], rfl, rfl, ?_⟩
       exact ⟨isext, by go_simp, by go_simp, by go_simp, by go_simp, by go_simp, by go_simp⟩
     exact AllReadyH.nil
   exact AllReadyH.nil
 exact AllReadyH.nil
set_option maxHeartbeats 4000000 in
theorem catch_idle (p q : Nat) (w : World) :
 CallsD Tryz.prog 23 #[.pointer (some ⟨p, 0, none⟩), .pointer (some ⟨q, 0, none⟩)] .returning w fun e u' w' => e = .returned (.tuple #[]) ∧ u' = .returning ∧ ∃ y : Past w, w' = y.x := by
 refine callsD_of_wpS Tryz.func23 rfl fun c₀ cs hu => ?_
 apply wpS_seq
 apply wpS_region
 simp [wpOpsS, go_sem, recoverD, hu, assert_nil, Tryz.ntmps23, Exit.thenS]
 apply wpS_seq
 apply wpS_region
 simp [wpOpsS, go_sem, Exit.thenS]
 refine wpS_cond (t := false) (by simp [Act.eval, Array.replicate]) ?_
 simp only [Bool.false_eq_true, if_false]
 refine wpS_of_wp (wp_skip ?_)
 refine ⟨rfl, .returning, ?_, .tuple #[], by simp [results, Tryz.results23, go_sem], rfl, rfl, done⟩
 cases c₀
 simp_all
end Go.Proofs.YtdhbgelijjlifaaGreatDoor
namespace Go.Proofs.YtdhbgelijjlifaaGreatDoor
open Go.RowKit Go.Shelf
def ParseEnd (w : World) (o : Fault ⊕ Source) (e : Ending) (w' : World) : Prop := match o with
 | .inl f => e = .returned (.tuple #[.agg #[.slice none 0 0, .slice none 0 0, .slice none 0 0], faultC f]) ∧ ∃ y : Past w, w' = y.x
 | .inr S => ∃ (v : Value) (y : Past w), e = .returned (.tuple #[v, faultC ⟨0, 0, 0⟩]) ∧ ReadsS y.x v S ∧ w' = y.x
theorem parse_bad {w w' : World} {o : Fault ⊕ Source} {f : Fault} (ho : o = .inl f) (hx : Ext w w') : ParseEnd w o (.returned (.tuple #[.agg #[.slice none 0 0, .slice none 0 0, .slice none 0 0], faultC f])) w' := by
 subst ho; exact ⟨rfl, ⟨w', hx⟩, rfl⟩
theorem parse_good {w w' : World} {o : Fault ⊕ Source} {S : Source} {v : Value} (ho : o = .inr S) (hx : Ext w w') (hr : ReadsS w' v S) : ParseEnd w o (.returned (.tuple #[v, faultC ⟨0, 0, 0⟩])) w' := by
 subst ho; exact ⟨v, ⟨w', hx⟩, rfl, hr, rfl⟩
theorem readEnd_use {wb : Frm} {w : World} {b : Nat} {line : Int} {o : Fault ⊕ Source} {f : FuncId} {args : Array Value} {R : Ending → World → Prop} (h : Calls Tryz.prog f args w (ReadEnd wb b line o))
 (k1 : ∀ F w', o = .inl F → Kept wb w' → R (gaveUp F) w') (k2 : ∀ S w', o = .inr S → (∃ all ws, Rd wb w' b S line all ws) → R (.returned (.tuple #[])) w') : Calls Tryz.prog f args w R := by
 refine h.mono fun e w' hE => ?_
 cases o with
 | inl F => obtain ⟨rfl, hx⟩ := hE; exact k1 F w' rfl hx
 | inr S => obtain ⟨rfl, hx⟩ := hE; exact k2 S w' rfl hx
set_option maxRecDepth 100000 in
set_option maxHeartbeats 4000000 in
theorem parse_long (s : ByteArray) (w : World) (hs : s.size ≤ maxLen) (h : 100000 < s.size) : Calls Tryz.prog 8 #[.string s] w (ParseEnd w (Src.parseT s)) := by
 have HO : Hid (Src.parseT s = .inl ⟨12, 0, 0⟩) := Lib.hid (by unfold Src.parseT; rw [if_pos h])
 have g : (100000 : Int) < s.size := by omega
 unfold maxLen at hs
 go_enter_defers Tryz.func8, Tryz.ntmps8
 go_wp2
 refine ⟨.tuple #[.agg #[.slice none 0 0, .slice none 0 0, .slice none 0 0], faultC ⟨12, 0, 0⟩], by simp [results, Tryz.results8, go_sem], parse_bad HO.out isext⟩
set_option maxRecDepth 100000 in
set_option maxHeartbeats 8000000 in
theorem parse_short (s : ByteArray) (w : World) (hg : GoodW w) (h : s.size ≤ 100000) : Calls Tryz.prog 8 #[.string s] w (ParseEnd w (Src.parseT s)) := by
 have hmf : ∀ (fn : Fn) (first cap : Array Value) (w : World), (Instr.makeFunc fn first cap).run Tryz.prog w = .ok (.func fn first cap) w := fun _ _ _ _ => rfl
 have HO : Hid (Src.parseT s = Src.parseP (Fie.lines s 0) 0 ⟨[], [], []⟩) := Lib.hid (by unfold Src.parseT; rw [if_neg (by omega)])
 have hsz : ∀ x ∈ Fie.lines s 0, x.size ≤ 1048576 := by
  intro x hx
  rw [Src.lines_eq] at hx
  obtain ⟨l, hl, rfl⟩ := List.mem_map.1 hx
  have := Src.linesL_len _ l hl
  simp at this
  show l.toArray.size ≤ 1048576
  simp; omega
 have hcn : (Fie.lines s 0).length ≤ 100000 := by
  rw [Src.lines_eq, List.length_map]
  have := Src.linesL_count s.data.toList
  simp at this
  omega
 have HL := fun w => Lib.hid (lines_any s w (by omega))
 generalize Fie.lines s 0 = ls at *
 obtain ⟨n, hn⟩ : ∃ n, ls.length = n := ⟨_, rfl⟩
 have g : decide ((100000 : Int) < s.size) = false := decide_eq_false (by omega)
 go_enter_defers Tryz.func8, Tryz.ntmps8
 go_wp2_with fail
 go_at_call 24
 refine (HL _).out.mono ?_
 rintro _ _ ⟨v, y, rfl, hown, rfl⟩
 clear HL
 rw [hn] at hown hcn
 obtain ⟨av, cv, rfl⟩ := owns_shape hown
 obtain ⟨B0, hown0⟩ : ∃ B0, y.x.ownsRow B0 9 1 (.slice av n cv) n (ls.map Value.string) := ⟨_, hown⟩
 obtain ⟨F, hF⟩ : ∃ F : Frm, F = ⟨((w.alloc (.cells #[.slice none 0 0, .slice none 0 0, .slice none 0 0] 26)).alloc (.cells #[.int .i64 0, .int .i64 0, .int .i64 0] 29)), B0, .slice av n cv, n, ls.map Value.string⟩ := ⟨_, rfl⟩
 have hK : Kept F y.x := by rw [hF]; exact ⟨isext, hown0⟩
 have hFw : F.w.heap.size = w.heap.size + 2 := by rw [hF]; simp
 have hextF : Ext w F.w := by rw [hF]; exact isext
 have hp2 : Blk F.w w.heap.size #[.slice none 0 0, .slice none 0 0, .slice none 0 0] 26 := by
  rw [hF]
  exact (isext (w := w.alloc (.cells #[.slice none 0 0, .slice none 0 0, .slice none 0 0] 26))).block w.heap.size (by simp) |>.trans (World.alloc_heap_new w _)
 have hq2 : Blk F.w (w.heap.size + 1) #[.int .i64 0, .int .i64 0, .int .i64 0] 29 := by
  rw [hF]
  have := World.alloc_heap_new (w.alloc (.cells #[.slice none 0 0, .slice none 0 0, .slice none 0 0] 26)) (.cells #[.int .i64 0, .int .i64 0, .int .i64 0] 29)
  rw [World.size_alloc] at this
  exact this
 have hGF : GoodW F.w := hg.ext hextF
 have hFv : F.v = .slice av n cv ∧ F.n = n ∧ F.xs = ls.map Value.string := by rw [hF]; exact ⟨rfl, rfl, rfl⟩
 have hbk : Blk y.x (w.heap.size + 1 + 1) #[.slice none 0 0, .slice none 0 0, .slice none 0 0, .int .i64 0, .string ⟨#[]⟩, .slice none 0 0, .bool false] 49 := by
  refine Blk.past ?_ y
  have := World.alloc_heap_new ((w.alloc (.cells #[.slice none 0 0, .slice none 0 0, .slice none 0 0] 26)).alloc (.cells #[.int .i64 0, .int .i64 0, .int .i64 0] 29)) (.cells #[.slice none 0 0, .slice none 0 0, .slice none 0 0, .int .i64 0, .string ⟨#[]⟩, .slice none 0 0, .bool false] 49)
  rw [World.size_alloc, World.size_alloc] at this
  exact this
 have hR0 : ∃ all ws, Rd F y.x (w.heap.size + 1 + 1) ⟨[], [], []⟩ 0 all ws := ⟨⟨#[]⟩, [], hK, by omega, _, _, _, _, [], 0, hbk, Tree.empty, World.ownsRow_nil _ _ _ _⟩
 clear hF hbk hown hown0
 have hsz' := Lib.hid hsz
 have hnn := Lib.hid hn
 clear hsz hn
 go_wp2_with fail
 clear hK
 go_loopw [16] (fun iv wr => ∃ (j : Nat) (S : Source), j ≤ n ∧ iv = .int .i64 j ∧ (∃ all ws, Rd F wr (w.heap.size + 1 + 1) S j all ws) ∧ Src.fitsN S ∧ Hid (Src.parseP (ls.drop j) j S = Src.parseP ls 0 ⟨[], [], []⟩)) (fun iv _ => n - (intOf iv).toNat)
 case atStart => exact ⟨0, ⟨[], [], []⟩, by omega, rfl, hR0, ⟨by simp, by simp, by simp, by unfold Src.lastE; simp⟩, Lib.hid rfl⟩
 case round =>
  obtain ⟨j, S, j1, rfl, ⟨all, ws, hR⟩, hfit, HP⟩ := hrel
  by_cases hlt : j < n
  · have hl : j < ls.length := by rw [hnn.out]; exact hlt
    have hP2 : Src.parseP ls 0 ⟨[], [], []⟩ = match Src.readP S ls[j] ((j : Int) + 1) with | .inl f => .inl f | .inr S' => Src.parseP (ls.drop (j + 1)) ((j : Int) + 1) S' := by
     rw [← HP.out, List.drop_eq_getElem_cons hl, Src.parse_cons]
     cases Src.readP S ls[j] ((j : Int) + 1) <;> rfl
    have HP2 := Lib.hid hP2
    have hls := hsz'.out ls[j] (List.getElem_mem hl)
    have hrow := hR.ext.row
    rw [hFv.1, hFv.2.1, hFv.2.2] at hrow
    obtain ⟨g, c, he⟩ := owns_block hrow (by omega)
    injection he with he1 he2 he3
    subst he1
    obtain ⟨-, hgw⟩ := hrow.lt g rfl
    haveI : InW g wr := ⟨hgw⟩
    have hcell : wr.cell? ⟨g, j, none⟩ = some (.string ls[j]) := by
     have hc := @World.ownsRow.cells _ _ _ _ _ _ _ hrow g rfl j (.string ls[j]) (by simp [hl])
     have hadd : (⟨g, 0, none⟩ : Addr).add j = ⟨g, j, none⟩ := by unfold Addr.add; split <;> simp_all
     rwa [hadd] at hc
    have gj : (j : Int) < n := by omega
    clear hP2 hrow HP he2 he3
    generalize ls[j] = X at *
    go_wp2_with fail
    go_at_call 25
    refine readEnd_use (pread_any F wr (w.heap.size + 1 + 1) S j X hGF ⟨all, ws, hR⟩ hfit hls (by omega) (by omega)) (fun f w' hf HX => ?_) (fun S' w' hf hR' => ?_)
    · go_wp2
      refine leaves_cons (f := 23) (args := #[.pointer (some ⟨w.heap.size, 0, none⟩), .pointer (some ⟨w.heap.size + 1, 0, none⟩)]) (by simp) (by simp [go_sem]) ?_
      refine (catch_fault w _ w.heap.size (w.heap.size + 1) _ [] _ _ _ _ _ _ (hp2.ext HX.ext) (hq2.ext HX.ext) (by omega) (hextF.trans HX.ext) (by omega) (by omega)).mono ?_
      rintro e u' w'' ⟨rfl, rfl, hC0, e0, e1, e2, e3, e4, e5⟩
      simp only [settle]
      exact ⟨.tuple #[.agg #[.slice none 0 0, .slice none 0 0, .slice none 0 0], faultC f], by simp [results, Tryz.results8, go_sem, e0, e1, e2, e3, e4, e5], parse_bad (by rw [HO.out, HP2.out, hf]) hC0⟩
    · have HP3 : Hid (Src.parseP (ls.drop (j + 1)) ((j + 1 : Nat) : Int) S' = Src.parseP ls 0 ⟨[], [], []⟩) := Lib.hid (by rw [HP2.out, hf]; rfl)
      go_wp2
      go_roundw
      case rel => exact ⟨j + 1, S', by omega, by go_num, hR', Src.read_fits hf hfit, HP3⟩
      case measure => simp [intOf]; omega
  · obtain rfl : j = n := by omega
    have hP2 : Src.parseP ls 0 ⟨[], [], []⟩ = if Src.openB S = true then .inl ⟨14, (j : Int) + 1, 0⟩ else .inr S := by
     rw [← HP.out, List.drop_eq_nil_of_le (by rw [hnn.out]; omega)]; rfl
    have HP2 := Lib.hid hP2
    clear hP2 HP
    have hR1 := rd_line hR ((j : Int) + 1)
    obtain ⟨hxb, hge, vr, vz, vl, lv, zp, Bw, hblk, htree, hwords⟩ := hR
    haveI : InW (w.heap.size + 1 + 1) wr := ⟨hblk.lt⟩
    have c0 : wr.cell? ⟨w.heap.size + 1 + 1, 0, none⟩ = some vr := (hblk.cell 0).trans rfl
    have c1 : wr.cell? ⟨w.heap.size + 1 + 1, 1, none⟩ = some vz := (hblk.cell 1).trans rfl
    have c2 : wr.cell? ⟨w.heap.size + 1 + 1, 2, none⟩ = some vl := (hblk.cell 2).trans rfl
    have c3 : wr.cell? ⟨w.heap.size + 1 + 1, 3, none⟩ = some (.int .i64 j) := (hblk.cell 3).trans rfl
    have f3 : wr.frozen? ⟨w.heap.size + 1 + 1, 3, none⟩ = false := hblk.frozen 3
    have c6 : wr.cell? ⟨w.heap.size + 1 + 1, 6, none⟩ = some (.bool (Src.openB S)) := (hblk.cell 6).trans rfl
    cases hop : Src.openB S
    rotate_left
    · rw [hop] at c6
      go_wp2_with fail
      go_at_call 26
      refine (pwrong_any (w.heap.size + 1 + 1) ((j : Int) + 1) 14 0 _ (by rw [World.size_setCell]; exact hblk.lt) (by go_simp)).bad ?_
      intro y2
      have HX := hR1.ext.trans y2.hb
      go_wp2
      refine leaves_cons (f := 23) (args := #[.pointer (some ⟨w.heap.size, 0, none⟩), .pointer (some ⟨w.heap.size + 1, 0, none⟩)]) (by simp) (by simp [go_sem]) ?_
      refine (catch_fault w _ w.heap.size (w.heap.size + 1) _ [] _ _ _ _ _ _ (hp2.ext HX.ext) (hq2.ext HX.ext) (by omega) (hextF.trans HX.ext) (by omega) (by omega)).mono ?_
      rintro e u' w'' ⟨rfl, rfl, hC0, e0, e1, e2, e3, e4, e5⟩
      simp only [settle]
      exact ⟨.tuple #[.agg #[.slice none 0 0, .slice none 0 0, .slice none 0 0], faultC ⟨14, (j : Int) + 1, 0⟩], by simp [results, Tryz.results8, go_sem, e0, e1, e2, e3, e4, e5], parse_bad (by rw [HO.out, HP2.out, if_pos hop]) hC0⟩
    · rw [hop] at c6
      have HO2 : Hid (Src.parseT s = .inr S) := Lib.hid (by rw [HO.out, HP2.out, if_neg (by rw [hop]; simp)])
      have hpw := hp2.ext hxb.ext
      have hqw := hq2.ext hxb.ext
      haveI : InW w.heap.size wr := ⟨hpw.lt⟩
      haveI : InW (w.heap.size + 1) wr := ⟨hqw.lt⟩
      have p0 : wr.cell? ⟨w.heap.size, 0, none⟩ = some (.slice none 0 0) := (hpw.cell 0).trans rfl
      have p1 : wr.cell? ⟨w.heap.size, 1, none⟩ = some (.slice none 0 0) := (hpw.cell 1).trans rfl
      have p2 : wr.cell? ⟨w.heap.size, 2, none⟩ = some (.slice none 0 0) := (hpw.cell 2).trans rfl
      have q0 : wr.cell? ⟨w.heap.size + 1, 0, none⟩ = some (.int .i64 0) := (hqw.cell 0).trans rfl
      have q1 : wr.cell? ⟨w.heap.size + 1, 1, none⟩ = some (.int .i64 0) := (hqw.cell 1).trans rfl
      have q2 : wr.cell? ⟨w.heap.size + 1, 2, none⟩ = some (.int .i64 0) := (hqw.cell 2).trans rfl
      have pf0 := hpw.frozen 0
      have pf1 := hpw.frozen 1
      have pf2 := hpw.frozen 2
      have qf0 := hqw.frozen 0
      have qf1 := hqw.frozen 1
      have qf2 := hqw.frozen 2
      have hxw : Ext w wr := hextF.trans hxb.ext
      clear HP2 hR1 hpw hqw hblk hwords HO
      obtain ⟨ar, cr, rfl⟩ := owns_shape htree.rules
      obtain ⟨az, cz, rfl⟩ := owns_shape htree.zones
      obtain ⟨al, cl, rfl⟩ := owns_shape htree.links
      go_wp2
      refine leaves_cons (f := 23) (args := #[.pointer (some ⟨w.heap.size, 0, none⟩), .pointer (some ⟨w.heap.size + 1, 0, none⟩)]) (by simp) (by simp [go_sem]) ?_
      refine (catch_idle w.heap.size (w.heap.size + 1) _).mono ?_
      rintro e u' w'' ⟨rfl, rfl, y9, rfl⟩
      simp only [settle]
      haveI : ExtC w wr := ⟨hxw⟩
      refine ⟨.tuple #[.agg #[.slice ar S.rules.length cr, .slice az S.zones.length cz, .slice al S.links.length cl], faultC ⟨0, 0, 0⟩], by simp [results, Tryz.results8, go_sem, p0, p1, p2, q0, q1, q2], parse_good HO2.out isext ?_⟩
      refine (Tree.past (base := w.heap.size + 1 + 1 + 1) (zp := zp) ?_ y9.hb).reads
      iterate 7 refine Tree.store ?_ (by simp only []; omega)
      exact htree
theorem sparse_any (s : ByteArray) (hs : s.size ≤ maxLen) (w : World) (hg : GoodW w) : Calls Tryz.prog 8 #[.string s] w (ParseEnd w (Src.parseT s)) := by
 by_cases h : s.size ≤ 100000
 · exact parse_short s w hg h
 · exact parse_long s w hs (by omega)
end Go.Proofs.YtdhbgelijjlifaaGreatDoor
