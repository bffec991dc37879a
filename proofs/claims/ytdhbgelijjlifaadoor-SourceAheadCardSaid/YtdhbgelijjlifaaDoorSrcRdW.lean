/- Walks of sources: what is given up is caught. -/
import Derived.Test.YtdhbgelijjlifaaDoorSrcRdE
import Derived.Defers
import Derived.Recover
import Derived.Test.YtdhbgelijjlifaaDoorSrcRdV
import Derived.Test.YtdhbgelijjlifaaDoorFieWalkK
import Derived.Test.YtdhbgelijjlifaaDoorSrcLawB
set_option linter.unusedVariables false
set_option linter.unusedSimpArgs false
namespace Go.Proofs.YtdhbgelijjlifaaDoor
open Go.RowKit Go.Shelf

theorem assert_fault (x : TypeId) (v : Value) (w : World) : (Instr.typeAssert (.iface 30 v) x 30 true).run Tryd.prog w = .ok (.tuple #[v, .bool true]) w := by kernel_rfl
theorem assert_nil (x : TypeId) (w : World) : (Instr.typeAssert .nilIface x 30 true).run Tryd.prog w = .ok (.tuple #[.agg #[.int .i64 0, .int .i64 0, .int .i64 0], .bool false]) w := by kernel_rfl
theorem wp_at_act {P : Program} {c : Code} {Q : Exit → Act → World → Prop} {a a' : Act} {w : World} (h : a = a') (k : c.wp P Q a' w) : c.wp P Q a w := by subst h; exact k
/-- What a caught panic leaves in the results' variables. -/
def Caught (W0 : World) (p q : Nat) (f : Fault) (w' : World) : Prop :=
  Ext W0 w' ∧ w'.cell? ⟨p, 0, none⟩ = some (.slice none 0 0) ∧ w'.cell? ⟨p, 1, none⟩ = some (.slice none 0 0) ∧ w'.cell? ⟨p, 2, none⟩ = some (.slice none 0 0)
    ∧ w'.cell? ⟨q, 0, none⟩ = some (.int .i64 f.e) ∧ w'.cell? ⟨q, 1, none⟩ = some (.int .i64 f.line) ∧ w'.cell? ⟨q, 2, none⟩ = some (.int .i64 f.at0)
set_option maxRecDepth 100000 in
set_option maxHeartbeats 4000000 in
theorem catch_fault (W0 w : World) (p q : Nat) (f : Fault) (older : List PanicEntry) (a0 a1 a2 b0 b1 b2 : Value) (hp : Blk w p #[a0, a1, a2] 27) (hq : Blk w q #[b0, b1, b2] 30) (hpq : ¬ p = q) (hx : Ext W0 w) (h1 : W0.heap.size ≤ p) (h2 : W0.heap.size ≤ q) :
    CallsD Tryd.prog 9 #[.pointer (some ⟨p, 0, none⟩), .pointer (some ⟨q, 0, none⟩)] (.panicking ({ v := .iface 30 (faultC f), recovered := false } :: older)) w fun e u' w' =>
      e = .returned (.tuple #[]) ∧ u' = .panicking ({ v := .iface 30 (faultC f), recovered := true } :: older) ∧ Caught W0 p q f w' := by
  have hpq' : ¬ q = p := fun h => hpq h.symm
  haveI : InW p w := ⟨hp.lt⟩
  haveI : InW q w := ⟨hq.lt⟩
  haveI : ExtC W0 w := ⟨hx⟩
  haveI : GeW W0 p := ⟨h1⟩
  haveI : GeW W0 q := ⟨h2⟩
  have cp0 : w.cell? ⟨p, 0, none⟩ = some a0 := (hp.cell 0).trans rfl
  have cp1 : w.cell? ⟨p, 1, none⟩ = some a1 := (hp.cell 1).trans rfl
  have cp2 : w.cell? ⟨p, 2, none⟩ = some a2 := (hp.cell 2).trans rfl
  have cq0 : w.cell? ⟨q, 0, none⟩ = some b0 := (hq.cell 0).trans rfl
  have cq1 : w.cell? ⟨q, 1, none⟩ = some b1 := (hq.cell 1).trans rfl
  have cq2 : w.cell? ⟨q, 2, none⟩ = some b2 := (hq.cell 2).trans rfl
  have fp0 := hp.frozen 0
  have fp1 := hp.frozen 1
  have fp2 := hp.frozen 2
  have fq0 := hq.frozen 0
  have fq1 := hq.frozen 1
  have fq2 := hq.frozen 2
  clear hp hq
  refine callsD_of_wpS Tryd.func9 rfl fun c₀ cs hu => ?_
  apply wpS_seq
  apply wpS_region
  simp [wpOpsS, go_sem, recoverD, hu, assert_fault, Tryd.ntmps9, Exit.thenS]
  apply wpS_seq
  apply wpS_region
  simp [wpOpsS, go_sem, Exit.thenS]
  refine wpS_cond (t := true) (by simp [Act.eval, Array.replicate]) ?_
  simp only [if_true]
  refine wpS_of_wp ?_
  refine wp_at_act (a' := { tmps := #[.pointer (some ⟨p, 0, none⟩), .pointer (some ⟨q, 0, none⟩), .pointer (some ⟨w.heap.size, 0, none⟩), .bool true, .tuple #[faultC f, .bool true], .iface 30 (faultC f), .tuple #[faultC f, .bool true], faultC f, .bool true, .bool true, undef, undef], defers := [] }) (by kernel_rfl) ?_
  refine wp_region_held_drew (S := fun _ => True) (by kernel_rfl) trivial (fun hHeld => ?_)
  refine wpAnyH_take (i := 0) (oi := ⟨some 10, _, _, _, _, _⟩) (v := ?_) rfl (by kernel_rfl) (by kernel_rfl) (by kernel_rfl) (fun _ _ _ h => h) (Or.inl ⟨by rfl, ?_⟩) (by assumption) ?_
  rotate_left
  · intro w _; go_simp; first | done | (with_reducible rfl)
  try simp only [Act.put, List.setIfInBounds_toArray, List.set_cons_zero, List.set_cons_succ]
  refine wpAnyH_ready (rs := [1, 2]) (by kernel_rfl) (by simp) ?_
  refine AllReadyH.cons (o := ⟨some 11, _, _, _, _, _⟩) rfl (fun K hK => ?_) ?_
  · go_simp
    refine hK.out _ _ ?_ (fun hHeld => ?_)
    · trivial
    clear hK K
    try simp only [Act.put, List.setIfInBounds_toArray, List.set_cons_zero, List.set_cons_succ]
    refine wpAnyH_ready (rs := [2]) (by kernel_rfl) (by simp) ?_
    refine AllReadyH.cons (o := ⟨none, _, _, _, _, _⟩) rfl (fun K hK => ?_) ?_
    · go_simp
      refine hK.out _ _ ?_ (fun hHeld => ?_)
      · trivial
      clear hK K
      try simp only [Act.put, List.setIfInBounds_toArray, List.set_cons_zero, List.set_cons_succ]
      refine wpAnyH_ready (rs := [3]) (by kernel_rfl) (by simp) ?_
      refine AllReadyH.cons (o := ⟨none, _, _, _, _, _⟩) rfl (fun K hK => ?_) ?_
      · go_simp
        refine hK.out _ _ ?_ (fun hHeld => ?_)
        · trivial
        clear hK K
        try simp only [Act.put, List.setIfInBounds_toArray, List.set_cons_zero, List.set_cons_succ]
        refine wpAnyH_done (by kernel_rfl) ?_ _
        refine ⟨rfl, _, rfl, .tuple #[], by simp [results, Tryd.results9, go_sem], rfl, rfl, ?_⟩
        exact ⟨isext, by go_simp, by go_simp, by go_simp, by go_simp, by go_simp, by go_simp⟩
      exact AllReadyH.nil
    exact AllReadyH.nil
  refine AllReadyH.cons (o := ⟨none, _, _, _, _, _⟩) rfl (fun K hK => ?_) ?_
  · go_simp
    refine hK.out _ _ ?_ (fun hHeld => ?_)
    · trivial
    clear hK K
    try simp only [Act.put, List.setIfInBounds_toArray, List.set_cons_zero, List.set_cons_succ]
    refine wpAnyH_ready (rs := [1]) (by kernel_rfl) (by simp) ?_
    refine AllReadyH.cons (o := ⟨some 11, _, _, _, _, _⟩) rfl (fun K hK => ?_) ?_
    · go_simp
      refine hK.out _ _ ?_ (fun hHeld => ?_)
      · trivial
      clear hK K
      try simp only [Act.put, List.setIfInBounds_toArray, List.set_cons_zero, List.set_cons_succ]
      refine wpAnyH_ready (rs := [3]) (by kernel_rfl) (by simp) ?_
      refine AllReadyH.cons (o := ⟨none, _, _, _, _, _⟩) rfl (fun K hK => ?_) ?_
      · go_simp
        refine hK.out _ _ ?_ (fun hHeld => ?_)
        · trivial
        clear hK K
        try simp only [Act.put, List.setIfInBounds_toArray, List.set_cons_zero, List.set_cons_succ]
        refine wpAnyH_done (by kernel_rfl) ?_ _
        refine ⟨rfl, _, rfl, .tuple #[], by simp [results, Tryd.results9, go_sem], rfl, rfl, ?_⟩
        exact ⟨isext, by go_simp, by go_simp, by go_simp, by go_simp, by go_simp, by go_simp⟩
      exact AllReadyH.nil
    exact AllReadyH.nil
  exact AllReadyH.nil
set_option maxHeartbeats 4000000 in
theorem catch_idle (p q : Nat) (w : World) :
    CallsD Tryd.prog 9 #[.pointer (some ⟨p, 0, none⟩), .pointer (some ⟨q, 0, none⟩)] .returning w fun e u' w' => e = .returned (.tuple #[]) ∧ u' = .returning ∧ ∃ y : Past w, w' = y.x := by
  refine callsD_of_wpS Tryd.func9 rfl fun c₀ cs hu => ?_
  apply wpS_seq
  apply wpS_region
  simp [wpOpsS, go_sem, recoverD, hu, assert_nil, Tryd.ntmps9, Exit.thenS]
  apply wpS_seq
  apply wpS_region
  simp [wpOpsS, go_sem, Exit.thenS]
  refine wpS_cond (t := false) (by simp [Act.eval, Array.replicate]) ?_
  simp only [Bool.false_eq_true, if_false]
  refine wpS_of_wp (wp_skip ?_)
  refine ⟨rfl, .returning, ?_, .tuple #[], by simp [results, Tryd.results9, go_sem], rfl, rfl, done⟩
  cases c₀
  simp_all
end Go.Proofs.YtdhbgelijjlifaaDoor
set_option linter.unusedVariables false
set_option linter.unusedSimpArgs false
namespace Go.Proofs.YtdhbgelijjlifaaDoor
open Go.RowKit Go.Shelf

/-- How a source that is read ends. -/
def ParseEnd (w : World) (o : Fault ⊕ Source) (e : Ending) (w' : World) : Prop := match o with
  | .inl f => e = .returned (.tuple #[.agg #[.slice none 0 0, .slice none 0 0, .slice none 0 0], faultC f]) ∧ ∃ y : Past w, w' = y.x
  | .inr S => ∃ (v : Value) (y : Past w), e = .returned (.tuple #[v, faultC ⟨0, 0, 0⟩]) ∧ ReadsS y.x v S ∧ w' = y.x
theorem parse_bad {w w' : World} {o : Fault ⊕ Source} {f : Fault} (ho : o = .inl f) (hx : Ext w w') : ParseEnd w o (.returned (.tuple #[.agg #[.slice none 0 0, .slice none 0 0, .slice none 0 0], faultC f])) w' := by
  subst ho; exact ⟨rfl, ⟨w', hx⟩, rfl⟩
theorem parse_good {w w' : World} {o : Fault ⊕ Source} {S : Source} {v : Value} (ho : o = .inr S) (hx : Ext w w') (hr : ReadsS w' v S) : ParseEnd w o (.returned (.tuple #[v, faultC ⟨0, 0, 0⟩])) w' := by
  subst ho; exact ⟨v, ⟨w', hx⟩, rfl, hr, rfl⟩
theorem readEnd_use {wb : Frm} {w : World} {b : Nat} {line : Int} {o : Fault ⊕ Source} {f : FuncId} {args : Array Value} {R : Ending → World → Prop} (h : Calls Tryd.prog f args w (ReadEnd wb b line o))
    (k1 : ∀ F w', o = .inl F → Kept wb w' → R (gaveUp F) w') (k2 : ∀ S w', o = .inr S → (∃ all ws, Rd wb w' b S line all ws) → R (.returned (.tuple #[])) w') : Calls Tryd.prog f args w R := by
  refine h.mono fun e w' hE => ?_
  cases o with
  | inl F => obtain ⟨rfl, hx⟩ := hE; exact k1 F w' rfl hx
  | inr S => obtain ⟨rfl, hx⟩ := hE; exact k2 S w' rfl hx
set_option maxRecDepth 100000 in
set_option maxHeartbeats 4000000 in
theorem parse_long (s : ByteArray) (w : World) (hs : s.size ≤ maxLen) (h : 100000 < s.size) : Calls Tryd.prog 5 #[.string s] w (ParseEnd w (Src.parseT s)) := by
  have HO : Hid (Src.parseT s = .inl ⟨12, 0, 0⟩) := Lib.hid (by unfold Src.parseT; rw [if_pos h])
  have g : (100000 : Int) < s.size := by omega
  unfold maxLen at hs
  go_enter_defers Tryd.func5, Tryd.ntmps5
  go_wp2
  refine ⟨.tuple #[.agg #[.slice none 0 0, .slice none 0 0, .slice none 0 0], faultC ⟨12, 0, 0⟩], by simp [results, Tryd.results5, go_sem], parse_bad HO.out isext⟩
set_option maxRecDepth 100000 in
set_option maxHeartbeats 8000000 in
theorem parse_short (s : ByteArray) (w : World) (hg : GoodW w) (h : s.size ≤ 100000) : Calls Tryd.prog 5 #[.string s] w (ParseEnd w (Src.parseT s)) := by
  have hmf : ∀ (fn : Fn) (first cap : Array Value) (w : World), (Instr.makeFunc fn first cap).run Tryd.prog w = .ok (.func fn first cap) w := fun _ _ _ _ => rfl
  have HO : Hid (Src.parseT s = Src.parseP (Fie.lines s 0) 0 ⟨[], [], []⟩) := Lib.hid (by unfold Src.parseT; rw [if_neg (by omega)])
  have hsz : ∀ x ∈ Fie.lines s 0, x.size ≤ 1048576 := by
    intro x hx
    rw [Src.lines_eq] at hx
    obtain ⟨l, hl, rfl⟩ := List.mem_map.1 hx
    have := Src.linesL_len _ l hl
    simp at this
    show l.toArray.size ≤ 1048576
    simp; omega
  have hcn : (Fie.lines s 0).length ≤ 100000 := by
    rw [Src.lines_eq, List.length_map]
    have := Src.linesL_count s.data.toList
    simp at this
    omega
  have HL := fun w => Lib.hid (lines_any s w (by omega))
  generalize Fie.lines s 0 = ls at *
  obtain ⟨n, hn⟩ : ∃ n, ls.length = n := ⟨_, rfl⟩
  have g : decide ((100000 : Int) < s.size) = false := decide_eq_false (by omega)
  go_enter_defers Tryd.func5, Tryd.ntmps5
  go_wp2_with fail
  go_at_call 10
  refine (HL _).out.mono ?_
  rintro _ _ ⟨v, y, rfl, hown, rfl⟩
  clear HL
  rw [hn] at hown hcn
  obtain ⟨av, cv, rfl⟩ := owns_shape hown
  obtain ⟨B0, hown0⟩ : ∃ B0, y.x.ownsRow B0 9 1 (.slice av n cv) n (ls.map Value.string) := ⟨_, hown⟩
  obtain ⟨F, hF⟩ : ∃ F : Frm, F = ⟨((w.alloc (.cells #[.slice none 0 0, .slice none 0 0, .slice none 0 0] 27)).alloc (.cells #[.int .i64 0, .int .i64 0, .int .i64 0] 30)), B0, .slice av n cv, n, ls.map Value.string⟩ := ⟨_, rfl⟩
  have hK : Kept F y.x := by rw [hF]; exact ⟨isext, hown0⟩
  have hFw : F.w.heap.size = w.heap.size + 2 := by rw [hF]; simp
  have hextF : Ext w F.w := by rw [hF]; exact isext
  have hp2 : Blk F.w w.heap.size #[.slice none 0 0, .slice none 0 0, .slice none 0 0] 27 := by
    rw [hF]
    exact (isext (w := w.alloc (.cells #[.slice none 0 0, .slice none 0 0, .slice none 0 0] 27))).block w.heap.size (by simp) |>.trans (World.alloc_heap_new w _)
  have hq2 : Blk F.w (w.heap.size + 1) #[.int .i64 0, .int .i64 0, .int .i64 0] 30 := by
    rw [hF]
    have := World.alloc_heap_new (w.alloc (.cells #[.slice none 0 0, .slice none 0 0, .slice none 0 0] 27)) (.cells #[.int .i64 0, .int .i64 0, .int .i64 0] 30)
    rw [World.size_alloc] at this
    exact this
  have hGF : GoodW F.w := hg.ext hextF
  have hFv : F.v = .slice av n cv ∧ F.n = n ∧ F.xs = ls.map Value.string := by rw [hF]; exact ⟨rfl, rfl, rfl⟩
  have hbk : Blk y.x (w.heap.size + 1 + 1) #[.slice none 0 0, .slice none 0 0, .slice none 0 0, .int .i64 0, .string ⟨#[]⟩, .slice none 0 0, .bool false] 47 := by
    refine Blk.past ?_ y
    have := World.alloc_heap_new ((w.alloc (.cells #[.slice none 0 0, .slice none 0 0, .slice none 0 0] 27)).alloc (.cells #[.int .i64 0, .int .i64 0, .int .i64 0] 30)) (.cells #[.slice none 0 0, .slice none 0 0, .slice none 0 0, .int .i64 0, .string ⟨#[]⟩, .slice none 0 0, .bool false] 47)
    rw [World.size_alloc, World.size_alloc] at this
    exact this
  have hR0 : ∃ all ws, Rd F y.x (w.heap.size + 1 + 1) ⟨[], [], []⟩ 0 all ws := ⟨⟨#[]⟩, [], hK, by omega, _, _, _, _, [], 0, hbk, Tree.empty, World.ownsRow_nil _ _ _ _⟩
  clear hF hbk hown hown0
  have hsz' := Lib.hid hsz
  have hnn := Lib.hid hn
  clear hsz hn
  go_wp2_with fail
  clear hK
  go_loopw [16] (fun iv wr => ∃ (j : Nat) (S : Source), j ≤ n ∧ iv = .int .i64 j ∧ (∃ all ws, Rd F wr (w.heap.size + 1 + 1) S j all ws) ∧ Src.fitsN S ∧ Hid (Src.parseP (ls.drop j) j S = Src.parseP ls 0 ⟨[], [], []⟩)) (fun iv _ => n - (intOf iv).toNat)
  case atStart => exact ⟨0, ⟨[], [], []⟩, by omega, rfl, hR0, ⟨by simp, by simp, by simp, by unfold Src.lastE; simp⟩, Lib.hid rfl⟩
  case round =>
    obtain ⟨j, S, j1, rfl, ⟨all, ws, hR⟩, hfit, HP⟩ := hrel
    by_cases hlt : j < n
    · have hl : j < ls.length := by rw [hnn.out]; exact hlt
      have hP2 : Src.parseP ls 0 ⟨[], [], []⟩ = match Src.readP S ls[j] ((j : Int) + 1) with | .inl f => .inl f | .inr S' => Src.parseP (ls.drop (j + 1)) ((j : Int) + 1) S' := by
        rw [← HP.out, List.drop_eq_getElem_cons hl, Src.parse_cons]
        cases Src.readP S ls[j] ((j : Int) + 1) <;> rfl
      have HP2 := Lib.hid hP2
      have hls := hsz'.out ls[j] (List.getElem_mem hl)
      have hrow := hR.ext.row
      rw [hFv.1, hFv.2.1, hFv.2.2] at hrow
      obtain ⟨g, c, he⟩ := owns_block hrow (by omega)
      injection he with he1 he2 he3
      subst he1
      obtain ⟨-, hgw⟩ := hrow.lt g rfl
      haveI : InW g wr := ⟨hgw⟩
      have hcell : wr.cell? ⟨g, j, none⟩ = some (.string ls[j]) := by
        have hc := @World.ownsRow.cells _ _ _ _ _ _ _ hrow g rfl j (.string ls[j]) (by simp [hl])
        have hadd : (⟨g, 0, none⟩ : Addr).add j = ⟨g, j, none⟩ := by unfold Addr.add; split <;> simp_all
        rwa [hadd] at hc
      have gj : (j : Int) < n := by omega
      clear hP2 hrow HP he2 he3
      generalize ls[j] = X at *
      go_wp2_with fail
      go_at_call 11
      refine readEnd_use (pread_any F wr (w.heap.size + 1 + 1) S j X hGF ⟨all, ws, hR⟩ hfit hls (by omega) (by omega)) (fun f w' hf HX => ?_) (fun S' w' hf hR' => ?_)
      · go_wp2
        refine leaves_cons (f := 9) (args := #[.pointer (some ⟨w.heap.size, 0, none⟩), .pointer (some ⟨w.heap.size + 1, 0, none⟩)]) (by simp) (by simp [go_sem]) ?_
        refine (catch_fault w _ w.heap.size (w.heap.size + 1) _ [] _ _ _ _ _ _ (hp2.ext HX.ext) (hq2.ext HX.ext) (by omega) (hextF.trans HX.ext) (by omega) (by omega)).mono ?_
        rintro e u' w'' ⟨rfl, rfl, hC0, e0, e1, e2, e3, e4, e5⟩
        simp only [settle]
        exact ⟨.tuple #[.agg #[.slice none 0 0, .slice none 0 0, .slice none 0 0], faultC f], by simp [results, Tryd.results5, go_sem, e0, e1, e2, e3, e4, e5], parse_bad (by rw [HO.out, HP2.out, hf]) hC0⟩
      · have HP3 : Hid (Src.parseP (ls.drop (j + 1)) ((j + 1 : Nat) : Int) S' = Src.parseP ls 0 ⟨[], [], []⟩) := Lib.hid (by rw [HP2.out, hf]; rfl)
        go_wp2
        go_roundw
        case rel => exact ⟨j + 1, S', by omega, by go_num, hR', Src.read_fits hf hfit, HP3⟩
        case measure => simp [intOf]; omega
    · obtain rfl : j = n := by omega
      have hP2 : Src.parseP ls 0 ⟨[], [], []⟩ = if Src.openB S = true then .inl ⟨14, (j : Int) + 1, 0⟩ else .inr S := by
        rw [← HP.out, List.drop_eq_nil_of_le (by rw [hnn.out]; omega)]; rfl
      have HP2 := Lib.hid hP2
      clear hP2 HP
      have hR1 := rd_line hR ((j : Int) + 1)
      obtain ⟨hxb, hge, vr, vz, vl, lv, zp, Bw, hblk, htree, hwords⟩ := hR
      haveI : InW (w.heap.size + 1 + 1) wr := ⟨hblk.lt⟩
      have c0 : wr.cell? ⟨w.heap.size + 1 + 1, 0, none⟩ = some vr := (hblk.cell 0).trans rfl
      have c1 : wr.cell? ⟨w.heap.size + 1 + 1, 1, none⟩ = some vz := (hblk.cell 1).trans rfl
      have c2 : wr.cell? ⟨w.heap.size + 1 + 1, 2, none⟩ = some vl := (hblk.cell 2).trans rfl
      have c3 : wr.cell? ⟨w.heap.size + 1 + 1, 3, none⟩ = some (.int .i64 j) := (hblk.cell 3).trans rfl
      have f3 : wr.frozen? ⟨w.heap.size + 1 + 1, 3, none⟩ = false := hblk.frozen 3
      have c6 : wr.cell? ⟨w.heap.size + 1 + 1, 6, none⟩ = some (.bool (Src.openB S)) := (hblk.cell 6).trans rfl
      cases hop : Src.openB S
      rotate_left
      · rw [hop] at c6
        go_wp2_with fail
        go_at_call 12
        refine (pwrong_any (w.heap.size + 1 + 1) ((j : Int) + 1) 14 0 _ (by rw [World.size_setCell]; exact hblk.lt) (by go_simp)).bad ?_
        intro y2
        have HX := hR1.ext.trans y2.hb
        go_wp2
        refine leaves_cons (f := 9) (args := #[.pointer (some ⟨w.heap.size, 0, none⟩), .pointer (some ⟨w.heap.size + 1, 0, none⟩)]) (by simp) (by simp [go_sem]) ?_
        refine (catch_fault w _ w.heap.size (w.heap.size + 1) _ [] _ _ _ _ _ _ (hp2.ext HX.ext) (hq2.ext HX.ext) (by omega) (hextF.trans HX.ext) (by omega) (by omega)).mono ?_
        rintro e u' w'' ⟨rfl, rfl, hC0, e0, e1, e2, e3, e4, e5⟩
        simp only [settle]
        exact ⟨.tuple #[.agg #[.slice none 0 0, .slice none 0 0, .slice none 0 0], faultC ⟨14, (j : Int) + 1, 0⟩], by simp [results, Tryd.results5, go_sem, e0, e1, e2, e3, e4, e5], parse_bad (by rw [HO.out, HP2.out, if_pos hop]) hC0⟩
      · rw [hop] at c6
        have HO2 : Hid (Src.parseT s = .inr S) := Lib.hid (by rw [HO.out, HP2.out, if_neg (by rw [hop]; simp)])
        have hpw := hp2.ext hxb.ext
        have hqw := hq2.ext hxb.ext
        haveI : InW w.heap.size wr := ⟨hpw.lt⟩
        haveI : InW (w.heap.size + 1) wr := ⟨hqw.lt⟩
        have p0 : wr.cell? ⟨w.heap.size, 0, none⟩ = some (.slice none 0 0) := (hpw.cell 0).trans rfl
        have p1 : wr.cell? ⟨w.heap.size, 1, none⟩ = some (.slice none 0 0) := (hpw.cell 1).trans rfl
        have p2 : wr.cell? ⟨w.heap.size, 2, none⟩ = some (.slice none 0 0) := (hpw.cell 2).trans rfl
        have q0 : wr.cell? ⟨w.heap.size + 1, 0, none⟩ = some (.int .i64 0) := (hqw.cell 0).trans rfl
        have q1 : wr.cell? ⟨w.heap.size + 1, 1, none⟩ = some (.int .i64 0) := (hqw.cell 1).trans rfl
        have q2 : wr.cell? ⟨w.heap.size + 1, 2, none⟩ = some (.int .i64 0) := (hqw.cell 2).trans rfl
        have pf0 := hpw.frozen 0
        have pf1 := hpw.frozen 1
        have pf2 := hpw.frozen 2
        have qf0 := hqw.frozen 0
        have qf1 := hqw.frozen 1
        have qf2 := hqw.frozen 2
        have hxw : Ext w wr := hextF.trans hxb.ext
        clear HP2 hR1 hpw hqw hblk hwords HO
        obtain ⟨ar, cr, rfl⟩ := owns_shape htree.rules
        obtain ⟨az, cz, rfl⟩ := owns_shape htree.zones
        obtain ⟨al, cl, rfl⟩ := owns_shape htree.links
        go_wp2
        refine leaves_cons (f := 9) (args := #[.pointer (some ⟨w.heap.size, 0, none⟩), .pointer (some ⟨w.heap.size + 1, 0, none⟩)]) (by simp) (by simp [go_sem]) ?_
        refine (catch_idle w.heap.size (w.heap.size + 1) _).mono ?_
        rintro e u' w'' ⟨rfl, rfl, y9, rfl⟩
        simp only [settle]
        haveI : ExtC w wr := ⟨hxw⟩
        refine ⟨.tuple #[.agg #[.slice ar S.rules.length cr, .slice az S.zones.length cz, .slice al S.links.length cl], faultC ⟨0, 0, 0⟩], by simp [results, Tryd.results5, go_sem, p0, p1, p2, q0, q1, q2], parse_good HO2.out isext ?_⟩
        refine (Tree.past (base := w.heap.size + 1 + 1 + 1) (zp := zp) ?_ y9.hb).reads
        iterate 7 refine Tree.store ?_ (by simp only []; omega)
        exact htree
/-- A text read as a source: what the program answers. -/
theorem sparse_any (s : ByteArray) (hs : s.size ≤ maxLen) (w : World) (hg : GoodW w) : Calls Tryd.prog 5 #[.string s] w (ParseEnd w (Src.parseT s)) := by
  by_cases h : s.size ≤ 100000
  · exact parse_short s w hg h
  · exact parse_long s w hs (by omega)
end Go.Proofs.YtdhbgelijjlifaaDoor
