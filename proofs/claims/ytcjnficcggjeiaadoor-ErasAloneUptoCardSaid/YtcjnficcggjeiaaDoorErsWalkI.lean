/- Walks of eras: what clocks are ahead at a time; how they stand. -/
import Derived.Test.YtcjnficcggjeiaaDoorErsWalkH
set_option linter.unusedVariables false
set_option linter.unusedSimpArgs false
namespace Go.Proofs.YtcjnficcggjeiaaDoor
open Go.RowKit Go.Shelf

theorem force_set {l : List Rule} (hA : Rul.allB l = true) (x : Era) (o1 : -86400 < x.off) (o2 : x.off < 86400) (t : Int) (a1 : -9223372036854775808 ≤ t) (a2 : t ≤ 9223372036854775807) (n : Nat) (hn : (Ers.setOf l x.rs).length = n) (v : Value) (w : World) (hr : Reads w v n (ruleRow (Ers.setOf l x.rs))) :
    Rets Tryd.prog 89 #[v, .int .i64 x.off, .int .i64 t] w (.tuple #[.int .i64 (Ers.forceT l x t).s, .string (Ers.forceT l x t).l]) := by
  have h := force_all (Ers.setOf l x.rs) n hn x.off t a1 a2 v w hr
  have e : forceAll (Ers.setOf l x.rs) x.off t = Ers.forceT l x t := by unfold forceAll Ers.forceT; rw [if_pos ⟨Ers.set_all hA _, o1, o2⟩]
  rw [e] at h; exact h
set_option maxRecDepth 100000 in
set_option maxHeartbeats 4000000 in
theorem enone_any (x : Era) (a : Option Addr) (n c : Nat) (t : Int) (w : World) : Rets Tryd.prog 63 #[eraxV x (.slice a n c), .int .i64 t] w (.tuple #[.int .i64 0, .string ⟨#[]⟩]) := by
  obtain ⟨off, kd, sa, rs, fm, til, y, m, k, wd, d, t', r⟩ := x
  unfold Rets
  go_enter Tryd.func63, Tryd.ntmps63
  go_wp2
  go_ret2
  exact ⟨rfl, done⟩
set_option maxRecDepth 100000 in
set_option maxHeartbeats 4000000 in
theorem efixed_any (x : Era) (a : Option Addr) (n c : Nat) (t : Int) (w : World) : Rets Tryd.prog 64 #[eraxV x (.slice a n c), .int .i64 t] w (.tuple #[.int .i64 x.s, .string ⟨#[]⟩]) := by
  obtain ⟨off, kd, sa, rs, fm, til, y, m, k, wd, d, t', r⟩ := x
  unfold Rets
  go_enter Tryd.func64, Tryd.ntmps64
  go_wp2
  go_ret2
  exact ⟨rfl, done⟩
set_option maxRecDepth 100000 in
set_option maxHeartbeats 4000000 in
theorem eruled_any {l : List Rule} (hA : Rul.allB l = true) (x : Era) (o1 : -86400 < x.off) (o2 : x.off < 86400) (hk : x.kd = 2) (sv : Value) (t : Int) (a1 : -9223372036854775808 ≤ t) (a2 : t ≤ 9223372036854775807) (w : World) (hs : HasSet w l x sv) :
    Rets Tryd.prog 65 #[eraxV x sv, .int .i64 t] w (.tuple #[.int .i64 (Ers.forceT l x t).s, .string (Ers.forceT l x t).l]) := by
  obtain ⟨⟨a9, n9, c9, rfl⟩, hs2⟩ := hs
  obtain ⟨n, hn, hr⟩ := hs2 hk
  have HR := fun w hr => Lib.hid (force_set hA x o1 o2 t a1 a2 n hn (.slice a9 n9 c9) w hr)
  generalize Ers.forceT l x t = T at *
  obtain ⟨ta, tr, ts, tl⟩ := T
  have Hr := Lib.hid hr
  clear hs2 hr hk
  obtain ⟨off, kd, sa, rs, fm, til, y, m, k, wd, d, t', r⟩ := x
  simp only at o1 o2
  unfold Rets
  go_enter Tryd.func65, Tryd.ntmps65
  go_wp2_with fail
  go_wp2_with (go_at_call 89; refine Rets.use (HR _ (Hr.out.ext isext)).out ?_; intro _)
  go_ret2
  exact ⟨rfl, done⟩
end Go.Proofs.YtcjnficcggjeiaaDoor
set_option linter.unusedVariables false
set_option linter.unusedSimpArgs false
namespace Go.Proofs.YtcjnficcggjeiaaDoor
open Go.RowKit Go.Shelf

theorem efns_0 (w : World) : Sem.run Tryd.prog (Instr.index 100 (Value.agg #[Value.func (Fn.func 63) #[] #[], Value.func (Fn.func 64) #[] #[], Value.func (Fn.func 65) #[] #[]]) (Value.int IntKind.i64 0)) w = .ok (Value.func (Fn.func 63) #[] #[]) w := by kernel_rfl
theorem efns_1 (w : World) : Sem.run Tryd.prog (Instr.index 100 (Value.agg #[Value.func (Fn.func 63) #[] #[], Value.func (Fn.func 64) #[] #[], Value.func (Fn.func 65) #[] #[]]) (Value.int IntKind.i64 1)) w = .ok (Value.func (Fn.func 64) #[] #[]) w := by kernel_rfl
theorem efns_2 (w : World) : Sem.run Tryd.prog (Instr.index 100 (Value.agg #[Value.func (Fn.func 63) #[] #[], Value.func (Fn.func 64) #[] #[], Value.func (Fn.func 65) #[] #[]]) (Value.int IntKind.i64 2)) w = .ok (Value.func (Fn.func 65) #[] #[]) w := by kernel_rfl
/-- What clocks are ahead, and the letter. -/
def savV (l : List Rule) (x : Era) (t : Int) : Value := .tuple #[.int .i64 (Ers.saveD l x t), .string (Ers.letD l x t)]
set_option maxRecDepth 100000 in
set_option maxHeartbeats 8000000 in
theorem esaving_any {l : List Rule} (hA : Rul.allB l = true) (x : Era) (hx : Src.eraB x = true) (sv : Value) (t : Int) (a1 : -9223372036854775808 ≤ t) (a2 : t ≤ 9223372036854775807) (w : World) (hs : HasSet w l x sv) :
    Rets Tryd.prog 42 #[eraxV x sv, .int .i64 t] w (savV l x t) := by
  obtain ⟨⟨a9, n9, c9, rfl⟩, -⟩ := id hs
  obtain ⟨o1, o2, -, hk, -⟩ := Ers.era_parts hx
  rcases hk with ⟨hk, h0⟩ | ⟨hk, -⟩ | ⟨hk, -⟩
  · have E : savV l x t = .tuple #[.int .i64 0, .string ⟨#[]⟩] := by unfold savV Ers.saveD Ers.letD; rw [if_neg (by omega), if_neg (by omega), h0]
    rw [E]
    have HN := fun w => Lib.hid (enone_any x a9 n9 c9 t w)
    have HI := efns_0
    clear hs E
    obtain ⟨off, kd, sa, rs, fm, til, y, m, k, wd, d, t', r⟩ := x
    simp only at hk h0
    subst hk h0
    unfold Rets
    go_enter Tryd.func42, Tryd.ntmps42
    go_wp2_with fail
    refine wp_region_past (by kernel_rfl) (by kernel_rfl) ?_
    repeat (go_big_quiet_step ((go_at_call 63; exact Rets.quiet (HN _).out)))
    refine wpQuiet_nil ?_
    intro _
    go_wp2
    go_ret2
    exact ⟨rfl, done⟩
  · have E : savV l x t = .tuple #[.int .i64 x.s, .string ⟨#[]⟩] := by unfold savV Ers.saveD Ers.letD; rw [if_neg (by omega), if_neg (by omega)]
    rw [E]
    have HN := fun w => Lib.hid (efixed_any x a9 n9 c9 t w)
    have HI := efns_1
    clear hs E
    obtain ⟨off, kd, sa, rs, fm, til, y, m, k, wd, d, t', r⟩ := x
    simp only at hk
    subst hk
    unfold Rets
    go_enter Tryd.func42, Tryd.ntmps42
    go_wp2_with fail
    refine wp_region_past (by kernel_rfl) (by kernel_rfl) ?_
    repeat (go_big_quiet_step ((go_at_call 64; exact Rets.quiet (HN _).out)))
    refine wpQuiet_nil ?_
    intro _
    go_wp2
    go_ret2
    exact ⟨rfl, done⟩
  · have E : savV l x t = .tuple #[.int .i64 (Ers.forceT l x t).s, .string (Ers.forceT l x t).l] := by unfold savV Ers.saveD Ers.letD; rw [if_pos hk, if_pos hk]
    rw [E]
    have HN := fun w hs => Lib.hid (eruled_any hA x o1 o2 hk (.slice a9 n9 c9) t a1 a2 w hs)
    have HI := efns_2
    have HN2 := fun (y : Past (w.alloc (.cells (eraxCells x (.slice a9 n9 c9)).toArray 58))) => HN y.x (hs.ext (((Ext.refl w).alloc _).past y))
    clear hs E HN
    generalize Ers.forceT l x t = T at *
    obtain ⟨ta, tr, ts, tl⟩ := T
    obtain ⟨off, kd, sa, rs, fm, til, y, m, k, wd, d, t', r⟩ := x
    simp only at hk
    subst hk
    unfold Rets
    go_enter Tryd.func42, Tryd.ntmps42
    go_wp2_with fail
    refine wp_region_past (by kernel_rfl) (by kernel_rfl) ?_
    repeat (go_big_quiet_step ((go_at_call 65; exact Rets.quiet (HN2 _).out)))
    refine wpQuiet_nil ?_
    intro _
    go_wp2
    go_ret2
    exact ⟨rfl, done⟩
abbrev phV (p : Phase) : Value := .agg #[.int .i64 p.off, .int .i64 p.s, .string p.ab]
set_option maxRecDepth 100000 in
set_option maxHeartbeats 8000000 in
theorem ephase_any {l : List Rule} (hA : Rul.allB l = true) (hL : ∀ x ∈ l, Src.letterB x.l.data.toList = true) (x : Era) (hx : Src.eraB x = true) (sv : Value) (t : Int) (a1 : -9223372036854775808 ≤ t) (a2 : t ≤ 9223372036854775807) (w : World) (hM : MaxL w) (hs : HasSet w l x sv) :
    Rets Tryd.prog 25 #[eraxV x sv, .int .i64 t] w (phV (Ers.phaseD l x t)) := by
  obtain ⟨⟨a9, n9, c9, rfl⟩, -⟩ := id hs
  obtain ⟨o1, o2, hfm, -, -⟩ := Ers.era_parts hx
  obtain ⟨s1, s2⟩ := Ers.save_bd hA hx t
  have hll := Ers.let_len hL x t
  have hfl := Ers.fmt_len hfm
  rw [size_of] at hfl
  have HS := fun w hs => Lib.hid (esaving_any hA x hx (.slice a9 n9 c9) t a1 a2 w hs)
  unfold savV at HS
  have HB := fun w h => Lib.hid (abbr_any x.fm (Ers.letD l x t) (x.off + Ers.saveD l x t) (Ers.saveD l x t) (by omega) (by omega) (by omega) (by omega) w h)
  have E : Ers.phaseD l x t = ⟨x.off + Ers.saveD l x t, Ers.saveD l x t, Ers.abbrB x.fm (Ers.letD l x t) (x.off + Ers.saveD l x t) (Ers.saveD l x t)⟩ := rfl
  rw [E]
  have Hs := Lib.hid hs
  clear hs E hfm hx hll hfl
  generalize Ers.abbrB x.fm (Ers.letD l x t) (x.off + Ers.saveD l x t) (Ers.saveD l x t) = AB at *
  generalize Ers.saveD l x t = SV at *
  generalize Ers.letD l x t = LT at *
  obtain ⟨off, kd, sa, rs, fm, til, y, m, k, wd, d, t', r⟩ := x
  simp only at o1 o2 HB HS ⊢
  unfold Rets
  go_enter Tryd.func25, Tryd.ntmps25
  go_wp2_with (first | (go_at_call 42; refine Rets.use (HS _ (Hs.out.ext isext)).out ?_; intro _) | (go_at_call 7; refine Rets.use (HB _ (hM.ext isext)).out ?_; intro _))
  refine bodyPost_ret (v := phV ⟨off + SV, SV, AB⟩) ?_ rfl ⟨rfl, done⟩
  simp [results, Tryd.f25, go_sem]
end Go.Proofs.YtcjnficcggjeiaaDoor
