/- Walks of sources: what every right program answers; the law of names. -/
import Derived.Test.YtdhbgelijjlifaaDoorSrcRdW
import Derived.Test.YtdhbgelijjlifaaDoorSrcWalkJ
set_option linter.unusedVariables false
set_option linter.unusedSimpArgs false
namespace Go.Proofs.YtdhbgelijjlifaaDoor
open Go.RowKit Go.Shelf

abbrev liveT : ByteArray := ⟨#[82, 117, 108, 101, 32, 85, 83, 32, 49, 57, 54, 55, 32, 50, 48, 48, 54, 32, 45, 32, 79, 99, 116, 32, 108, 97, 115, 116, 83, 117, 110, 32, 50, 58, 48, 48, 32, 48, 32, 83, 10, 90, 111, 110, 101, 32, 65, 32, 49, 58, 48, 48, 32, 85, 83, 32, 67, 37, 115, 84, 10]⟩
abbrev liveU : ByteArray := ⟨#[90, 111, 110, 101, 32, 65, 32, 50, 52, 32, 45, 32, 88]⟩
theorem liveT_good : (match Src.parseT liveT with | .inl _ => none | .inr S => some (S.rules.length, S.zones.map fun z => z.es.map fun e => e.rs.data.toList)) = some (1, [[[85, 83]]]) := by decide +kernel
theorem liveU_bad : (match Src.parseT liveU with | .inl f => some (f.e, f.line, f.at0) | .inr _ => none) = some (11, 1, 7) := by decide +kernel
theorem live_parts {P : Fault ⊕ Source} (h : (match P with | .inl _ => none | .inr S => some (S.rules.length, S.zones.map fun z => z.es.map fun e => e.rs.data.toList)) = some (1, [[[85, 83]]])) : ∃ S z e, P = .inr S ∧ S.rules.length = 1 ∧ S.zones = [z] ∧ z.es = [e] ∧ e.rs = ⟨#[85, 83]⟩ := by
  cases P with
  | inl f => cases h
  | inr S =>
    simp only [Option.some.injEq, Prod.mk.injEq] at h
    obtain ⟨h1, h2⟩ := h
    obtain ⟨rs, zs, ls⟩ := S
    simp only at h1 h2
    obtain ⟨z, rfl, h3⟩ := List.map_eq_singleton_iff.1 h2
    obtain ⟨nm, es⟩ := z
    obtain ⟨e, he, h4⟩ := List.map_eq_singleton_iff.1 h3
    have he : es = [e] := he
    subst he
    refine ⟨_, _, e, rfl, h1, rfl, rfl, ?_⟩
    have : e.rs.data = #[85, 83] := by rw [← Array.toArray_toList (xs := e.rs.data), h4]
    cases hb : e.rs
    rw [hb] at this
    simp at this
    rw [this]
theorem liveT_parts : ∃ S z e, Src.parseT liveT = .inr S ∧ S.rules.length = 1 ∧ S.zones = [z] ∧ z.es = [e] ∧ e.rs = ⟨#[85, 83]⟩ := live_parts liveT_good
theorem live_fault {P : Fault ⊕ Source} (h : (match P with | .inl f => some (f.e, f.line, f.at0) | .inr _ => none) = some (11, 1, 7)) : P = .inl ⟨11, 1, 7⟩ := by
  cases P with
  | inr S => cases h
  | inl f =>
    simp only [Option.some.injEq, Prod.mk.injEq] at h
    obtain ⟨e, l, a⟩ := f
    simp only at h
    obtain ⟨rfl, rfl, rfl⟩ := h
    rfl
theorem liveU_part : Src.parseT liveU = .inl ⟨11, 1, 7⟩ := live_fault liveU_bad
/-- What the first text reads as. -/
def LiveEnd (w : World) (e : Ending) (w' : World) : Prop := ∃ (ar : Option Addr) (cr bz oz cz be oe ce : Nat) (al : Option Addr) (nl cl : Nat) (y : Past w), e = .returned (.tuple #[.agg #[.slice ar 1 cr, .slice (some ⟨bz, oz, none⟩) 1 cz, .slice al nl cl], faultC ⟨0, 0, 0⟩]) ∧
  bz < y.x.heap.size ∧ be < y.x.heap.size ∧ y.x.cell? ⟨bz, oz + 1, none⟩ = some (.slice (some ⟨be, oe, none⟩) 1 ce) ∧ y.x.cell? ⟨be, oe + 3, none⟩ = some (.string ⟨#[85, 83]⟩) ∧ w' = y.x
theorem live_first (w : World) (hg : GoodW w) : Calls Tryd.prog 5 #[.string liveT] w (LiveEnd w) := by
  refine (sparse_any liveT (by decide) w hg).mono fun e w' h => ?_
  obtain ⟨S, z, x, hp, h1, h2, h3, h4⟩ := liveT_parts
  rw [hp] at h
  obtain ⟨v, y, rfl, ⟨vr, vz, vl, rfl, hr, ⟨zp, hzp, hz2, hz3⟩, hl⟩, rfl⟩ := h
  rw [h1] at hr
  rw [h2] at hz2 hzp
  obtain ⟨ar, cr, rfl⟩ := shape_of hr
  obtain ⟨al, cl, rfl⟩ := shape_of hl
  match zp, hzp with
  | [p], hzp =>
    have hpz : p.1 = z := by simpa using hzp
    have he := hz3 p (by simp)
    rw [hpz, h3] at he
    rcases hz2 with ⟨_, _, _, h9, _⟩ | ⟨bz, oz, cz, rfl, _, _, m1, hc⟩
    · cases h9
    rcases he with ⟨_, _, _, h9, _⟩ | ⟨be, oe, ce, e9, _, _, m2, hc2⟩
    · cases h9
    obtain ⟨c0, c1⟩ := zone_at hc 0 (by simp)
    obtain ⟨d0, d1, d2, d3, -⟩ := era_at hc2 0 (by simp)
    simp only [Nat.zero_mul, Nat.add_zero, List.getElem_cons_zero] at c1 d3
    rw [e9] at c1
    rw [h4] at d3
    exact ⟨ar, cr, bz, oz, cz, be, oe, ce, al, _, cl, y, rfl, m1, m2, c1, d3, rfl⟩
theorem live_second (w : World) (hg : GoodW w) : Rets Tryd.prog 5 #[.string liveU] w (.tuple #[.agg #[.slice none 0 0, .slice none 0 0, .slice none 0 0], .agg #[.int .i64 11, .int .i64 1, .int .i64 7]]) := by
  refine (sparse_any liveU (by decide) w hg).mono fun e w' h => ?_
  rw [liveU_part] at h
  obtain ⟨rfl, y, rfl⟩ := h
  exact ⟨rfl, y, rfl⟩
theorem live_set : Src.setB [97] = true := by decide +kernel
theorem live_place : Src.placeB [65, 47, 66] = true := by decide +kernel
set_option maxRecDepth 100000 in
set_option maxHeartbeats 8000000 in
theorem slive_any (w : World) (hg : GoodW w) : Rets Tryd.prog 4 #[] w (.bool true) := by
  have H1 := fun w h => Lib.hid (live_first w h)
  have H2 := fun w h => Lib.hid (live_second w h)
  have H3 := fun w => Lib.hid (sset_any ⟨#[97]⟩ (by decide) w)
  have H4 := fun w h => Lib.hid (place_any ⟨#[65, 47, 66]⟩ (by decide) w h)
  rw [show (⟨#[97]⟩ : ByteArray).data.toList = [97] from rfl, live_set] at H3
  rw [show (⟨#[65, 47, 66]⟩ : ByteArray).data.toList = [65, 47, 66] from rfl, live_place] at H4
  unfold Rets
  go_enter Tryd.func4, Tryd.ntmps4
  go_wp2_with fail
  go_at_call 5
  refine (H1 _ (hg.ext isext)).out.mono ?_
  rintro _ _ ⟨ar, cr, bz, oz, cz, be, oe, ce, al, nl, cl, y1, rfl, m1, m2, c1, c2, rfl⟩
  haveI : InW bz y1.x := ⟨m1⟩
  haveI : InW be y1.x := ⟨m2⟩
  clear m1 m2
  go_wp2_with fail
  go_at_call 5
  refine Rets.use (H2 _ (hg.ext isext)).out ?_
  intro y2
  go_wp2_with (first | (go_at_call 7; refine Rets.use (H3 _).out ?_; intro _) | (go_at_call 8; refine Rets.use (H4 _ (hg.max.ext isext)).out ?_; intro _))
  go_ret
  exact ⟨rfl, done⟩
end Go.Proofs.YtdhbgelijjlifaaDoor
