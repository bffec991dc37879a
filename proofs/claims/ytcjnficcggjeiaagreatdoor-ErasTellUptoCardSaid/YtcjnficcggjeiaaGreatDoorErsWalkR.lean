/- Walks of eras: the document's answer at a place; the laws of ends, phases, places. -/
import Derived.Test.YtcjnficcggjeiaaGreatDoorErsWalkP
import Derived.Test.YtcjnficcggjeiaaGreatDoorErsWalkQ
import Derived.Test.YtcjnficcggjeiaaGreatDoorSrcWalkK
set_option linter.unusedVariables false
set_option linter.unusedSimpArgs false
namespace Go.Proofs.YtcjnficcggjeiaaGreatDoor
open Go.RowKit Go.Shelf

set_option maxRecDepth 100000 in
set_option maxHeartbeats 16000000 in
theorem dAt_any (s : Source) (hS : Src.srcB s = true) (z : Zone) (hEB : Src.erasB z.es = true) (hNE : z.es ≠ []) (t : Int) (a1 : -9223372036854775808 ≤ t) (a2 : t ≤ 9223372036854775807) (zv v : Value) (w : World) (hr : ReadsS w v s) (hre : Reads w zv z.es.length (eraRow z.es)) (x0 : Era) (hx0 : Ers.atD s.rules t z.es = some x0) :
    Rets Tryz.prog 12 #[v, .agg #[.string z.nm, zv], .int .i64 t] w (phV (Ers.phaseD s.rules x0 t)) := by
  have HEn := fun (x : Era) hx ht w hr => Lib.hid (dEnd_any s hS x hx ht v w hr)
  have HPh := fun (x : Era) hx w hr => Lib.hid (dPhase_any s hS x hx t a1 a2 v w hr)
  have HDr := fun j h => Lib.hid (Ers.at_drop s.rules t z.es j h)
  have HEB := Lib.hid hEB
  have Hx0 := Lib.hid hx0
  have hr0 := Lib.hid hr
  obtain ⟨vr, vz, vl, rfl, hr1, hr2, hr3⟩ := hr
  obtain ⟨zp, hzp, hz2', -⟩ := hr2
  obtain ⟨ar, cr, rfl⟩ := shape_of hr1
  obtain ⟨az, cz, rfl⟩ := shape_of hz2'
  obtain ⟨al, cl, rfl⟩ := shape_of hr3
  obtain ⟨ae, ce, rfl⟩ := shape_of hre
  clear hr1 hr3 hz2' hzp
  generalize s.rules.length = nr at *
  generalize s.zones.length = nz at *
  generalize s.links.length = nl at *
  generalize s.rules = rl at *
  obtain ⟨nm, es⟩ := z
  simp only at hre HDr HEB Hx0 hNE ⊢
  obtain ⟨ne, hne⟩ : ∃ n, es.length = n := ⟨_, rfl⟩
  rw [hne] at hre
  have b4 := len_of hre
  have hne0 : ne ≠ 0 := by rw [← hne]; exact fun e => hNE (List.eq_nil_of_length_eq_zero e)
  rcases hre with ⟨_, _, e9, h9', _⟩ | ⟨be, oe, c9, e9, k3, k4, m2, hc⟩
  · exact absurd h9' hne0
  injection e9 with e9 e8 e7
  subst e9
  clear e8 e7
  haveI : InW be w := ⟨m2⟩
  have HC := Lib.hid hc
  have Hne := Lib.hid hne
  clear hc hNE hEB hne0 hx0
  rw [hne]
  clear hne
  have HP0 : Hid (∀ x : Era, Ers.atD rl t es = some x → Ers.phaseD rl x0 t = Ers.phaseD rl x t) := fun x hx => by rw [Hx0.out] at hx; injection hx with hx; rw [hx]
  generalize Ers.phaseD rl x0 t = P0 at *
  unfold Rets
  go_enter Tryz.func12, Tryz.ntmps12
  go_wp2_with fail
  go_loopw [7] (fun iv wr => ∃ j : Nat, j ≤ ne ∧ iv = .int .i64 j ∧ Hid (Ers.atD rl t es = Ers.atD rl t (es.drop j)) ∧ Ext (((w.alloc (.cells #[.slice ar nr cr, .slice az nz cz, .slice al nl cl] 26)).alloc (.cells #[.string nm, .slice (some ⟨be, oe, none⟩) ne ce] 33)).alloc (.cells #[.int .i64 0, .int .i64 0, .string ⟨#[]⟩] 41)) wr) (fun iv _ => ne - (intOf iv).toNat)
  case atStart => exact ⟨0, by omega, rfl, rfl, isext⟩
  case round =>
    obtain ⟨j, j1, rfl, Ha, hx⟩ := hrel
    obtain ⟨y2, rfl⟩ := fin hx
    clear hx
    by_cases hlt : j < ne
    · have hj : j < es.length := by rw [Hne.out]; exact hlt
      obtain ⟨d0, d1, d2, d3, d4, d5, d6, d7, d8, d9, d10, d11, d12⟩ := era_at HC.out j hj
      have hdr := HDr j hj
      have hEx := Ers.era_all HEB.out es[j] (List.getElem_mem hj)
      have HEj := HEn es[j] hEx
      have HPj := HPh es[j] hEx
      have hph := HP0.out es[j]
      have hpx := Lib.hid hph
      generalize Ers.phaseD rl es[j] t = ph at *
      generalize Ers.endD rl es[j] = N at *
      generalize hxj : es[j] = x at *
      clear hxj hEx hph
      obtain ⟨off, kd, sa, rs, fm, til, y, m, kk, wd, d, t', r⟩ := x
      simp only at d0 d1 d2 d3 d4 d5 d6 d7 d8 d9 d10 d11 d12 hdr HEj
      obtain ⟨po, ps, pa⟩ := ph
      cases til
      · have hat : Ers.atD rl t es = some ⟨off, kd, sa, rs, fm, false, y, m, kk, wd, d, t', r⟩ := by rw [Ha.out, hdr.out, if_pos (.inl rfl)]
        have E2 : Hid (P0 = ⟨po, ps, pa⟩) := hpx.out hat
        clear hat hdr Ha HEj hpx
        go_wp2_with (go_at_call 14; refine Rets.use (HPj _ (hr0.out.ext isext)).out ?_; intro _)
        refine bodyPost_ret (v := phV ⟨po, ps, pa⟩) ?_ rfl ⟨by rw [E2.out], done⟩
        simp [results, Tryz.f12, go_sem]
      · have HEj := HEj rfl
        by_cases hlN : t < N
        · have hat : Ers.atD rl t es = some ⟨off, kd, sa, rs, fm, true, y, m, kk, wd, d, t', r⟩ := by
            rw [Ha.out, hdr.out]; exact if_pos (.inr hlN)
          have E2 : Hid (P0 = ⟨po, ps, pa⟩) := hpx.out hat
          clear hat hdr Ha hpx
          go_wp2_with (first | (go_at_call 10; refine Rets.use (HEj _ (hr0.out.ext isext)).out ?_; intro _) | (go_at_call 14; refine Rets.use (HPj _ (hr0.out.ext isext)).out ?_; intro _))
          refine bodyPost_ret (v := phV ⟨po, ps, pa⟩) ?_ rfl ⟨by rw [E2.out], done⟩
          simp [results, Tryz.f12, go_sem]
        · have hat : Hid (Ers.atD rl t es = Ers.atD rl t (es.drop (j + 1))) := by
            show _ = _
            rw [Ha.out, hdr.out]; exact if_neg (by simp; omega)
          have g0 : decide (t < N) = false := decide_eq_false hlN
          clear hdr Ha hpx hlN
          go_wp2_with (go_at_call 10; refine Rets.use (HEj _ (hr0.out.ext isext)).out ?_; intro _)
          go_roundw
          case rel => exact ⟨j + 1, by omega, by go_num, hat, isext⟩
          case measure => simp [intOf]; omega
    · exfalso
      have hx := Hx0.out
      rw [Ha.out, List.drop_eq_nil_of_le (by rw [Hne.out]; omega)] at hx
      cases hx
end Go.Proofs.YtcjnficcggjeiaaGreatDoor
