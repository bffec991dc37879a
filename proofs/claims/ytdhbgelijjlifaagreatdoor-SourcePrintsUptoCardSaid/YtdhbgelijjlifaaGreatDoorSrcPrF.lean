/- Walks of sources. -/
import Derived.Test.YtdhbgelijjlifaaGreatDoorSrcSupA
import Derived.Test.YtdhbgelijjlifaaGreatDoorSrcSupJ
import Derived.Test.YtdhbgelijjlifaaGreatDoorSrcPrD
import Derived.Test.YtdhbgelijjlifaaGreatDoorSrcWalkJ
import Derived.Test.YtdhbgelijjlifaaGreatDoorSrcWalkK
import Derived.Test.YtdhbgelijjlifaaGreatDoorSrcSame
import Derived.Deep.RegionWith
import Derived.Test.YtdhbgelijjlifaaGreatDoorSrcDoor
import Derived.Lib.LaidTab
set_option linter.unusedVariables false
set_option linter.unusedSimpArgs false
namespace Go.Proofs.YtdhbgelijjlifaaGreatDoor
open Go.RowKit Go.Shelf
def SaysB (w : World) (e : Ending) (w' : World) : Prop := ∃ (b : Bool) (y : Past w), e = .returned (.bool b) ∧ w' = y.x
theorem says_done {w w' : World} {b : Bool} [h : ExtC w w'] : SaysB w (.returned (.bool b)) w' := ⟨b, ⟨w', h.ext⟩, rfl, rfl⟩
set_option maxRecDepth 100000 in
set_option maxHeartbeats 8000000 in
theorem great_says (S : Source) (v : Value) (w : World) (hr : ReadsS w v S) : Calls Tryz.prog 18 #[v] w (SaysB w) := by
 obtain ⟨rl, zl, ll⟩ := S
 obtain ⟨vr, vz, vl, rfl, hr1, hr2, hr3⟩ := hr
 simp only at hr1 hr2 hr3
 obtain ⟨nr, hnr⟩ : ∃ n, rl.length = n := ⟨_, rfl⟩
 obtain ⟨nz, hnz⟩ : ∃ n, zl.length = n := ⟨_, rfl⟩
 obtain ⟨nl, hnl⟩ : ∃ n, ll.length = n := ⟨_, rfl⟩
 obtain ⟨zp, hzp, hz2, hz3⟩ := hr2
 rw [hnr] at hr1
 rw [hnz] at hz2
 rw [hnl] at hr3
 obtain ⟨ar, cr, er⟩ := shape_of hr1
 obtain ⟨az, cz, ez⟩ := shape_of hz2
 obtain ⟨al, cl, el⟩ := shape_of hr3
 subst er ez el
 have b2 := len_of hz2
 have Hz2 := Lib.hid hz2
 have Hz3 := Lib.hid hz3
 have Hnz := Lib.hid hnz
 have Hzp := Lib.hid hzp
 clear hr1 hz2 hz3 hr3 hnr hnz hnl hzp
 have hcs : (300 : Int) < nr ∨ (decide ((300 : Int) < nr) = false ∧ (100 : Int) < nz) ∨ (decide ((300 : Int) < nr) = false ∧ decide ((100 : Int) < nz) = false ∧ (200 : Int) < nl) ∨ (decide ((300 : Int) < nr) = false ∧ decide ((100 : Int) < nz) = false ∧ decide ((200 : Int) < nl) = false) := by
  by_cases h1 : (300 : Int) < nr
  · exact .inl h1
  by_cases h2 : (100 : Int) < nz
  · exact .inr (.inl ⟨decide_eq_false h1, h2⟩)
  by_cases h3 : (200 : Int) < nl
  · exact .inr (.inr (.inl ⟨decide_eq_false h1, decide_eq_false h2, h3⟩))
  · exact .inr (.inr (.inr ⟨decide_eq_false h1, decide_eq_false h2, decide_eq_false h3⟩))
 rcases hcs with h1 | ⟨h1, h2⟩ | ⟨h1, h2, h3⟩ | ⟨h1, h2, h3⟩
 case inr.inr.inr =>
  go_enter Tryz.func18, Tryz.ntmps18
  go_wp2_with fail
  go_loopw [3, 4] (fun sv iv wr => ∃ i n : Nat, i ≤ nz ∧ n ≤ i * 60 ∧ sv = .int .i64 n ∧ iv = .int .i64 i ∧ Ext (w.alloc (.cells #[.slice ar nr cr, .slice az nz cz, .slice al nl cl] 26)) wr) (fun _ iv _ => nz - (intOf iv).toNat)
  case atStart => exact ⟨0, 0, by omega, by omega, rfl, rfl, isext⟩
  case round =>
   obtain ⟨i, n, j1, j2, rfl, rfl, hx⟩ := hrel
   obtain ⟨y1, rfl⟩ := fin hx
   clear hx
   have hz9 : nz ≤ 100 := by have := of_decide_eq_false h2; omega
   by_cases hlt : i < nz
   · have hj : i < zl.length := by rw [Hnz.out]; exact hlt
     have hjp : i < zp.length := by have := congrArg List.length Hzp.out; rw [List.length_map] at this; omega
     rcases Hz2.out with ⟨_, _, e9, h9, _⟩ | ⟨b, o, c9, e9, k1, k2, m1, hc⟩
     · exact absurd h9 (by omega)
     injection e9 with e9 e8 e7
     subst e9
     clear e8 e7
     haveI : InW b w := ⟨m1⟩
     obtain ⟨c0, c1⟩ := zone_at hc i hjp
     clear hc
     have hre := Hz3.out zp[i] (List.getElem_mem hjp)
     generalize zp[i].2 = V at *
     obtain ⟨ne, hne⟩ : ∃ n, zp[i].1.es.length = n := ⟨_, rfl⟩
     rw [hne] at hre
     obtain ⟨ae, ce, rfl⟩ := shape_of hre
     have b4 := len_of hre
     clear hre hne
     by_cases h6 : (60 : Int) < ne
     · go_wp2
       go_ret
       exact says_done
     · have h6' : decide ((60 : Int) < ne) = false := decide_eq_false h6
       go_wp2
       go_roundw
       case rel => exact ⟨i + 1, n + ne, by omega, by omega, by go_num, by go_num, isext⟩
       case measure => simp [intOf]; omega
   · go_wp2
     all_goals (go_ret; exact says_done)
 all_goals
  go_enter Tryz.func18, Tryz.ntmps18
  go_wp2
  go_ret
  exact says_done
set_option maxRecDepth 100000 in
set_option maxHeartbeats 16000000 in
theorem prints_any (S : Source) (v : Value) (hf : fits S) (w : World) (hg : GoodW w) (hT : TabW w) (hr : ReadsS w v S) : Rets Tryz.prog 6 #[v] w (.bool true) := by
 have HG := fun w' (hx : Ext w w') => Lib.hid (great_says S v w' (hr.ext hx))
 have HA := fun w h => Lib.hid (slive_any w h)
 have HR1 := fun w' (hx : Ext w w') => Lib.hid (sright_any S hf v w' (hg.max.ext hx) (hr.ext hx))
 have HR2 := fun w' (hx : Ext w w') => Lib.hid (dright_any S hf v w' (hr.ext hx))
 have HP1 := fun w' (hx : Ext w w') => Lib.hid (sprint_core S v w' (hT.ext hx) (hr.ext hx) (fun w'' hx2 => (HR1 w'' (hx.trans hx2)).out))
 have HP2 := fun w' (hx : Ext w w') => Lib.hid (dprint_core S v w' (hr.ext hx) (fun w'' hx2 => (HR2 w'' (hx.trans hx2)).out))
 generalize (Src.printP S).1 = T at *
 generalize (Src.printP S).2 = E at *
 generalize Src.srcB S = B at *
 obtain ⟨vr, vz, vl, rfl, hr1, hr2, hr3⟩ := hr
 clear hr1 hr2 hr3 hf
 unfold Rets
 go_enter Tryz.func6, Tryz.ntmps6
 go_wp2_with fail
 go_at_call 18
 refine (HG _ isext).out.mono ?_
 rintro _ _ ⟨b, y1, rfl, rfl⟩
 cases b
 · go_wp2_with (first | (go_at_call 19; refine Rets.use (HP1 _ isext).out ?_; intro y2) | (go_at_call 20; refine Rets.use (HP2 _ isext).out ?_; intro y3))
   refine wp_region_past (by kernel_rfl) (by kernel_rfl) ?_
   repeat (go_big_quiet_step ((first | (go_at_call 10; exact Rets.quiet (HA _ (hg.ext isext)).out) | (go_at_call 21; exact Rets.quiet (HR1 _ isext).out) | (go_at_call 22; exact Rets.quiet (HR2 _ isext).out))))
   refine wpQuiet_nil ?_
   intro y4
   go_wp2
   go_ret
   exact ⟨ret_bool (by simp), done⟩
 · go_wp2_with (go_at_call 10; refine Rets.use (HA _ (hg.ext isext)).out ?_; intro _)
   go_ret
   exact ⟨rfl, done⟩
theorem printslaw_row (S : Source) (v : Value) (w : World) (hg : GoodW w) (hT : TabW w) (hr : ReadsS w v S) (hf : fits S) : Rets Tryz.prog 6 #[v] w (.bool true) := prints_any S v hf w hg hT hr
end Go.Proofs.YtdhbgelijjlifaaGreatDoor

set_option linter.unusedVariables false
set_option linter.unusedSimpArgs false
namespace Go.Proofs.YtdhbgelijjlifaaGreatDoor
open Go.ChangeShapes Go.WideShapes Go.ChangeAt Go.RowKit Go.Joins
structure GoodT (w : World) : Prop where
 good : GoodW w
 tab : TabW w
theorem tabw_of {W : World} {d : DataW Unit} {r : List (String × DataW Unit)} (hL : laidMet Tryz.prog (("internal/strconv.uint64pow10", d) :: r) W) (hd : d = Lib.tabData .u64 Lib.pow10Tab) : TabW W := by
 subst hd
 exact Lib.tabIs_of_head (g := 3) (t := 189) (e := 137) (n := 20) (by kernel_rfl) (by kernel_rfl) Tryz.underlying189 Tryz.underlying137 (by kernel_rfl) (by kernel_rfl) hL
theorem printslaw_row2 (S : Source) (v : Value) (w : World) (hr : ReadsS w v S) (hf : fits S) (hg : GoodT w) : Rets Tryz.prog 6 #[v] w (.bool true) := printslaw_row S v w hg.good hg.tab hr hf
end Go.Proofs.YtdhbgelijjlifaaGreatDoor

