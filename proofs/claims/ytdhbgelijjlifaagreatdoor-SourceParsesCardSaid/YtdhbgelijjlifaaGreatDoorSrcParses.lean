/- Walks of sources: the law of texts. -/
import Derived.Test.YtdhbgelijjlifaaGreatDoorSrcDocP
import Derived.Test.YtdhbgelijjlifaaGreatDoorSrcSame
set_option linter.unusedVariables false
set_option linter.unusedSimpArgs false
namespace Go.Proofs.YtdhbgelijjlifaaGreatDoor
open Go.RowKit Go.Shelf
theorem reads_none (w : World) : ReadsS w (.agg #[.slice none 0 0, .slice none 0 0, .slice none 0 0]) ⟨[], [], []⟩ :=
 ⟨_, _, _, rfl, Reads.nil w, ⟨[], rfl, Reads.nil w, fun p h => by cases h⟩, Reads.nil w⟩
set_option maxRecDepth 100000 in
set_option maxHeartbeats 16000000 in
theorem parses_any (s : ByteArray) (hs : s.size ≤ maxLen) (w : World) (hg : GoodW w) : Rets Tryz.prog 3 #[.string s] w (.bool true) := by
 have HA := fun w h => Lib.hid (slive_any w h)
 have HP := fun w h => Lib.hid (sparse_any s hs w h)
 have HD := fun w => Lib.hid (dparse_any s hs w)
 have HS := fun S va vb w ha hb => Lib.hid (dsame_any S va vb w ha hb)
 generalize Src.parseT s = P at *
 unfold Rets
 cases P with
 | inl f =>
   obtain ⟨e, l1, a1⟩ := f
   go_enter Tryz.func3, Tryz.ntmps3
   go_wp2_with fail
   go_at_call 8
   refine (HP _ (hg.ext isext)).out.mono ?_
   rintro _ _ ⟨rfl, y5, rfl⟩
   go_wp2_with fail
   go_at_call 9
   refine (HD _).out.mono ?_
   rintro _ _ ⟨rfl, y6, rfl⟩
   go_wp2_with (first | (go_at_call 10; refine Rets.use (HA _ (hg.ext isext)).out ?_; intro _) | (go_at_call 11; refine Rets.use (HS ⟨[], [], []⟩ _ _ _ (reads_none _) (reads_none _)).out ?_; intro _))
   go_ret
   exact ⟨ret_bool (by simp), done⟩
 | inr S =>
   go_enter Tryz.func3, Tryz.ntmps3
   go_wp2_with fail
   go_at_call 8
   refine (HP _ (hg.ext isext)).out.mono ?_
   rintro _ _ ⟨v5, y5, rfl, hr5, rfl⟩
   have R5 := Lib.hid hr5
   obtain ⟨p1, p2, p3, rfl, x1, ⟨zp1, -, x2, -⟩, x3⟩ := hr5
   obtain ⟨i1, f1, rfl⟩ := shape_of x1
   obtain ⟨i2, f2, rfl⟩ := shape_of x2
   obtain ⟨i3, f3, rfl⟩ := shape_of x3
   clear x1 x2 x3
   go_wp2_with fail
   go_at_call 9
   refine (HD _).out.mono ?_
   rintro _ _ ⟨v6, y6, rfl, hr6, rfl⟩
   have R6 := Lib.hid hr6
   obtain ⟨p4, p5, p6, rfl, x4, ⟨zp2, -, x5, -⟩, x6⟩ := hr6
   obtain ⟨i4, f4, rfl⟩ := shape_of x4
   obtain ⟨i5, f5, rfl⟩ := shape_of x5
   obtain ⟨i6, f6, rfl⟩ := shape_of x6
   clear x4 x5 x6
   go_wp2_with (first | (go_at_call 10; refine Rets.use (HA _ (hg.ext isext)).out ?_; intro _) | (go_at_call 11; refine Rets.use (HS S _ _ _ (R5.out.ext isext) (R6.out.ext isext)).out ?_; intro _))
   go_ret
   exact ⟨rfl, done⟩
theorem parseslaw_row2 (s : ByteArray) (hs : s.size ≤ maxLen) (w : World) (hg : GoodW w) : Rets Tryz.prog 3 #[.string s] w (.bool true) := parses_any s hs w hg
end Go.Proofs.YtdhbgelijjlifaaGreatDoor
