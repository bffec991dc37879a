/- Walks of eras: alive; the law of abbreviations. -/
import Derived.Test.YtcjnficcggjeiaaDoorErsWalkM
import Derived.Test.YtcjnficcggjeiaaDoorErsWalkE
set_option linter.unusedVariables false
set_option linter.unusedSimpArgs false
namespace Go.Proofs.YtcjnficcggjeiaaDoor
open Go.RowKit Go.Shelf

theorem bytes_of {s : ByteArray} {l : List UInt8} (h : s.data.toList = l) : s = ⟨l.toArray⟩ := by
  subst h; cases s; simp
theorem at_lit {s : Source} {zone t a b : Int} {l : List UInt8} (h : (atO s zone t).map (fun p => (p.off, p.s, p.ab.data.toList)) = some (a, b, l)) : phO (atO s zone t) = .tuple #[.agg #[.int .i64 a, .int .i64 b, .string ⟨l.toArray⟩], .bool true] := by
  cases hp : atO s zone t with
  | none => rw [hp] at h; cases h
  | some p =>
    rw [hp] at h
    simp only [Option.map_some, Option.some.injEq, Prod.mk.injEq] at h
    obtain ⟨h1, h2, h3⟩ := h
    show Value.tuple #[phV p, .bool true] = _
    rw [← h1, ← h2, ← bytes_of h3]
theorem end_lit {s : Source} {zone e a : Int} (h : (pickE s zone e).map (fun x => (x.til, Ers.endD s.rules x)) = some (true, a)) : endO s.rules (pickE s zone e) = .tuple #[.int .i64 a, .bool true] := by
  cases hp : pickE s zone e with
  | none => rw [hp] at h; cases h
  | some x =>
    rw [hp] at h
    simp only [Option.map_some, Option.some.injEq, Prod.mk.injEq] at h
    obtain ⟨h1, h2⟩ := h
    show endV s.rules x = _
    unfold endV
    rw [if_pos h1, h2]
theorem two_3 : Ers.twoL 3 = [48, 51] := rfl
theorem two_30 : Ers.twoL 30 = [51, 48] := by
  unfold Ers.twoL
  rw [if_neg (by omega), Mom.dec_big (by omega), Mom.dec_small (by omega)]; rfl
theorem told_lit : Ers.toldL (-12600) = [45, 48, 51, 51, 48] := by
  have e1 : (-12600 : Int).natAbs / 3600 = 3 := rfl
  have e2 : (-12600 : Int).natAbs / 60 % 60 = 30 := rfl
  have e3 : (-12600 : Int).natAbs % 60 = 0 := rfl
  have e4 : ¬ (-12600 : Int).natAbs % 3600 = 0 := by decide
  unfold Ers.toldL
  rw [if_pos (by omega), e1, e2, if_neg e4, if_pos e3, two_3, two_30]; rfl
theorem abbr_lit : Ers.abbrB ⟨#[37, 122]⟩ ⟨#[]⟩ (-12600) 0 = ⟨#[45, 48, 51, 51, 48]⟩ := by
  have h1 : Ers.at2 [37, 122] 115 < 0 := by decide
  have h2 : Ers.at2 [37, 122] 122 = ((0 : Nat) : Int) := by decide
  have : Ers.abbrL [37, 122] [] (-12600) 0 = [45, 48, 51, 51, 48] := by
    rw [Ers.abbr_z h1 h2, told_lit]; rfl
  show (⟨(Ers.abbrL [37, 122] [] (-12600) 0).toArray⟩ : ByteArray) = _
  rw [this]
set_option maxRecDepth 100000 in
set_option maxHeartbeats 8000000 in
theorem ealive_any (w : World) (hM : MaxL w) : Rets Tryd.prog 6 #[] w (.bool true) := by
  have H1 := fun v w hm hr => Lib.hid (eAt_any smallS small_fits v w hm hr 0 1625097600 (by omega) (by omega))
  have H2 := fun v w hm hr => Lib.hid (eAt_any smallS small_fits v w hm hr 0 0 (by omega) (by omega))
  have H3 := fun v w hm hr => Lib.hid (eEnd_any smallS small_fits v w hm hr (by decide) 0 0)
  have H4 := fun w hm => Lib.hid (abbr_any ⟨#[37, 122]⟩ ⟨#[]⟩ (-12600) 0 (by decide) (by decide) (by omega) (by omega) w hm)
  have H5 := fun v w hr => Lib.hid (eset_any smallS ⟨#[69]⟩ v w hr (by decide))
  have h5 := Lib.hid small_set
  rw [at_lit small_at1] at H1
  rw [at_lit small_at2] at H2
  rw [end_lit small_end] at H3
  rw [abbr_lit] at H4
  unfold Rets
  go_enter Tryd.func6, Tryd.ntmps6
  go_wp2_with fail
  go_at_call 14
  refine (small_any _).mono ?_
  rintro _ _ ⟨v1, y1, rfl, hv1, rfl⟩
  have HV1 := Lib.hid hv1
  clear hv1
  go_wp2_with fail
  go_at_call 10
  refine Rets.use (H1 _ _ (hM.ext isext) (HV1.out.ext isext)).out ?_
  intro y2
  go_wp2_with fail
  go_at_call 14
  refine (small_any _).mono ?_
  rintro _ _ ⟨v3, y3, rfl, hv3, rfl⟩
  have HV3 := Lib.hid hv3
  clear hv3
  go_wp2_with fail
  go_at_call 10
  refine Rets.use (H2 _ _ (hM.ext isext) (HV3.out.ext isext)).out ?_
  intro y4
  go_wp2_with fail
  go_at_call 14
  refine (small_any _).mono ?_
  rintro _ _ ⟨v5, y5, rfl, hv5, rfl⟩
  have HV5 := Lib.hid hv5
  clear hv5
  go_wp2_with fail
  go_at_call 12
  refine Rets.use (H3 _ _ (hM.ext isext) (HV5.out.ext isext)).out ?_
  intro y6
  go_wp2_with fail
  go_at_call 7
  refine Rets.use (H4 _ (hM.ext isext)).out ?_
  intro y7
  go_wp2_with fail
  go_at_call 14
  refine (small_any _).mono ?_
  rintro _ _ ⟨v8, y8, rfl, hv8, rfl⟩
  have HV8 := Lib.hid hv8
  clear hv8
  go_wp2_with fail
  go_at_call 15
  refine (H5 _ _ (HV8.out.ext isext)).out.mono ?_
  rintro _ _ ⟨v9, n9, y9, rfl, hn9, hv9, -, rfl⟩
  obtain ⟨a9, c9, rfl⟩ := shape_of hv9
  obtain rfl : n9 = 2 := hn9.symm.trans h5.out
  clear hv9 hn9
  go_wp2
  go_ret
  exact ⟨rfl, done⟩
set_option maxRecDepth 100000 in
set_option maxHeartbeats 8000000 in
theorem abbrslaw_any (fm lt : ByteArray) (off save : Int) (n1 : -9223372036854775808 ≤ off) (n2 : off ≤ 9223372036854775807) (hf : fm.size ≤ maxLen) (hl : lt.size ≤ maxLen) (w : World) (hM : MaxL w) :
    Rets Tryd.prog 3 #[.string fm, .string lt, .int .i64 off, .int .i64 save] w (.bool true) := by
  have HA := fun w hm => Lib.hid (ealive_any w hm)
  have HP := fun (h1 : fm.size ≤ 1000) (h2 : lt.size ≤ 1000) w hm => Lib.hid (abbr_any fm lt off save h1 h2 n1 n2 w hm)
  have HD := fun (h1 : fm.size ≤ 1000) (h2 : lt.size ≤ 1000) w => Lib.hid (dabbr_any fm lt off save h1 h2 n1 n2 w)
  generalize Ers.abbrB fm lt off save = AB at *
  unfold maxLen at hf hl
  clear n1 n2
  unfold Rets
  by_cases h1 : 1000 < fm.size
  · have g1 : (1000 : Int) < fm.size := by omega
    clear HP HD
    go_enter Tryd.func3, Tryd.ntmps3
    go_wp2_with (go_at_call 6; refine Rets.use (HA _ (hM.ext isext)).out ?_; intro _)
    go_ret
    exact ⟨rfl, done⟩
  · have g1 : decide ((1000 : Int) < fm.size) = false := decide_eq_false (by omega)
    by_cases h2 : 1000 < lt.size
    · have g2 : (1000 : Int) < lt.size := by omega
      clear HP HD
      go_enter Tryd.func3, Tryd.ntmps3
      go_wp2_with (go_at_call 6; refine Rets.use (HA _ (hM.ext isext)).out ?_; intro _)
      go_ret
      exact ⟨rfl, done⟩
    · have g2 : decide ((1000 : Int) < lt.size) = false := decide_eq_false (by omega)
      have HP1 := HP (by omega) (by omega)
      have HD1 := HD (by omega) (by omega)
      clear HP HD
      go_enter Tryd.func3, Tryd.ntmps3
      go_wp2_with (first | (go_at_call 6; refine Rets.use (HA _ (hM.ext isext)).out ?_; intro _) | (go_at_call 7; refine Rets.use (HP1 _ (hM.ext isext)).out ?_; intro _) | (go_at_call 8; refine Rets.use (HD1 _).out ?_; intro _))
      go_ret
      exact ⟨ret_bool (by simp), done⟩
end Go.Proofs.YtcjnficcggjeiaaDoor
namespace Go.Proofs.YtcjnficcggjeiaaDoor
theorem i64_in {x : Int} (h : (Lit.int .i64 x).wf = true) : -9223372036854775808 ≤ x ∧ x ≤ 9223372036854775807 := by
  have h1 : IntKind.i64.min = -9223372036854775808 := rfl
  have h2 : IntKind.i64.max = 9223372036854775807 := rfl
  simp [Lit.wf, h1, h2] at h; omega
theorem abbrslaw_row (fm lt : ByteArray) (off save : Int) (hf : fm.size ≤ maxLen) (hl : lt.size ≤ maxLen) (ho : (Lit.int .i64 off).wf = true) (hs : (Lit.int .i64 save).wf = true) (w : World) (hM : MaxL w) :
    Rets Tryd.prog 3 #[.string fm, .string lt, .int .i64 off, .int .i64 save] w (.bool true) :=
  abbrslaw_any fm lt off save (i64_in ho).1 (i64_in ho).2 hf hl w hM
end Go.Proofs.YtcjnficcggjeiaaDoor
