/- Walks of rules: are two turns near, by the program? -/
import Derived.Test.YtodcgalcpnckaaaRulWalkY
import Derived.Test.YtodcgalcpnckaaaRulWalkZ
set_option linter.unusedVariables false
set_option linter.unusedSimpArgs false
namespace Go.Proofs.Ytodcgalcpnckaaa
open Go.RowKit Go.Sort Go.Shelf

namespace Rul
def firstN (l : List Rule) : Int := l.foldl (fun m x => min m x.a) 9999
def lastN (l : List Rule) : Int := l.foldl (fun m x => if x.b = 1000000 then max m x.a else max (max m x.a) x.b) 1
theorem firstN_step {l : List Rule} {k : Nat} (h : k < l.length) : firstN (l.take (k + 1)) = min (firstN (l.take k)) l[k].a := by
  unfold firstN
  rw [List.take_succ_eq_append_getElem h, List.foldl_append]; rfl
theorem lastN_step {l : List Rule} {k : Nat} (h : k < l.length) : lastN (l.take (k + 1)) = if l[k].b = 1000000 then max (lastN (l.take k)) l[k].a else max (max (lastN (l.take k)) l[k].a) l[k].b := by
  unfold lastN
  rw [List.take_succ_eq_append_getElem h, List.foldl_append]; rfl
/-- The turns of the year ahead, from a first year on. -/
def hadG (l : List Rule) (f y : Int) : List Turn := if y ≤ f then [] else turnsG l (y - 1)
noncomputable def nearG (l : List Rule) (f e : Int) : Bool := @decide (∃ y, f ≤ y ∧ y ≤ e ∧ nearB (turnsG l y) (hadG l f y) = true) (Classical.propDecidable _)
theorem nearG_no {l : List Rule} {f e : Int} (h : ∀ y, f ≤ y → y ≤ e → nearB (turnsG l y) (hadG l f y) = false) : nearG l f e = false := by
  refine @decide_eq_false _ (Classical.propDecidable _) ?_
  rintro ⟨y, h1, h2, h3⟩
  rw [h y h1 h2] at h3; cases h3
theorem nearG_yes {l : List Rule} {f e y : Int} (h1 : f ≤ y) (h2 : y ≤ e) (h3 : nearB (turnsG l y) (hadG l f y) = true) : nearG l f e = true := by
  exact @decide_eq_true _ (Classical.propDecidable _) ⟨y, h1, h2, h3⟩
theorem hadG_first (l : List Rule) (f : Int) : hadG l f f = [] := if_pos (Int.le_refl _)
theorem hadG_next {l : List Rule} {f y : Int} (h : f ≤ y) : hadG l f (y + 1) = turnsG l y := by
  unfold hadG
  rw [if_neg (by omega), show y + 1 - 1 = y by omega]
end Rul
theorem turns_ok {l : List Rule} (hA : Rul.allB l = true) (y : Int) : okAt (Rul.turnsG l y) := by
  intro t ht
  have : t ∈ Rul.turnL l y := (Rul.sortT_perm _).mem_iff.1 ht
  unfold Rul.turnL at this
  obtain ⟨x, hx, he⟩ := List.mem_filterMap.1 this
  split at he
  · rename_i hb
    injection he with he
    subst he
    have := turn_bd (Rul.all_mem hA hx) hb
    exact ⟨this.1, this.2.1⟩
  · cases he
theorem had_ok {l : List Rule} (hA : Rul.allB l = true) (f y : Int) : okAt (Rul.hadG l f y) := by
  unfold Rul.hadG
  split
  · intro t ht; simp at ht
  · exact turns_ok hA _
theorem had_le (l : List Rule) (f y : Int) : (Rul.hadG l f y).length ≤ l.length := by
  unfold Rul.hadG
  split
  · simp
  · rw [Rul.turnsG_length]; exact Rul.turnL_le _ _
set_option maxRecDepth 100000 in
set_option maxHeartbeats 8000000 in
theorem near_any (l : List Rule) (n : Nat) (hn : l.length = n) (h9 : n ≤ 1000) (hA : Rul.allB l = true) (hC : Rul.crowdB l = false) (h0 : n ≠ 0) (hT : ∀ y, (Rul.turnL l y).length < 20) (v : Value) (w : World) (hr : Reads w v n (ruleRow l)) :
    Rets Try.prog 22 #[v] w (.bool (Rul.nearG l (Rul.firstN l) (Rul.lastN l + 401))) := by
  have H : ∀ w, Reads w v n (ruleRow l) → Hid (Rets Try.prog 12 #[v] w (.bool true)) := fun w hr => by
    have := sets_any l n hn v w hr
    rw [hA] at this; exact this
  have HCr : ∀ w, Reads w v n (ruleRow l) → Hid (Rets Try.prog 21 #[v] w (.bool false)) := fun w hr => by
    have := crowded_any l n hn hA v w hr
    rw [hC] at this; exact this
  have HTu := fun y w hr => Lib.hid (turns_any l n hn h9 hA y (hT y) v w hr)
  have hr0 := hr
  rcases hr with ⟨_, _, rfl, h1, _⟩ | ⟨b, o, c, rfl, k1, k2, m1, hc⟩
  · exact absurd h1 h0
  haveI : InW b w := ⟨m1⟩
  have HC := Lib.hid hc
  have Hn := Lib.hid hn
  have HA := Lib.hid hA
  have hn0 : decide ((n : Int) = 0) = false := decide_eq_false (by omega)
  have hn1 : ((n : Int) == 0) = false := beq_eq_false_iff_ne.2 (by omega)
  clear hc hn hA hC hT
  have HN := fun h => Lib.hid (Rul.nearG_no (l := l) (f := Rul.firstN l) (e := Rul.lastN l + 401) h)
  have HY := fun y h1 h2 h3 => Lib.hid (Rul.nearG_yes (l := l) (f := Rul.firstN l) (e := Rul.lastN l + 401) (y := y) h1 h2 h3)
  generalize Rul.nearG l (Rul.firstN l) (Rul.lastN l + 401) = NG at *
  unfold Rets
  go_enter Try.func22, Try.ntmps22
  go_wp2_with (first | (go_at_call 12; refine Rets.use (H _ (hr0.ext isext)).out ?_; intro _) | (go_at_call 21; refine Rets.use (HCr _ (hr0.ext isext)).out ?_; intro _))
  go_loopw [3, 4, 24] (fun fv ev iv wr => ∃ (j : Nat) (F E : Int), j ≤ n ∧ iv = .int .i64 j ∧ fv = .int .i64 F ∧ ev = .int .i64 E ∧ 1 ≤ F ∧ F ≤ 9999 ∧ 1 ≤ E ∧ E ≤ 9999 ∧ Hid (Rul.firstN (l.take j) = F) ∧ Hid (Rul.lastN (l.take j) = E) ∧ Ext w wr) (fun _ _ i _ => n - (intOf i).toNat)
  case atStart => exact ⟨0, 9999, 1, by omega, rfl, rfl, rfl, by omega, by omega, by omega, by omega, rfl, rfl, isext⟩
  case round =>
    obtain ⟨j, F, E, j2, rfl, rfl, rfl, F1, F2, E1, E2, HF, HE, hx⟩ := hrel
    obtain ⟨yr, rfl⟩ := fin hx
    clear hx
    by_cases hlt : j < n
    · have hj : j < l.length := by rw [Hn.out]; exact hlt
      obtain ⟨c0, c1, c2, c3, c4, c5, c6, c7, c8, c9, c10⟩ := rule_at HC.out j hj
      have hst := Lib.hid (Rul.firstN_step hj)
      have hsl := Lib.hid (Rul.lastN_step hj)
      have hrx := Rul.all_mem HA.out (List.getElem_mem hj)
      have hpx : 1 ≤ l[j].a ∧ l[j].a ≤ 9999 ∧ ((1 ≤ l[j].b ∧ l[j].b ≤ 9999) ∨ l[j].b = 1000000) := by
        unfold Rul.rightB Rul.yearB at hrx
        simp only [Bool.and_eq_true, Bool.or_eq_true, decide_eq_true_eq, beq_iff_eq] at hrx
        omega
      clear hrx
      generalize l[j] = x at *
      obtain ⟨nm, a, b', m, k, wd, d, t, r, s, lt⟩ := x
      simp only at c0 c1 c2 c3 c4 c5 c6 c7 c8 c9 c10 hpx
      obtain ⟨a1, a2, hb⟩ := hpx
      have HF2 : Hid (Rul.firstN (l.take (j + 1)) = min F a) := by show _ = _; rw [hst.out, HF.out]
      rcases Classical.em (b' = 1000000) with rfl | hb9
      · have HE2 : Hid (Rul.lastN (l.take (j + 1)) = max E a) := by show _ = _; rw [hsl.out, if_pos rfl, HE.out]
        clear hst hsl hb
        go_wp2_with fail
        refine wp_region_past (by kernel_rfl) (by kernel_rfl) ?_
        repeat (go_big_quiet_step (fail))
        refine wpQuiet_nil ?_
        intro z
        go_wp2
        go_roundw
        case rel => exact ⟨j + 1, _, _, by omega, by go_num, rfl, rfl, by omega, by omega, by omega, by omega, HF2, HE2, isext⟩
        case measure => simp [intOf]; omega
      · have hb8 : ((b' : Int) == 1000000) = false := beq_eq_false_iff_ne.2 hb9
        have hb7 : ((b' : Int) != 1000000) = true := by simpa using hb9
        have HE2 : Hid (Rul.lastN (l.take (j + 1)) = max E (max a b')) := by show _ = _; rw [hsl.out, if_neg hb9, HE.out]; simp only []; omega
        have hb6 : 1 ≤ b' ∧ b' ≤ 9999 := by rcases hb with hb | hb; exact hb; exact absurd hb hb9
        obtain ⟨hb5, hb4⟩ := hb6
        clear hst hsl hb
        go_wp2_with fail
        refine wp_region_past (by kernel_rfl) (by kernel_rfl) ?_
        repeat (go_big_quiet_step (fail))
        refine wpQuiet_nil ?_
        intro z
        go_wp2
        go_roundw
        case rel => exact ⟨j + 1, _, _, by omega, by go_num, rfl, rfl, by omega, by omega, by omega, by omega, HF2, HE2, isext⟩
        case measure => simp [intOf]; omega
    · have HF9 : Hid (Rul.firstN l = F) := by have := HF.out; rwa [List.take_of_length_le (by rw [Hn.out]; omega)] at this
      have HE9 : Hid (Rul.lastN l = E) := by have := HE.out; rwa [List.take_of_length_le (by rw [Hn.out]; omega)] at this
      rw [HF9.out, HE9.out] at HN HY
      have hlo := fun y => had_le l F y
      rw [Hn.out] at hlo
      have htl := fun y => Rul.turnL_le l y
      rw [Hn.out] at htl
      go_wp2
      go_loopw [7, 8] (fun hv yv wr2 => ∃ (y : Int) (nb : Nat) (ao : Option Addr) (cap0 : Nat), yv = .int .i64 y ∧ hv = .slice ao nb cap0 ∧ F ≤ y ∧ (y ≤ E + 402 ∨ y = F) ∧ y ≤ 20000 ∧ nb ≤ 1000 ∧ Hid ((Rul.hadG l F y).length = nb) ∧ Hid (Reads wr2 hv nb (turnRow (Rul.hadG l F y))) ∧ Hid (∀ y', F ≤ y' → y' < y → Rul.nearB (Rul.turnsG l y') (Rul.hadG l F y') = false) ∧ Ext yr.x wr2) (fun _ yv _ => (E + 402 - intOf yv).toNat)
      case atStart => exact ⟨F, 0, none, 0, rfl, rfl, by omega, .inr rfl, by omega, by omega, by show _ = _; rw [Rul.hadG_first]; rfl, by show Reads _ _ _ _; rw [Rul.hadG_first]; exact Reads.nil _, fun y' h1 h2 => absurd h2 (by omega), isext⟩
      case round =>
        obtain ⟨y, nb, ao, cap0, rfl, rfl, y1, y2, y5, hnb, Hnb, Hrd, Hno, hx2⟩ := hrel
        obtain ⟨yq, rfl⟩ := fin hx2
        clear hx2
        by_cases hlast : y ≤ E + 401
        · have hGl : Hid ((Rul.turnsG l y).length ≤ 1000) := by show _ ≤ _; rw [Rul.turnsG_length]; have := htl y; omega
          have HNr := fun (v1 : Value) (w1 : World) (h1 : Reads w1 v1 (Rul.turnsG l y).length (turnRow (Rul.turnsG l y))) (h2 : Reads w1 (.slice ao nb cap0) nb (turnRow (Rul.hadG l F y))) => Lib.hid (nearer_any (Rul.turnsG l y) (Rul.hadG l F y) _ nb rfl Hnb.out hGl.out hnb (turns_ok HA.out y) (had_ok HA.out F y) v1 (.slice ao nb cap0) w1 h1 h2)
          have hnext : Hid (Rul.hadG l F (y + 1) = Rul.turnsG l y) := Rul.hadG_next y1
          have HYy := HY y y1 hlast
          have HNo2 : Rul.nearB (Rul.turnsG l y) (Rul.hadG l F y) = false → Hid (∀ y', F ≤ y' → y' < y + 1 → Rul.nearB (Rul.turnsG l y') (Rul.hadG l F y') = false) := fun h y' h1 h2 => by
            rcases Int.lt_or_le y' y with h3 | h3
            · exact Hno.out y' h1 h3
            · obtain rfl : y' = y := by omega
              exact h
          have HTy := HTu y
          generalize Rul.nearB (Rul.turnsG l y) (Rul.hadG l F y) = nb9 at *
          generalize Rul.turnsG l y = G at *
          clear HY HN hlo htl HTu
          cases nb9
          · have HNo3 := HNo2 rfl
            clear HYy HNo2
            go_wp2_with (first | (go_at_call 10; refine ((HTy _ (hr0.ext isext)).out).mono ?_; rintro _ _ ⟨v1, y3, rfl, hv1, rfl⟩; obtain ⟨a1, c1, rfl⟩ := reads_shape hv1; have HV1 := Lib.hid hv1; clear hv1) | (go_at_call 43; refine Rets.use (HNr _ _ (HV1.out.ext isext) (Hrd.out.ext isext)).out ?_; intro y4))
            go_roundw
            case rel => exact ⟨y + 1, G.length, a1, c1, rfl, rfl, by omega, .inl (by omega), by omega, hGl.out, by show _ = _; rw [hnext.out], by show Reads _ _ _ _; rw [hnext.out]; exact HV1.out.ext isext, HNo3, isext⟩
            case measure => simp [intOf]; omega
          · have HY3 : Hid (NG = true) := HYy rfl
            clear HYy HNo2
            go_wp2_with (first | (go_at_call 10; refine ((HTy _ (hr0.ext isext)).out).mono ?_; rintro _ _ ⟨v1, y3, rfl, hv1, rfl⟩; obtain ⟨a1, c1, rfl⟩ := reads_shape hv1; have HV1 := Lib.hid hv1; clear hv1) | (go_at_call 43; refine Rets.use (HNr _ _ (HV1.out.ext isext) (Hrd.out.ext isext)).out ?_; intro y4))
            go_ret
            exact ⟨by rw [HY3.out]; first | done | rfl, done⟩
        · have hne : Hid (NG = false) := HN (fun y' h1 h2 => Hno.out y' h1 (by omega))
          have hlast' : decide (y ≤ E + 401) = false := decide_eq_false hlast
          go_wp2
          go_ret
          exact ⟨by rw [hne.out]; first | done | rfl, done⟩
end Go.Proofs.Ytodcgalcpnckaaa
set_option linter.unusedVariables false
set_option linter.unusedSimpArgs false
namespace Go.Proofs.Ytodcgalcpnckaaa
open Go.RowKit Go.Sort Go.Shelf

namespace Rul
theorem pair_no {L : List Turn} (h : ∀ i (hi : i < L.length) k (hk : k < i), farB L[i] (L[k]'(by omega)) = true) : nearB L [] = false := by
  refine near_no fun i hi k hk => ?_
  have hk' : k < i := by simp at hk; omega
  rw [List.getElem_append_left (by simp; omega), List.getElem_take]
  rw [List.getD_eq_getElem?_getD, List.getElem?_eq_getElem hi]
  exact h i hi k hk'
theorem pair_yes {L : List Turn} {i k : Nat} (hi : i < L.length) (hk : k < i) (h : farB L[i] (L[k]'(by omega)) = false) : nearB L [] = true := by
  refine near_yes hi (k := k) (by simp; omega) ?_
  rw [List.getElem_append_left (by simp; omega), List.getElem_take]
  rw [List.getD_eq_getElem?_getD, List.getElem?_eq_getElem hi]
  exact h
def firstD (l : List Rule) : Int := l.foldl (fun m x => if x.a < m then x.a else m) 10000
def stepD (m : Int) (x : Rule) : Int := if x.b = 1000000 then (if m < x.a then x.a else m) else if (if m < x.a then x.a else m) < x.b then x.b else (if m < x.a then x.a else m)
def lastD' (l : List Rule) : Int := l.foldl stepD 0
theorem firstD_step {l : List Rule} {k : Nat} (h : k < l.length) : firstD (l.take (k + 1)) = if l[k].a < firstD (l.take k) then l[k].a else firstD (l.take k) := by
  unfold firstD
  rw [List.take_succ_eq_append_getElem h, List.foldl_append]; rfl
theorem lastD_step {l : List Rule} {k : Nat} (h : k < l.length) : lastD' (l.take (k + 1)) = stepD (lastD' (l.take k)) l[k] := by
  unfold lastD'
  rw [List.take_succ_eq_append_getElem h, List.foldl_append]; rfl
noncomputable def nearD (l : List Rule) (f e : Int) : Bool := @decide (∃ y, f ≤ y ∧ y ≤ e ∧ nearB (hadG l f y ++ turnsG l y) [] = true) (Classical.propDecidable _)
theorem nearD_no {l : List Rule} {f e : Int} (h : ∀ y, f ≤ y → y ≤ e → nearB (hadG l f y ++ turnsG l y) [] = false) : nearD l f e = false := by
  refine @decide_eq_false _ (Classical.propDecidable _) ?_
  rintro ⟨y, h1, h2, h3⟩
  rw [h y h1 h2] at h3; cases h3
theorem nearD_yes {l : List Rule} {f e y : Int} (h1 : f ≤ y) (h2 : y ≤ e) (h3 : nearB (hadG l f y ++ turnsG l y) [] = true) : nearD l f e = true := by
  exact @decide_eq_true _ (Classical.propDecidable _) ⟨y, h1, h2, h3⟩
end Rul
theorem owns_empty (w : World) (base : Nat) (hb : base ≤ w.heap.size) (e : TypeId) : (w.alloc (.cells #[] e)).ownsRow base e 4 (.slice (some ⟨w.heap.size, 0, none⟩) 0 0) 0 [] :=
  World.ownsRow_lit w #[] 0 hb (by unfold maxLen; omega) rfl
/-- The three ways in which a rule's years bear on the bounds. -/
theorem year_cases (a b E : Int) (hb : (1 ≤ b ∧ b ≤ 9999) ∨ b = 1000000) : ∀ M : Int, (b = 1000000 ∧ ((b : Int) != 1000000) = false) ∨ (((b : Int) != 1000000) = true ∧ M < b ∧ b ≠ 1000000) ∨ (((b : Int) != 1000000) = true ∧ decide (M < b) = false ∧ b ≠ 1000000) := by
  intro M
  by_cases h : b = 1000000
  · exact .inl ⟨h, by simp [h]⟩
  · by_cases h2 : M < b
    · exact .inr (.inl ⟨by simpa using h, h2, h⟩)
    · exact .inr (.inr ⟨by simpa using h, decide_eq_false h2, h⟩)
set_option maxRecDepth 100000 in
set_option maxHeartbeats 16000000 in
theorem rnear_any (l : List Rule) (n : Nat) (hn : l.length = n) (h9 : n ≤ 1000) (hA : Rul.allB l = true) (h0 : n ≠ 0) (v : Value) (w : World) (hr : Reads w v n (ruleRow l)) :
    Rets Try.prog 23 #[v] w (.bool (Rul.nearD l (Rul.firstD l) (Rul.lastD' l + 402))) := by
  obtain ⟨i0, hi, hz0, hz1, hz2⟩ := info_partsT Try.infoTurn
  have HTu := fun y w hr => Lib.hid (rturns_any l n hn h9 y v w hr)
  have hr0 := hr
  rcases hr with ⟨_, _, rfl, h1, _⟩ | ⟨b, o, c, rfl, k1, k2, m1, hc⟩
  · exact absurd h1 h0
  haveI : InW b w := ⟨m1⟩
  have HC := Lib.hid hc
  have Hn := Lib.hid hn
  have HA := Lib.hid hA
  clear hc hn hA
  have HN := fun h => Lib.hid (Rul.nearD_no (l := l) (f := Rul.firstD l) (e := Rul.lastD' l + 402) h)
  have HY := fun y h1 h2 h3 => Lib.hid (Rul.nearD_yes (l := l) (f := Rul.firstD l) (e := Rul.lastD' l + 402) (y := y) h1 h2 h3)
  generalize Rul.nearD l (Rul.firstD l) (Rul.lastD' l + 402) = NG at *
  unfold Rets
  go_enter Try.func23, Try.ntmps23
  go_wp2
  go_loopw [3, 4, 5] (fun fv ev iv wr => ∃ (j : Nat) (F E : Int), j ≤ n ∧ iv = .int .i64 j ∧ fv = .int .i64 F ∧ ev = .int .i64 E ∧ 1 ≤ F ∧ F ≤ 10000 ∧ 0 ≤ E ∧ E ≤ 9999 ∧ Hid (Rul.firstD (l.take j) = F) ∧ Hid (Rul.lastD' (l.take j) = E) ∧ Ext w wr) (fun _ _ i _ => n - (intOf i).toNat)
  case atStart => exact ⟨0, 10000, 0, by omega, rfl, rfl, rfl, by omega, by omega, by omega, by omega, rfl, rfl, isext⟩
  case round =>
    obtain ⟨j, F, E, j2, rfl, rfl, rfl, F1, F2, E1, E2, HF, HE, hx⟩ := hrel
    obtain ⟨yr, rfl⟩ := fin hx
    clear hx
    by_cases hlt : j < n
    · have hj : j < l.length := by rw [Hn.out]; exact hlt
      obtain ⟨c0, c1, c2, c3, c4, c5, c6, c7, c8, c9, c10⟩ := rule_at HC.out j hj
      have hst := Lib.hid (Rul.firstD_step hj)
      have hsl := Lib.hid (Rul.lastD_step hj)
      have hrx := Rul.all_mem HA.out (List.getElem_mem hj)
      have hpx : 1 ≤ l[j].a ∧ l[j].a ≤ 9999 ∧ ((1 ≤ l[j].b ∧ l[j].b ≤ 9999) ∨ l[j].b = 1000000) := by
        unfold Rul.rightB Rul.yearB at hrx
        simp only [Bool.and_eq_true, Bool.or_eq_true, decide_eq_true_eq, beq_iff_eq] at hrx
        omega
      clear hrx
      generalize l[j] = x at *
      obtain ⟨nm, a, b', m, k, wd, d, t, r, s, lt⟩ := x
      simp only at c0 c1 c2 c3 c4 c5 c6 c7 c8 c9 c10 hpx
      clear c0 c3 c4 c5 c6 c7 c8 c9 c10
      obtain ⟨a1, a2, hb⟩ := hpx
      have hF : ∃ F', ((a < F ∧ F' = a) ∨ (decide (a < F) = false ∧ F' = F)) ∧ Hid (Rul.firstD (l.take (j + 1)) = F') ∧ 1 ≤ F' ∧ F' ≤ 10000 := by
        refine ⟨if a < F then a else F, ?_, ?_, ?_⟩
        · split
          · exact .inl ⟨by assumption, rfl⟩
          · exact .inr ⟨decide_eq_false (by assumption), rfl⟩
        · show _ = _; rw [hst.out, HF.out]
        · split <;> omega
      obtain ⟨F', hF', HF2, F3, F4⟩ := hF
      have hM : ∃ M', ((E < a ∧ M' = a) ∨ (decide (E < a) = false ∧ M' = E)) ∧ Hid ((if E < a then a else E) = M') ∧ 0 ≤ M' ∧ M' ≤ 9999 := by
        refine ⟨if E < a then a else E, ?_, rfl, ?_⟩
        · split
          · exact .inl ⟨by assumption, rfl⟩
          · exact .inr ⟨decide_eq_false (by assumption), rfl⟩
        · split <;> omega
      obtain ⟨M', hM', HM, M3, M4⟩ := hM
      have hst2 : Hid (Rul.lastD' (l.take (j + 1)) = Rul.stepD E ⟨nm, a, b', m, k, wd, d, t, r, s, lt⟩) := by show _ = _; rw [hsl.out, HE.out]
      clear hst hsl
      have hcs := year_cases a b' E hb M'
      have hE : (b' = 1000000 → Hid (Rul.lastD' (l.take (j + 1)) = M')) ∧ (b' ≠ 1000000 → M' < b' → Hid (Rul.lastD' (l.take (j + 1)) = b')) ∧ (b' ≠ 1000000 → ¬ M' < b' → Hid (Rul.lastD' (l.take (j + 1)) = M')) := by
        refine ⟨fun h => ?_, fun h h' => ?_, fun h h' => ?_⟩
        · show _ = _; rw [hst2.out]; unfold Rul.stepD; simp only []; rw [if_pos h, HM.out]
        · show _ = _; rw [hst2.out]; unfold Rul.stepD; simp only []; rw [if_neg h, HM.out, if_pos h']
        · show _ = _; rw [hst2.out]; unfold Rul.stepD; simp only []; rw [if_neg h, HM.out, if_neg h']
      clear hst2 HM
      have hb9 : b' ≠ 1000000 → 0 ≤ b' ∧ b' ≤ 9999 := fun h => by rcases hb with hb | hb; exact ⟨by omega, hb.2⟩; exact absurd hb h
      clear hb
      rcases hF' with ⟨f1, rfl⟩ | ⟨f1, rfl⟩ <;> rcases hM' with ⟨g1, rfl⟩ | ⟨g1, rfl⟩ <;> rcases hcs with ⟨rfl, q1⟩ | ⟨q1, q2, q3⟩ | ⟨q1, q2, q3⟩
      all_goals
        first
        | (have HE2 := hE.1 rfl; clear hE hb9)
        | (have HE2 := hE.2.1 q3 q2; obtain ⟨r1, r2⟩ := hb9 q3; clear hE hb9 q3)
        | (have HE2 := hE.2.2 q3 (of_decide_eq_false q2); obtain ⟨r1, r2⟩ := hb9 q3; clear hE hb9 q3)
        go_wp2
        go_roundw
        case rel => exact ⟨j + 1, _, _, by omega, by go_num, rfl, rfl, F3, F4, by omega, by omega, HF2, HE2, isext⟩
        case measure => simp [intOf]; omega
    · have HF9 : Hid (Rul.firstD l = F) := by have := HF.out; rwa [List.take_of_length_le (by rw [Hn.out]; omega)] at this
      have HE9 : Hid (Rul.lastD' l = E) := by have := HE.out; rwa [List.take_of_length_le (by rw [Hn.out]; omega)] at this
      rw [HF9.out, HE9.out] at HN HY
      have hlo := fun y => had_le l F y
      rw [Hn.out] at hlo
      have htl := fun y => Rul.turnL_le l y
      rw [Hn.out] at htl
      go_wp2
      go_loopw [6, 7] (fun hv yv wr2 => ∃ (y : Int) (nb : Nat) (ao : Option Addr) (cap0 : Nat), yv = .int .i64 y ∧ hv = .slice ao nb cap0 ∧ F ≤ y ∧ (y ≤ E + 403 ∨ y = F) ∧ y ≤ 20000 ∧ nb ≤ 1000 ∧ Hid ((Rul.hadG l F y).length = nb) ∧ Hid (Reads wr2 hv nb (turnRow (Rul.hadG l F y))) ∧ Hid (∀ y', F ≤ y' → y' < y → Rul.nearB (Rul.hadG l F y' ++ Rul.turnsG l y') [] = false) ∧ Ext yr.x wr2) (fun _ yv _ => (E + 403 - intOf yv).toNat)
      case atStart => exact ⟨F, 0, none, 0, rfl, rfl, by omega, .inr rfl, by omega, by omega, by show _ = _; rw [Rul.hadG_first]; rfl, by show Reads _ _ _ _; rw [Rul.hadG_first]; exact Reads.nil _, fun y' h1 h2 => absurd h2 (by omega), isext⟩
      case round =>
        obtain ⟨y, nb, ao, cap0, rfl, rfl, y1, y2, y3, hnb, Hnb, Hrd, Hno, hx2⟩ := hrel
        obtain ⟨yq, rfl⟩ := fin hx2
        clear hx2
        by_cases hlast : y ≤ E + 402
        · have hGl : (Rul.turnsG l y).length ≤ 1000 := by rw [Rul.turnsG_length]; have := htl y; omega
          have hnext : Hid (Rul.hadG l F (y + 1) = Rul.turnsG l y) := Rul.hadG_next y1
          have HYy := HY y y1 hlast
          have HNo2 : Rul.nearB (Rul.hadG l F y ++ Rul.turnsG l y) [] = false → Hid (∀ y', F ≤ y' → y' < y + 1 → Rul.nearB (Rul.hadG l F y' ++ Rul.turnsG l y') [] = false) := fun h y' h1 h2 => by
            rcases Int.lt_or_le y' y with h3 | h3
            · exact Hno.out y' h1 h3
            · obtain rfl : y' = y := by omega
              exact h
          have HTy := HTu y
          have HkA : Hid (okAt (Rul.turnsG l y)) := turns_ok HA.out y
          have HkB : Hid (okAt (Rul.hadG l F y)) := had_ok HA.out F y
          generalize Rul.turnsG l y = G at *
          obtain ⟨D, hD⟩ : ∃ D, Rul.hadG l F y = D := ⟨_, rfl⟩
          rw [hD] at Hnb Hrd HYy HNo2 HkB
          clear hD HY HN hlo htl HTu
          obtain ⟨ng, hng⟩ : ∃ ng, Hid (G.length = ng) := ⟨_, rfl⟩
          rw [hng.out] at hGl
          go_wp2_with (first | (go_at_call 14; refine ((HTy _ (hr0.ext isext)).out).mono ?_; rintro _ _ ⟨v1, z3, rfl, hv1, rfl⟩; rw [hng.out] at hv1; obtain ⟨a1, c1, rfl⟩ := reads_shape hv1; have HV1 := Lib.hid hv1; clear hv1) | (at_builtin; refine wpList_append_src _ rfl _ _ 24 rfl z3.x.heap.size 30 i0 (.agg #[.int .i64 0, .int .i64 0, .int .i64 0, .string ByteArray.empty]) 4 40 Try.underlying24 hi hz0 hz1 hz2 rfl (by decide) (.slice (some ⟨z3.x.heap.size, 0, none⟩) 0 0) 0 [] rfl (owns_empty z3.x _ (Nat.le_refl _) 30) (.slice ao nb cap0) nb (turnRow D) rfl (src_reads (Hrd.out.ext isext)) (by rw [turnRow_length, Hnb.out]) (turnRow_one _) (by unfold maxLen; omega) (by omega) (Below.size isext) ?_; intro v5 w5 hown5 hgrow5; simp only [Nat.zero_add, List.nil_append] at hown5; obtain ⟨av5, cap5, rfl⟩ := owns_shape hown5; obtain ⟨y5, rfl⟩ := fin (Ext.grown (a := z3.x) isext (owns_empty z3.x _ (Nat.le_refl _) 30) hgrow5); clear hgrow5; have hO5 : OwnsC y5.x z3.x.heap.size 30 4 (.slice av5 nb cap5) nb (turnRow D) := ⟨hown5⟩; clear hown5) | (at_builtin; refine wpList_append_src _ rfl _ _ 24 rfl z3.x.heap.size 30 i0 (.agg #[.int .i64 0, .int .i64 0, .int .i64 0, .string ByteArray.empty]) 4 40 Try.underlying24 hi hz0 hz1 hz2 rfl (by decide) (.slice av5 nb cap5) nb (turnRow D) rfl OwnsC.own (.slice a1 ng c1) ng (turnRow G) rfl (src_reads (HV1.out.ext isext)) (by rw [turnRow_length, hng.out]) (turnRow_one _) (by unfold maxLen; omega) (by omega) (Below.size isext) ?_; intro v6 w6 hown6 hgrow6; obtain ⟨av6, cap6, rfl⟩ := owns_shape hown6; obtain ⟨y6, rfl⟩ := fin (Ext.grown (a := z3.x) isext (OwnsC.own (e := 30) (size := 4) (n := nb) (xs := turnRow D)) hgrow6); clear hgrow6; have hR6 := owns_reads hown6 (by omega); clear hown6))
          rw [← turnRow_append] at hR6
          have hLl : Hid ((D ++ G).length = nb + ng) := by show _ = _; rw [List.length_append, Hnb.out, hng.out]
          have hok : Hid (okAt (D ++ G)) := by
            intro t ht
            rcases List.mem_append.1 ht with h | h
            · exact HkB.out t h
            · exact HkA.out t h
          have HPn := fun h => Lib.hid (Rul.pair_no (L := D ++ G) h)
          have HPy := fun (i : Nat) (k : Nat) (hi : i < (D ++ G).length) (hk : k < i) h => Lib.hid (Rul.pair_yes (L := D ++ G) hi hk h)
          generalize D ++ G = L at *
          generalize Rul.nearB L [] = LB at *
          clear HkA HkB HTy
          rcases Nat.eq_zero_or_pos (nb + ng) with hz | hz
          · obtain ⟨rfl, rfl⟩ : nb = 0 ∧ ng = 0 := by omega
            have hLB : LB = false := (HPn (fun i hi => by have := hLl.out; omega)).out
            have HNo3 := HNo2 hLB
            clear hLB HPn HPy HYy HNo2 hz hR6
            refine wp_loop_rounds 1 ?_
            simp only [rounds_succ]
            go_wp2
            go_roundw
            case rel => exact ⟨y + 1, 0, a1, c1, rfl, rfl, by omega, .inl (by omega), by omega, by omega, by show _ = _; rw [hnext.out, hng.out], by show Reads _ _ _ _; rw [hnext.out]; exact HV1.out.ext isext, HNo3, isext⟩
            case measure => simp [intOf]; omega
          · rcases hR6 with ⟨_, _, _, h1, _⟩ | ⟨b6, o6, c6, e1, q1, q2, q3, hc6⟩
            · omega
            injection e1 with e1 e2 e3
            subst e1
            clear e2 e3
            haveI : InW b6 y6.x := ⟨q3⟩
            have HC6 := Lib.hid hc6
            clear hc6
            go_loopw [10] (fun iv wr3 => ∃ i : Nat, i ≤ nb + ng ∧ iv = .int .i64 i ∧ Hid (∀ i' (hi' : i' < L.length), i' < i → ∀ k (hk : k < i'), Rul.farB L[i'] (L[k]'(by omega)) = true) ∧ Ext y6.x wr3) (fun iv _ => nb + ng - (intOf iv).toNat)
            case atStart => exact ⟨0, by omega, rfl, fun i' hi' h => absurd h (Nat.not_lt_zero _), isext⟩
            case round =>
              obtain ⟨i, i2, rfl, Hi, hx3⟩ := hrel
              obtain ⟨yi, rfl⟩ := fin hx3
              clear hx3
              by_cases hli : i < nb + ng
              · have hil : i < L.length := by rw [hLl.out]; exact hli
                have hliz : (i : Int) < (nb : Int) + ng := by omega
                obtain ⟨p0, p1, p2, p3⟩ := turn_at HC6.out i hil
                have hxo := hok.out _ (List.getElem_mem hil)
                have HI1 : (∀ k (hk : k < i), Rul.farB L[i] (L[k]'(by omega)) = true) → Hid (∀ i' (hi' : i' < L.length), i' < i + 1 → ∀ k (hk : k < i'), Rul.farB L[i'] (L[k]'(by omega)) = true) := fun h i' hi' h' k hk => by
                  rcases Nat.lt_or_ge i' i with h1 | h1
                  · exact Hi.out i' hi' h1 k hk
                  · obtain rfl : i' = i := by omega
                    exact h k hk
                have HPi := fun (k : Nat) (hk : k < i) h => HPy i k hil hk h
                obtain ⟨x, hx9⟩ : ∃ x, L[i] = x := ⟨_, rfl⟩
                rw [hx9] at p0 p1 p2 p3 hxo HI1 HPi
                clear hx9 HPy
                obtain ⟨xa, xr, xs, xl⟩ := x
                simp only at p0 p1 p2 p3 hxo
                go_wp2
                go_loopw [11] (fun kv wr4 => ∃ k : Nat, k ≤ i ∧ kv = .int .i64 k ∧ Hid (∀ k' (hk' : k' < L.length), k' < k → Rul.farB ⟨xa, xr, xs, xl⟩ L[k'] = true) ∧ Ext yi.x wr4) (fun kv _ => i - (intOf kv).toNat)
                case atStart => exact ⟨0, by omega, rfl, fun k' hk' h => absurd h (Nat.not_lt_zero _), isext⟩
                case round =>
                  obtain ⟨k, k2, rfl, Hk, hx4⟩ := hrel
                  obtain ⟨yk, rfl⟩ := fin hx4
                  clear hx4
                  by_cases hlk : k < i
                  · have hkl : k < L.length := by omega
                    have hlkz : (k : Int) < (nb : Int) + ng := by omega
                    obtain ⟨r0, r1, r2, r3⟩ := turn_at HC6.out k hkl
                    have hyo := hok.out _ (List.getElem_mem hkl)
                    have hfc := far_cases ⟨xa, xr, xs, xl⟩ L[k]
                    have HTk := HPi k hlk
                    have HKn : Rul.farB ⟨xa, xr, xs, xl⟩ L[k] = true → Hid (∀ k' (hk' : k' < L.length), k' < k + 1 → Rul.farB ⟨xa, xr, xs, xl⟩ L[k'] = true) := fun h k' hk' h' => by
                      rcases Nat.lt_or_ge k' k with h1 | h1
                      · exact Hk.out k' hk' h1
                      · obtain rfl : k' = k := by omega
                        exact h
                    clear HPi HI1
                    generalize Rul.farB ⟨xa, xr, xs, xl⟩ L[k] = fb at *
                    generalize L[k] = t at *
                    obtain ⟨ta, tr, ts, tl⟩ := t
                    simp only at r0 r1 r2 r3 hyo hfc
                    have hsub : IntKind.i64.wrap (xa - ta) = xa - ta := by rw [IntKind.wrap_i64]; omega
                    rcases hfc with ⟨f1, f2, rfl⟩ | ⟨f1, f2, rfl⟩ | ⟨f1, rfl⟩
                    · have HY9 : Hid (NG = true) := HYy (HTk rfl).out
                      clear HTk HKn HYy HPn HNo2
                      go_wp2_with fail
                      refine wp_region_past1 (by kernel_rfl) (by kernel_rfl) ?_
                      repeat (go_big_quiet_step (fail))
                      refine wpQuiet_nil ?_
                      intro z
                      go_wp2
                      clear hsub
                      go_ret
                      exact ⟨by rw [HY9.out]; first | done | rfl, done⟩
                    · have HK2 := HKn rfl
                      clear HTk HKn
                      go_wp2_with fail
                      refine wp_region_past1 (by kernel_rfl) (by kernel_rfl) ?_
                      repeat (go_big_quiet_step (fail))
                      refine wpQuiet_nil ?_
                      intro z
                      go_wp2
                      clear hsub
                      go_roundw
                      case rel => exact ⟨k + 1, by omega, by go_num, HK2, isext⟩
                      case measure => simp [intOf]; omega
                    · have HK2 := HKn rfl
                      clear HTk HKn
                      go_wp2_with fail
                      refine wp_region_past1 (by kernel_rfl) (by kernel_rfl) ?_
                      repeat (go_big_quiet_step (fail))
                      refine wpQuiet_nil ?_
                      intro z
                      go_wp2
                      clear hsub
                      go_roundw
                      case rel => exact ⟨k + 1, by omega, by go_num, HK2, isext⟩
                      case measure => simp [intOf]; omega
                  · have HI2 := HI1 (fun k' hk' => Hk.out k' (by omega) (by omega))
                    clear HI1 HPi
                    go_wp2
                    go_roundw
                    case rel => exact ⟨i + 1, by omega, by go_num, HI2, isext⟩
                    case measure => simp [intOf]; omega
              · have hliz : decide ((i : Int) < (nb : Int) + ng) = false := decide_eq_false (by omega)
                have hLB : LB = false := (HPn (fun i' hi' k hk => Hi.out i' hi' (by have := hLl.out; omega) k hk)).out
                have HNo3 := HNo2 hLB
                clear hLB HPn HPy HYy HNo2
                go_wp2
                go_roundw
                case rel => exact ⟨y + 1, ng, a1, c1, rfl, rfl, by omega, .inl (by omega), by omega, hGl, by show _ = _; rw [hnext.out, hng.out], by show Reads _ _ _ _; rw [hnext.out]; exact HV1.out.ext isext, HNo3, isext⟩
                case measure => simp [intOf]; omega
        · have hne : Hid (NG = false) := HN (fun y' h1 h2 => Hno.out y' h1 (by omega))
          have hlast' : decide (y ≤ E + 402) = false := decide_eq_false hlast
          go_wp2
          go_ret
          exact ⟨by rw [hne.out]; first | done | rfl, done⟩
end Go.Proofs.Ytodcgalcpnckaaa
