/- Walk: the law of blanks and a remark. -/
import Derived.Test.YtifjnegjjjpagaaFieWalkN
set_option linter.unusedVariables false
set_option linter.unusedSimpArgs false
namespace Go.Proofs.Ytifjnegjjjpagaa
open Go.RowKit

/-- A line built up so far: fields with blanks ahead. -/
def Built (l : List ByteArray) (k : Nat) (T : ByteArray) : Prop :=
  ∃ ps : List (List UInt8 × ByteArray), ps.map (·.2) = l.take k ∧ (∀ p ∈ ps, (∀ c ∈ p.1, Fie.blank c = true) ∧ p.1 ≠ []) ∧ T.data.toList = Fie.body ps ∧ T.size ≤ k * 26
theorem Built.nil (l : List ByteArray) : Built l 0 ⟨#[]⟩ := ⟨[], rfl, by simp, rfl, Nat.zero_le _⟩
theorem body_snoc (ps : List (List UInt8 × ByteArray)) (p : List UInt8 × ByteArray) : Fie.body (ps ++ [p]) = Fie.body ps ++ p.1 ++ (fieldOut p.2).data.toList := by
  induction ps with
  | nil => simp [Fie.body]
  | cons q ps ih => simp [Fie.body, ih]
theorem Built.more {l : List ByteArray} {k : Nat} {T G x : ByteArray} (h : Built l k T) (hk : k < l.length) (hx : l[k] = x) (hG : (∀ c ∈ G.data.toList, Fie.blank c = true) ∧ G.size ≠ 0 ∧ G.size ≤ 4) (hs : x.size ≤ 20) : Built l (k + 1) (T ++ G ++ fieldOut x) := by
  obtain ⟨ps, h1, h2, h3, h4⟩ := h
  refine ⟨ps ++ [(G.data.toList, x)], ?_, ?_, ?_, ?_⟩
  · rw [List.map_append, h1, List.take_succ_eq_append_getElem hk, hx]; rfl
  · intro p hp
    rcases List.mem_append.1 hp with hp | hp
    · exact h2 p hp
    · simp at hp; subst hp
      exact ⟨hG.1, by intro e; exact hG.2.1 (by have := congrArg List.length e; simpa using this)⟩
  · rw [body_snoc, ← h3]; simp [ByteArray.data_append]
  · have := out_size x
    simp only [ByteArray.size_append]
    omega
theorem gap_facts (m : Nat) (hm : m ≤ 3) : (∀ c ∈ ((⟨#[32, 9, 32, 9]⟩ : ByteArray).extract 0 (m + 1)).data.toList, Fie.blank c = true) ∧ ((⟨#[32, 9, 32, 9]⟩ : ByteArray).extract 0 (m + 1)).size ≠ 0 ∧ ((⟨#[32, 9, 32, 9]⟩ : ByteArray).extract 0 (m + 1)).size ≤ 4 := by
  have : m = 0 ∨ m = 1 ∨ m = 2 ∨ m = 3 := by omega
  rcases this with rfl | rfl | rfl | rfl <;> decide +kernel
theorem Built.split {l : List ByteArray} {T R : ByteArray} (h : Built l l.length T) (ha : allOk l = true) (hn : l.length ≤ 10) (hR : R.size ≤ 50) :
    (T ++ ⟨#[32, 35]⟩ ++ R).size ≤ 500 ∧ ∃ vs, run (T ++ ⟨#[32, 35]⟩ ++ R) (Fie.stop Fie.blank (T ++ ⟨#[32, 35]⟩ ++ R) 0) [] = (vs, 0, 0) ∧ vs.map (·.1) = l := by
  obtain ⟨ps, h1, h2, h3, h4⟩ := h
  rw [List.take_length] at h1
  have h5 : (⟨#[32, 35]⟩ : ByteArray).size = 2 := rfl
  refine ⟨by simp only [ByteArray.size_append, h5]; omega, ?_⟩
  have hok : ∀ x ∈ l, fieldOk x = true := by unfold allOk at ha; exact List.all_eq_true.1 ha
  obtain ⟨vs, e1, e2⟩ := Fie.split_body (T ++ ⟨#[32, 35]⟩ ++ R) (32 :: 35 :: R.data.toList) (.inr ⟨[32], R.data.toList, rfl, by simp; decide⟩) ps [] [] (by simp [ByteArray.data_append, h3])
    (fun p hp => ⟨(h2 p hp).1, hok p.2 (by rw [← h1]; exact List.mem_map_of_mem hp)⟩)
    (fun p hp => (h2 p (List.mem_of_mem_tail hp)).2)
    (by have := congrArg List.length h1; simp at this ⊢; omega)
  exact ⟨vs, by simpa using e1, e2.trans h1⟩

/-- All are short. -/
def shortB (l : List ByteArray) : Bool := l.all (fun s => decide (s.size ≤ 20))
theorem short_take (l : List ByteArray) (k : Nat) (h : k < l.length) (ha : shortB (l.take k) = true) (hk : l[k].size ≤ 20) : shortB (l.take (k + 1)) = true := by
  unfold shortB at *; rw [List.take_succ_eq_append_getElem h, List.all_append, ha]; simp; omega
theorem u8_bd {x : Int} (h : (Lit.int .u8 x).wf = true) : 0 ≤ x ∧ x ≤ 255 := by
  have h1 : IntKind.u8.min = 0 := rfl
  have h2 : IntKind.u8.max = 255 := rfl
  simp [Lit.wf, h1, h2] at h; omega

set_option maxRecDepth 100000 in
set_option maxHeartbeats 4000000 in
/-- Where all has been let through: the law's second half, of fields that may be. -/
theorem blanks_main (l : List ByteArray) (n : Nat) (hn : l.length = n) (b o c : Nat) (w : World) (hbw : b < w.heap.size) (k1 : n ≤ c) (k2 : c ≤ maxLen) (z : n ≠ 0)
    (hc : ∀ i u, (l.map Value.string)[i]? = some u → w.cell? ⟨b, o + i, none⟩ = some u)
    (gs : List Int) (ng : Nat) (hng : gs.length = ng) (vg : Value) (hgs : ∀ x ∈ gs, (Lit.int .u8 x).wf = true) (hg : Reads w vg ng (gs.map (Value.int .u8)))
    (R : ByteArray) (hR : R.size ≤ 50) (hb : longB l = false) (hok : joinR l = (joined l, 0)) (ha : allOk l = true) (h10 : n ≤ 10) (h500 : (joined l).size ≤ 500) (hs : ∀ s ∈ l, s.size ≤ maxLen) :
    Rets Try.prog 7 #[.slice (some ⟨b, o, none⟩) n c, vg, .string R] w (.bool true) := by
  have hr : Reads w (.slice (some ⟨b, o, none⟩) n c) n (l.map Value.string) := .inr ⟨b, o, c, rfl, k1, k2, hbw, hc⟩
  obtain ⟨b1, b2⟩ := longB_no hb
  have L0 := Lib.hid (hb ▸ long_any l n hn _ w hr hs)
  have J1 := fun (y : Past w) => Lib.hid (join_reads l n hn _ y.x (by omega) b2 (hr.past y))
  unfold JoinSays at J1
  rw [hok] at J1
  obtain ⟨vs, hv, hm⟩ := Fie.split_joined l ha (by omega)
  have S1 := fun w => Lib.hid (hv ▸ split_any (joined l) w h500)
  have hvn : vs.length = n := by have := congrArg List.length hm; simp at this; omega
  have S2 : Hid (∀ T, Built l n T → (T ++ ⟨#[32, 35]⟩ ++ R).size ≤ 500 ∧ ∃ us, us.length = n ∧ us.map (·.1) = l ∧ ∀ w, Calls Try.prog 12 #[.string (T ++ ⟨#[32, 35]⟩ ++ R)] w (SplitEnd w (us, 0, 0))) := fun T hT => by
    subst hn
    obtain ⟨e0, us, e1, e2⟩ := hT.split ha h10 hR
    exact ⟨e0, us, by have := congrArg List.length e2; simpa using this, e2, fun w => e1 ▸ split_any _ w e0⟩
  have O1 : Hid (∀ x ∈ l, fieldOk x = true) := by unfold allOk at ha; exact List.all_eq_true.1 ha
  haveI : InW b w := ⟨hbw⟩
  have HC := Lib.hid hc
  have HN := Lib.hid hvn
  have HL := Lib.hid hn
  have HM := Lib.hid hm
  have hl : n ≤ 9223372036854775807 := by omega
  have hng0 : ng ≤ 9223372036854775807 := by
    rcases hg with ⟨a9, c9, rfl, h0, _⟩ | ⟨b', o', c', rfl, g1, g2, _⟩
    · omega
    · unfold maxLen at g2; omega
  have G : (∃ ga gc, vg = .slice ga ng gc ∧ ng ≤ 0) ∨ (∃ b2 o2 gc, vg = .slice (some ⟨b2, o2, none⟩) ng gc ∧ InW b2 w ∧ Hid (∀ k, k < ng → ∃ x : Nat, x ≤ 255 ∧ w.cell? ⟨b2, o2 + k, none⟩ = some (.int .u8 x))) := by
    rcases hg with ⟨a9, c9, rfl, h0, _⟩ | ⟨b', o', c', rfl, g1, g2, gb, gc⟩
    · exact .inl ⟨a9, c9, by rw [h0], by omega⟩
    · refine .inr ⟨b', o', c', rfl, ⟨gb⟩, fun k hk => ?_⟩
      have hk' : k < gs.length := by omega
      obtain ⟨x0, x1⟩ := u8_bd (hgs _ (List.getElem_mem hk'))
      refine ⟨gs[k].toNat, by omega, ?_⟩
      rw [gc k (.int .u8 gs[k]) (by simp [hk'])]
      congr 2; omega
  clear hg hgs hng hc hvn hn hm hv hr hb b1 b2 hok hs h500
  generalize joined l = tj at *
  unfold Rets
  rcases G with ⟨ga, gc, rfl, hz⟩ | ⟨gb, go, gc, rfl, hin, GC⟩
  all_goals
    go_enter Try.func7, Try.ntmps7
    go_wp2_with fail
    refine Rets.use L0.out ?_
    intro y
    go_wp2_with fail
    go_loopw [7] (fun i wr => ∃ j : Nat, j ≤ n ∧ i = .int .i64 j ∧ Hid (shortB (l.take j) = true) ∧ Ext w wr) (fun i _ => n - (intOf i).toNat)
    case atStart => exact ⟨0, by omega, rfl, rfl, isext⟩
    case round =>
      obtain ⟨j, j1, rfl, hsh, hx⟩ := hrel
      obtain ⟨yr, rfl⟩ := fin hx
      clear hx
      by_cases hlt : j < n
      · have hk : j < l.length := by rw [HL.out]; exact hlt
        have f1 := text_at HC.out j hk
        have T := Lib.hid (short_take l j hk hsh.out)
        generalize l[j] = u at *
        clear hk
        by_cases c2 : 20 < u.size
        · go_wp2_with (go_at_call 8; refine Rets.use (alive_any _) ?_; intro _)
          go_ret
          exact ⟨rfl, done⟩
        · go_wp2
          go_roundw
          case rel => exact ⟨j + 1, by omega, by go_num, T.out (by omega), isext⟩
          case measure => simp [intOf]; omega
      · have SH : Hid (∀ x ∈ l, x.size ≤ 20) := by
          have h1 := hsh.out
          rw [List.take_of_length_le (by rw [HL.out]; omega)] at h1
          intro x hx; exact of_decide_eq_true (List.all_eq_true.1 h1 x hx)
        clear hsh
        go_wp2_with fail
        refine Rets.use1 (J1 yr).out ?_
        intro y1
        go_wp2
        go_loopw [10, 11, 12, 13, 14] (fun tv i nv ov ev wr => ∃ (k : Nat) (T : ByteArray), k ≤ n ∧ i = .int .i64 k ∧ tv = .string T ∧ Hid (Built l k T) ∧ T.size ≤ k * 26 ∧ Ext w wr) (fun _ i _ _ _ _ => n - (intOf i).toNat)
        case atStart => exact ⟨0, _, by omega, rfl, rfl, Built.nil l, by decide, isext⟩
        case round =>
          obtain ⟨k, T, k3, rfl, rfl, hT, hTz, hx⟩ := hrel
          obtain ⟨y2, rfl⟩ := fin hx
          clear hx
          by_cases hk : k < n
          · have hkl : k < l.length := by rw [HL.out]; exact hk
            have f1 := text_at HC.out k hkl
            have hz2 := SH.out _ (List.getElem_mem hkl)
            have hf := O1.out _ (List.getElem_mem hkl)
            have MORE : Hid (∀ G : ByteArray, (∀ c ∈ G.data.toList, Fie.blank c = true) ∧ G.size ≠ 0 ∧ G.size ≤ 4 → Built l (k + 1) (T ++ G ++ fieldOut l[k])) := fun G hG => hT.out.more hkl rfl hG hz2
            have JX : Hid (∀ y : Past w, Rets Try.prog 16 #[.slice (some ⟨b, o + k, none⟩) 1 (c - k)] y.x (.tuple #[.string (fieldOut l[k]), .int .i64 0])) := fun y => by
              have h1 := join_reads [l[k]] 1 rfl (.slice (some ⟨b, o + k, none⟩) 1 (c - k)) y.x (by omega) (by simp; omega) (.inr ⟨b, o + k, c - k, rfl, by omega, by omega, (inferInstance : InW b y.x).lt, fun i u hu => by
                rcases i with _ | i
                · simp at hu; subst hu; simp [f1]
                · simp at hu⟩)
              have e : joinR [l[k]] = (fieldOut l[k], 0) := by
                have hs2 := out_size l[k]
                unfold joinR
                rw [if_pos (by simp [allOk, hf]), joined_first, if_neg (by simp; omega)]
              unfold JoinSays at h1; rw [e] at h1; exact h1
            have hfo := out_size l[k]
            generalize fieldOut l[k] = F at *
            generalize l[k] = u at *
            have hck : k < c := by omega
            clear hkl hf
            by_cases hg : k < ng
            · first
              | (exfalso; omega)
              | (
                obtain ⟨x, x1, gc⟩ := GC.out k hg
                obtain ⟨m, hm⟩ : ∃ m : Nat, x % 4 = m := ⟨_, rfl⟩
                have hm3 : m ≤ 3 := by omega
                have hmi : (x : Int) % 4 = (m : Int) := by omega
                clear hm
                have GF := gap_facts m hm3
                have M2 := Lib.hid (MORE.out _ GF)
                obtain ⟨_, GF1, GF2⟩ := GF
                go_wp2_with fail
                refine Rets.use1 (JX.out y2) ?_
                intro y3
                go_wp2
                go_roundw
                case rel => exact ⟨k + 1, _, by omega, by go_num, rfl, M2.out, by simp only [ByteArray.size_append]; omega, isext⟩
                case measure => simp [intOf]; omega)
            · have GF := gap_facts 0 (by omega)
              have M2 := Lib.hid (MORE.out _ GF)
              obtain ⟨_, GF1, GF2⟩ := GF
              go_wp2_with fail
              refine Rets.use1 (JX.out y2) ?_
              intro y3
              go_wp2
              go_roundw
              case rel => exact ⟨k + 1, _, by omega, by go_num, rfl, M2.out, by simp only [ByteArray.size_append]; simp only [Nat.zero_add] at GF2; omega, isext⟩
              case measure => simp [intOf]; omega
          · obtain rfl : k = n := by omega
            obtain ⟨sz5, us, un, um, S3⟩ := S2.out T hT.out
            have HU := Lib.hid un
            have HUM := Lib.hid um
            have S3' := fun w => Lib.hid (S3 w)
            have hT3 : T.size ≤ 260 := by omega
            clear un um S3 sz5 hT
            go_wp2_with fail
            refine (S1 _).out.mono ?_
            rintro _ _ ⟨v2, y3, rfl, hr2, rfl⟩
            simp only [HN.out] at hr2
            go_wp2_with fail
            refine (S3' _).out.mono ?_
            rintro _ _ ⟨v3, y4, rfl, hr3, rfl⟩
            simp only [HU.out] at hr3
            rcases hr2 with ⟨a9, c9, rfl, h0, _⟩ | ⟨b2, o2, c2, rfl, k3, k4, hb2, hc2⟩
            · exact absurd h0 z
            rcases hr3 with ⟨a9, c9, rfl, h0, _⟩ | ⟨b3, o3, c3, rfl, k5, k6, hb3, hc3⟩
            · exact absurd h0 z
            haveI : InW b2 y3.x := ⟨hb2⟩
            haveI : InW b3 y4.x := ⟨hb3⟩
            have HC2 := Lib.hid hc2
            have HC3 := Lib.hid hc3
            clear hc2 hc3
            go_wp2
            go_loopw [21] (fun i wr => ∃ j : Nat, j ≤ k ∧ i = .int .i64 j ∧ Ext y4.x wr) (fun i _ => k - (intOf i).toNat)
            case atStart => exact ⟨0, by omega, rfl, isext⟩
            case round =>
              obtain ⟨j, j2, rfl, hx⟩ := hrel
              obtain ⟨yr, rfl⟩ := fin hx
              clear hx
              by_cases hlt : j < k
              · have f1 := (word_at HC3.out j (by rw [HU.out]; exact hlt)).1
                have f2 := (word_at HC2.out j (by rw [HN.out]; exact hlt)).1
                rw [map_fst_at HM.out j (by rw [HL.out]; exact hlt) (by rw [HN.out]; exact hlt)] at f2
                rw [map_fst_at HUM.out j (by rw [HL.out]; exact hlt) (by rw [HU.out]; exact hlt)] at f1
                generalize l[j]'(by rw [HL.out]; exact hlt) = u at *
                go_wp2
                refine wp_region_past1 (by kernel_rfl) (by kernel_rfl) ?_
                repeat (go_big_quiet_step (fail))
                refine wpQuiet_nil ?_
                intro _
                go_wp2
                go_roundw
                case rel => exact ⟨j + 1, by omega, by go_num, isext⟩
                case measure => simp [intOf]; omega
              · go_wp2_with (go_at_call 8; refine Rets.use (alive_any _) ?_; intro _)
                go_ret
                exact ⟨rfl, done⟩
end Go.Proofs.Ytifjnegjjjpagaa
