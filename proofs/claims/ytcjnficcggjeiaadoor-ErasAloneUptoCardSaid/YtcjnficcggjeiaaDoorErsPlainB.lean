/- Plain laws of eras: how a phase is called. -/
import Derived.Lib.Replace
import Derived.Lib.IndexMore
import Derived.Lib.IndexBytes
import Derived.Test.YtcjnficcggjeiaaDoorMomPlainH
import Derived.Test.YtcjnficcggjeiaaDoorRulWalkW
import Derived.Test.YtcjnficcggjeiaaDoorSrcPlainB
set_option linter.unusedVariables false
set_option linter.unusedSimpArgs false
namespace Go.Proofs.YtcjnficcggjeiaaDoor
namespace Ers
open Go
/-- A number's digits, none of 0. -/
def decN (n : Nat) : List UInt8 := if n = 0 then [] else Mom.dec n
theorem decN_zero : decN 0 = [] := rfl
theorem decN_small {n : Nat} (h0 : n ≠ 0) (h : n < 10) : decN n = [Mom.dig n] := by unfold decN; rw [if_neg h0, Mom.dec_small h]
theorem decN_step {n : Nat} (h : n ≠ 0) : decN n = decN (n / 10) ++ [Mom.dig n] := by
  by_cases h1 : n < 10
  · rw [decN_small h h1, show n / 10 = 0 by omega]; rfl
  · unfold decN; rw [if_neg h, if_neg (by omega), Mom.dec_big h1]
/-- Two at least. -/
def twoL (n : Nat) : List UInt8 := if n < 10 then [48, Mom.dig n] else Mom.dec n
/-- The digits not yet written, two at least, ahead of those that are. -/
def un2 (m : Nat) (l : List UInt8) : List UInt8 := List.replicate (2 - l.length - (decN m).length) 48 ++ decN m ++ l
theorem un2_start (n : Nat) : un2 n [] = twoL n := by
  unfold un2 twoL
  by_cases h0 : n = 0
  · subst h0; rfl
  · by_cases h : n < 10
    · rw [if_pos h, decN_small h0 h]; rfl
    · rw [if_neg h]
      unfold decN; rw [if_neg h0]
      have h2 : 2 ≤ (Mom.dec n).length := by
        rw [Mom.dec_big h, List.length_append]
        have := List.length_pos_iff.2 (Mom.dec_ne (n / 10))
        simp; omega
      rw [show 2 - ([] : List UInt8).length - (Mom.dec n).length = 0 by simp; omega]
      simp
theorem un2_end {l : List UInt8} (h : 2 ≤ l.length) : un2 0 l = l := by
  unfold un2; rw [decN_zero, show 2 - l.length - ([] : List UInt8).length = 0 by omega]; rfl
theorem un2_step {m : Nat} {l : List UInt8} (h : ¬ (m = 0 ∧ 2 ≤ l.length)) : un2 m l = un2 (m / 10) (Mom.dig m :: l) := by
  unfold un2
  by_cases h0 : m = 0
  · subst h0
    have hl : l.length < 2 := by omega
    rw [show 0 / 10 = 0 from rfl, decN_zero, show Mom.dig 0 = 48 from rfl]
    simp only [List.length_nil, List.length_cons, Nat.sub_zero, List.append_nil]
    rw [show 2 - l.length = (2 - (l.length + 1)) + 1 by omega, List.replicate_succ', show 2 - (l.length + 1) = 2 - (l.length + 1) from rfl]
    simp
  · have e : 2 - l.length - (decN (m / 10) ++ [Mom.dig m]).length = 2 - (Mom.dig m :: l).length - (decN (m / 10)).length := by simp; omega
    rw [decN_step h0, e]
    simp
theorem twoL_big {n : Nat} (h : ¬ n < 10) : twoL n = decN n := by unfold twoL decN; rw [if_neg h, if_neg (by omega)]
theorem twoL_len (n : Nat) (h : n < 10 ^ 18) : (twoL n).length ≤ 18 := by
  unfold twoL
  split
  · simp
  · exact Mom.dec_len 18 n (by omega) h
theorem dec_ge : ∀ (k n : Nat), 10 ^ k ≤ n → k + 1 ≤ (Mom.dec n).length
  | 0, n, _ => List.length_pos_iff.2 (Mom.dec_ne n)
  | k + 1, n, h => by
    have hp : 1 ≤ 10 ^ k := Nat.pos_of_ne_zero (by simp)
    rw [Nat.pow_succ] at h
    rw [Mom.dec_big (by omega), List.length_append]
    have := dec_ge k (n / 10) (by omega)
    simp; omega
/-- An offset's parts: hours, minutes, seconds, without the sign. -/
def toldL (n : Int) : List UInt8 :=
  (if n < 0 then 45 else 43) :: (twoL (n.natAbs / 3600) ++ (if n.natAbs % 3600 = 0 then [] else twoL (n.natAbs / 60 % 60)) ++ (if n.natAbs % 60 = 0 then [] else twoL (n.natAbs % 60)))
/-- Where a text stands in another one. -/
def at2 (fm : List UInt8) (c : UInt8) : Int := Lib.index fm [37, c]
def put (fm mid : List UInt8) (i : Nat) : List UInt8 := fm.take i ++ mid ++ fm.drop (i + 2)
def abbrL (fm lt : List UInt8) (off save : Int) : List UInt8 :=
  if 0 ≤ at2 fm 115 then put fm lt (at2 fm 115).toNat
  else if 0 ≤ at2 fm 122 then put fm (toldL off) (at2 fm 122).toNat
  else if 0 ≤ Lib.index fm [47] then (if save = 0 then fm.take (Lib.index fm [47]).toNat else fm.drop ((Lib.index fm [47]).toNat + 1))
  else fm
def abbrB (fm lt : ByteArray) (off save : Int) : ByteArray := ⟨(abbrL fm.data.toList lt.data.toList off save).toArray⟩
theorem abbr_s {fm lt : List UInt8} {off save : Int} {i : Nat} (h : at2 fm 115 = i) : abbrL fm lt off save = put fm lt i := by
  unfold abbrL; rw [if_pos (by omega), h]; rfl
theorem abbr_z {fm lt : List UInt8} {off save : Int} {i : Nat} (h0 : at2 fm 115 < 0) (h : at2 fm 122 = i) : abbrL fm lt off save = put fm (toldL off) i := by
  unfold abbrL; rw [if_neg (by omega), if_pos (by omega), h]; rfl
theorem abbr_0 {fm lt : List UInt8} {off save : Int} {i : Nat} (h0 : at2 fm 115 < 0) (h1 : at2 fm 122 < 0) (h : Lib.index fm [47] = i) (hs : save = 0) : abbrL fm lt off save = fm.take i := by
  unfold abbrL; rw [if_neg (by omega), if_neg (by omega), if_pos (by omega), if_pos hs, h]; rfl
theorem abbr_1 {fm lt : List UInt8} {off save : Int} {i : Nat} (h0 : at2 fm 115 < 0) (h1 : at2 fm 122 < 0) (h : Lib.index fm [47] = i) (hs : ¬ save = 0) : abbrL fm lt off save = fm.drop (i + 1) := by
  unfold abbrL; rw [if_neg (by omega), if_neg (by omega), if_pos (by omega), if_neg hs, h]; rfl
theorem abbr_n {fm lt : List UInt8} {off save : Int} (h0 : at2 fm 115 < 0) (h1 : at2 fm 122 < 0) (h : Lib.index fm [47] < 0) : abbrL fm lt off save = fm := by
  unfold abbrL; rw [if_neg (by omega), if_neg (by omega), if_neg (by omega)]
theorem at2_cases (fm : List UInt8) (c : UInt8) : (at2 fm c < 0 ∧ at2 fm c = -1) ∨ ∃ i : Nat, at2 fm c = i ∧ i + 2 ≤ fm.length := by
  have h1 := Lib.index_ge fm [37, c]
  have h2 := Lib.index_room fm [37, c]
  unfold at2
  by_cases h : 0 ≤ Lib.index fm [37, c]
  · right
    refine ⟨(Lib.index fm [37, c]).toNat, by omega, ?_⟩
    have := h2 h
    simp at this; omega
  · left; omega
theorem slash_cases (fm : List UInt8) : (Lib.index fm [47] < 0 ∧ Lib.index fm [47] = -1) ∨ ∃ i : Nat, Lib.index fm [47] = i ∧ i + 1 ≤ fm.length := by
  have h1 := Lib.index_ge fm [47]
  have h2 := Lib.index_room fm [47]
  by_cases h : 0 ≤ Lib.index fm [47]
  · right
    refine ⟨(Lib.index fm [47]).toNat, by omega, ?_⟩
    have := h2 h
    simp at this; omega
  · left; omega
/-- What the library replaces. -/
theorem replace_one {fm lt : List UInt8} {c : UInt8} {i : Nat} (h : at2 fm c = i) (hlen : i + 2 ≤ fm.length) : Lib.replace fm [37, c] lt 1 = put fm lt i := by
  unfold at2 at h
  unfold Lib.replace
  split
  · rename_i he
    have he : [37, c] = lt := by simpa using he
    subst he
    unfold put
    rcases Lib.index_spec fm [37, c] with ⟨h1, _⟩ | ⟨j, h1, h2, h3, _⟩
    · omega
    · obtain rfl : j = i := by omega
      unfold Lib.occAt at h3
      obtain ⟨t, ht⟩ := List.isPrefixOf_iff_prefix.1 h3
      have h5 : fm.drop (j + 2) = t := by
        rw [← List.drop_drop, ← ht]; rfl
      rw [h5, List.append_assoc, ht, List.take_append_drop]
  · have hc : Lib.replaceNum fm [37, c] 1 = 1 := by
      unfold Lib.replaceNum
      have : 1 ≤ Lib.count fm [37, c] := by
        rw [Lib.count_hit (by simp) h]; omega
      rw [if_neg (by omega)]; rfl
    rw [hc, Lib.replaceK_hit _ _ _ _ i h]
    unfold put Lib.replaceK
    rfl
theorem count_le {fm : List UInt8} {c : UInt8} : Lib.count fm [37, c] ≤ fm.length := by
  have := Lib.countB_le ⟨#[37, c]⟩ (by simp [ByteArray.size]) fm.length ⟨fm.toArray⟩ (by simp [ByteArray.size])
  simpa [Lib.countB, ByteArray.size] using this
theorem put_len {fm mid : List UInt8} {i : Nat} (h : i + 2 ≤ fm.length) : (put fm mid i).length = fm.length + mid.length - 2 := by
  unfold put; simp; omega
end Ers
end Go.Proofs.YtcjnficcggjeiaaDoor
set_option linter.unusedVariables false
set_option linter.unusedSimpArgs false
namespace Go.Proofs.YtcjnficcggjeiaaDoor
/-- How clocks stand. -/
structure Phase where
  off : Int
  s : Int
  ab : ByteArray
namespace Ers
def setOf (l : List Rule) (nm : ByteArray) : List Rule := l.filter (fun x => x.nm.data.toList == nm.data.toList)
theorem set_all {l : List Rule} (h : Rul.allB l = true) (nm : ByteArray) : Rul.allB (setOf l nm) = true := by
  unfold Rul.allB setOf at *
  rw [List.all_eq_true] at *
  intro x hx
  exact h x (List.mem_filter.1 hx).1
theorem set_le (l : List Rule) (nm : ByteArray) : (setOf l nm).length ≤ l.length := List.length_filter_le _ _
theorem set_yes {l : List Rule} {j : Nat} {nm : ByteArray} (h : j < l.length) (he : (l[j].nm.data.toList == nm.data.toList) = true) : setOf (l.take (j + 1)) nm = setOf (l.take j) nm ++ [l[j]] := by
  unfold setOf
  rw [List.take_succ_eq_append_getElem h, List.filter_append]
  congr 1
  exact List.filter_cons_of_pos (l := []) he
theorem set_no {l : List Rule} {j : Nat} {nm : ByteArray} (h : j < l.length) (he : (l[j].nm.data.toList == nm.data.toList) = false) : setOf (l.take (j + 1)) nm = setOf (l.take j) nm := by
  unfold setOf
  rw [List.take_succ_eq_append_getElem h, List.filter_append]
  have : List.filter (fun x : Rule => x.nm.data.toList == nm.data.toList) [l[j]] = [] := List.filter_cons_of_neg (l := []) (by rw [he]; simp)
  rw [this, List.append_nil]
def forceT (l : List Rule) (x : Era) (t : Int) : Turn := Rul.forceD (setOf l x.rs) x.off t
def saveD (l : List Rule) (x : Era) (t : Int) : Int := if x.kd = 2 then (forceT l x t).s else x.s
def letD (l : List Rule) (x : Era) (t : Int) : ByteArray := if x.kd = 2 then (forceT l x t).l else ⟨#[]⟩
def locD (x : Era) : Int := locV x.m x.k x.wd x.d x.t x.r x.y
def aheadS (l : List Rule) (x : Era) : Int := if x.kd = 2 then (Rul.orNo (Rul.aheadD (setOf l x.rs) (locD x))).s else x.s
def endD (l : List Rule) (x : Era) : Int := if x.r = 2 then locD x else if x.r = 1 then locD x - x.off else locD x - x.off - aheadS l x
def phaseD (l : List Rule) (x : Era) (t : Int) : Phase := ⟨x.off + saveD l x t, saveD l x t, abbrB x.fm (letD l x t) (x.off + saveD l x t) (saveD l x t)⟩
/-- The first era whose end is behind a time. -/
def atD (l : List Rule) (t : Int) : List Era → Option Era
  | [] => none
  | x :: r => if x.til = false ∨ t < endD l x then some x else atD l t r
theorem at_drop (l : List Rule) (t : Int) (es : List Era) (j : Nat) (h : j < es.length) : atD l t (es.drop j) = if es[j].til = false ∨ t < endD l es[j] then some es[j] else atD l t (es.drop (j + 1)) := by
  rw [List.drop_eq_getElem_cons h]; rfl
theorem era_all {es : List Era} (h : Src.erasB es = true) : ∀ x ∈ es, Src.eraB x = true := by
  induction es with
  | nil => intro x hx; cases hx
  | cons y l ih =>
    unfold Src.erasB at h
    simp only [Bool.and_eq_true] at h
    intro x hx
    rcases List.mem_cons.1 hx with rfl | hx
    · exact h.1.1
    · exact ih h.2 x hx
theorem last_till : ∀ {es : List Era}, Src.erasB es = true → ∀ (j : Nat) (h : j < es.length), es[j].til = decide (j + 1 < es.length)
  | [], _, j, h => by simp at h
  | y :: l, hb, j, h => by
    unfold Src.erasB at hb
    simp only [Bool.and_eq_true] at hb
    cases j with
    | zero =>
      have := hb.1.2
      rw [beq_iff_eq] at this
      show y.til = _
      rw [this, Bool.eq_iff_iff]; simp [List.length_pos_iff]
    | succ j =>
      have hj : j < l.length := by simpa using h
      have := last_till hb.2 j hj
      show l[j].til = _
      rw [this]; simp
theorem at_some {l : List Rule} {t : Int} : ∀ {es : List Era}, es ≠ [] → Src.erasB es = true → ∃ x ∈ es, atD l t es = some x
  | [], h, _ => absurd rfl h
  | [y], _, hb => by
    refine ⟨y, by simp, ?_⟩
    unfold Src.erasB at hb
    simp only [Bool.and_eq_true] at hb
    have := hb.1.2
    rw [beq_iff_eq] at this
    unfold atD
    rw [if_pos (.inl (by rw [this]; rfl))]
  | y :: z :: r, _, hb => by
    unfold Src.erasB at hb
    simp only [Bool.and_eq_true] at hb
    obtain ⟨x, hx, e⟩ := at_some (l := l) (t := t) (es := z :: r) (by simp) hb.2
    unfold atD
    split
    · exact ⟨y, by simp, rfl⟩
    · exact ⟨x, by simp at hx ⊢; exact .inr hx, e⟩
/-- What is known of an era that may be. -/
theorem era_parts {x : Era} (h : Src.eraB x = true) : -86400 < x.off ∧ x.off < 86400 ∧ Src.fmtB x.fm.data.toList = true ∧ (x.kd = 0 ∧ x.s = 0 ∨ x.kd = 1 ∧ -43200 ≤ x.s ∧ x.s ≤ 43200 ∨ x.kd = 2 ∧ x.s = 0) ∧
    (x.til = true ∧ 1 ≤ x.y ∧ x.y ≤ 9999 ∧ Mom.rightB x.m x.k x.wd x.d x.t x.r = true ∨ x.til = false ∧ x.y = 0 ∧ x.m = 0 ∧ x.k = 0 ∧ x.wd = 0 ∧ x.d = 0 ∧ x.t = 0 ∧ x.r = 0) := by
  unfold Src.eraB Src.offB Src.kindB Src.endB Src.saveB Src.yearB at h
  simp only [Bool.and_eq_true, decide_eq_true_eq] at h
  obtain ⟨⟨⟨h1, h2⟩, h3⟩, h4⟩ := h
  refine ⟨h1.1, h1.2, h2, ?_, ?_⟩
  · split at h3
    · left; simp at h3; exact ⟨by assumption, h3.1⟩
    · split at h3
      · right; left; simp at h3; exact ⟨by assumption, h3.1.1, h3.1.2⟩
      · split at h3
        · right; right; simp at h3; exact ⟨by assumption, h3.1⟩
        · cases h3
  · split at h4
    · left; simp at h4; exact ⟨by assumption, h4.1.1, h4.1.2, h4.2⟩
    · right; rename_i hn; simp at h4 hn; obtain ⟨a, ⟨⟨⟨⟨b, c⟩, d⟩, e⟩, f⟩, g⟩ := h4; exact ⟨hn, a, b, c, d, e, f, g⟩
theorem loc_bd (m k wd d t r y : Int) (h : y ≤ 9999) : -9000000000000 ≤ locV m k wd d t r y ∧ locV m k wd d t r y ≤ 9000000000000 := by
  unfold locV
  split
  · rename_i hb
    obtain ⟨hr, y1, y2, hok, hi⟩ := Mom.onB_all hb
    obtain ⟨m1, m2, t1, t2, -, -, hk⟩ := Mom.right_all hr
    have hl := Civ.lp_01 y
    obtain ⟨l1, l2⟩ := Civ.mlen_bd y m
    have l3 := Civ.mlen_lo y m m1 m2
    have l4 := Civ.cum_le y m m1 m2
    obtain ⟨c1, c2, c3⟩ := Civ.cum_bd y m m1 (by omega)
    have hn : Civ.num y m 1 = Civ.jan y + Civ.cum y m := by unfold Civ.num; omega
    have hj1 : -719528 ≤ Civ.jan y := by unfold Civ.jan; omega
    have hlo : Civ.jan y - 6 ≤ Mom.onI m k wd d y := by
      unfold Mom.onI
      rw [hn]
      have b1 := Mom.back_bd (Civ.jan y + Civ.cum y m + Civ.mlen y m - 1) wd
      have b2 := Mom.back_bd (Civ.jan y + Civ.cum y m + d + 5) wd
      have b3 := Mom.back_bd (Civ.jan y + Civ.cum y m + d - 1) wd
      rcases hk with ⟨h, _⟩ | ⟨h, _⟩ | ⟨h, _⟩ | ⟨h, _⟩
      · rw [Mom.fall_0 h]; omega
      · rw [Mom.fall_1 h]; omega
      · rw [Mom.fall_2 h]; omega
      · rw [Mom.fall_3 h]; omega
    omega
  · omega
theorem ahead_bd {l : List Rule} (hA : Rul.allB l = true) {x : Era} (hx : Src.eraB x = true) : -43200 ≤ aheadS l x ∧ aheadS l x ≤ 43200 := by
  unfold aheadS
  obtain ⟨-, -, -, hk, -⟩ := era_parts hx
  split
  · exact ahead_s (set_all hA _) _
  · omega
end Ers
end Go.Proofs.YtcjnficcggjeiaaDoor
namespace Go.Proofs.YtcjnficcggjeiaaDoor
namespace Ers
theorem latest_from {f : Rule → Option Turn} : ∀ (l : List Rule) (q : Option Turn) (t : Turn), l.foldl (fun b x => match f x with | none => b | some t => Rul.upd b t) q = some t → q = some t ∨ ∃ x ∈ l, f x = some t := by
  intro l
  induction l with
  | nil => intro q t h; exact .inl h
  | cons x l ih =>
    intro q t h
    rw [List.foldl_cons] at h
    rcases ih _ t h with h1 | ⟨y, hy, e⟩
    · cases hx : f x with
      | none => rw [hx] at h1; exact .inl h1
      | some u =>
        rw [hx] at h1
        simp only at h1
        cases q with
        | none => exact .inr ⟨x, by simp, by rw [hx]; exact h1⟩
        | some b =>
          unfold Rul.upd at h1
          simp only at h1
          split at h1
          · exact .inr ⟨x, by simp, by rw [hx]; exact h1⟩
          · exact .inl h1
    · exact .inr ⟨y, List.mem_cons_of_mem _ hy, e⟩
theorem first_from : ∀ (l : List Rule) (q : Option Turn) (t : Turn), l.foldl Rul.stepE q = some t → q = some t ∨ ∃ x ∈ l, t.l = x.l := by
  intro l
  induction l with
  | nil => intro q t h; exact .inl h
  | cons x l ih =>
    intro q t h
    rw [List.foldl_cons] at h
    rcases ih _ t h with h1 | ⟨y, hy, e⟩
    · rcases first_cases q x with ⟨-, e⟩ | ⟨-, -, e⟩ | ⟨-, -, -, e⟩ | ⟨-, -, -, -, e⟩ | ⟨-, -, -, -, e⟩
      · rw [e] at h1; exact .inl h1
      · rw [e] at h1; exact .inl h1
      · rw [e] at h1; injection h1 with h1; subst h1; exact .inr ⟨x, by simp, rfl⟩
      · rw [e] at h1; injection h1 with h1; subst h1; exact .inr ⟨x, by simp, rfl⟩
      · rw [e] at h1; exact .inl h1
    · exact .inr ⟨y, List.mem_cons_of_mem _ hy, e⟩
/-- Whence what is in force comes. -/
theorem force_from (l : List Rule) (off t : Int) : ((Rul.forceD l off t).s = 0 ∧ (Rul.forceD l off t).l = ⟨#[]⟩) ∨ ∃ x ∈ l, ((Rul.forceD l off t).s = x.s ∨ (Rul.forceD l off t).s = 0) ∧ (Rul.forceD l off t).l = x.l := by
  unfold Rul.forceD
  cases h : Rul.lastD l off t with
  | some u =>
    rcases latest_from l none u h with h1 | ⟨x, hx, e⟩
    · cases h1
    · right
      unfold Rul.lastOf at e
      obtain ⟨y, -, rfl⟩ := Option.map_eq_some_iff.1 e
      exact ⟨x, hx, .inl rfl, rfl⟩
  | none =>
    simp only
    cases h2 : Rul.firstG l with
    | none => exact .inl ⟨by simp, rfl⟩
    | some u =>
      rcases first_from l none u h2 with h1 | ⟨x, hx, e⟩
      · cases h1
      · exact .inr ⟨x, hx, .inr (by simp), e⟩
theorem force_bd {l : List Rule} (hA : Rul.allB l = true) (off t : Int) : -43200 ≤ (Rul.forceD l off t).s ∧ (Rul.forceD l off t).s ≤ 43200 := by
  rcases force_from l off t with ⟨h, _⟩ | ⟨x, hx, h, _⟩
  · omega
  · have hr : Rul.rightB x = true := by unfold Rul.allB at hA; rw [List.all_eq_true] at hA; exact hA x hx
    obtain ⟨-, -, -, s1, s2, -⟩ := rule_parts hr
    omega
theorem save_bd {l : List Rule} (hA : Rul.allB l = true) {x : Era} (hx : Src.eraB x = true) (t : Int) : -43200 ≤ saveD l x t ∧ saveD l x t ≤ 43200 := by
  unfold saveD forceT
  obtain ⟨-, -, -, hk, -⟩ := era_parts hx
  split
  · exact force_bd (set_all hA _) _ _
  · omega
theorem letter_le {l : List UInt8} (h : Src.letterB l = true) : l.length ≤ 8 := by
  unfold Src.letterB Src.madeB at h
  cases l with
  | nil => simp
  | cons c l => simp at h; simp; omega
theorem size_len (s : ByteArray) : s.data.toList.length = s.size := Array.length_toList
theorem let_len {l : List Rule} (hL : ∀ x ∈ l, Src.letterB x.l.data.toList = true) (x : Era) (t : Int) : (letD l x t).size ≤ 8 := by
  unfold letD forceT
  split
  · rcases force_from (setOf l x.rs) x.off t with ⟨_, h⟩ | ⟨y, hy, _, h⟩
    · rw [h]; simp [ByteArray.size]
    · rw [h]
      have := letter_le (hL y (List.mem_filter.1 hy).1)
      rwa [size_len] at this
  · simp [ByteArray.size]
theorem fmt_len {l : List UInt8} (h : Src.fmtB l = true) : l.length ≤ 20 := by
  unfold Src.fmtB Src.madeB at h
  simp at h; omega
end Ers
end Go.Proofs.YtcjnficcggjeiaaDoor
