/- Walks of sources. -/
import Derived.Test.YtdhbgelijjlifaaGreatDoorSrcSupB
import Derived.Test.YtdhbgelijjlifaaGreatDoorSrcSupJ
import Derived.Test.YtdhbgelijjlifaaGreatDoorSrcSupA
import Derived.Test.YtdhbgelijjlifaaGreatDoorFieWalkH
import Derived.Test.YtdhbgelijjlifaaGreatDoorMomWalkZH
import Derived.Test.YtdhbgelijjlifaaGreatDoorMomPlainI
import Derived.Test.YtdhbgelijjlifaaGreatDoorSrcPrC
import Derived.Test.YtdhbgelijjlifaaGreatDoorSrcLawB
import Derived.Test.YtdhbgelijjlifaaGreatDoorSrcDoor
import Derived.Lib.LaidTab
import Derived.Test.YtdhbgelijjlifaaGreatDoorSrcWalkJ
import Derived.Test.YtdhbgelijjlifaaGreatDoorSrcSame
set_option linter.unusedVariables false
set_option linter.unusedSimpArgs false
namespace Go.Proofs.YtdhbgelijjlifaaGreatDoor
open Go.RowKit
namespace Fie
theorem get_mid {s : ByteArray} {pre rest : List UInt8} {c : UInt8} (h : s.data.toList = pre ++ c :: rest) : ∃ hl : pre.length < s.size, s[pre.length] = c := by
 have hz : s.size = s.data.toList.length := by simp
 have hl : pre.length < s.size := by rw [hz, h]; simp
 refine ⟨hl, ?_⟩
 have e : s[pre.length] = s.data.toList[pre.length]'(by rw [← hz]; exact hl) := rfl
 rw [e]
 simp only [h]
 simp
theorem size_of {s : ByteArray} {l : List UInt8} (h : s.data.toList = l) : s.size = l.length := by rw [← h]; simp
theorem stop_run (p : UInt8 → Bool) (s : ByteArray) : ∀ (mid pre rest : List UInt8), s.data.toList = pre ++ mid ++ rest → (∀ c ∈ mid, p c = true) → (∀ c r, rest = c :: r → p c = false) → stop p s pre.length = pre.length + mid.length
 | [], pre, rest, h, _, h2 => by
   cases rest with
   | nil =>
     have := size_of h
     rw [stop_end p s _ (by rw [this]; simp)]; simp
   | cons c r =>
     obtain ⟨hl, hc⟩ := get_mid (s := s) (pre := pre) (rest := r) (c := c) (by simpa using h)
     rw [stop_no p s _ hl (by rw [hc]; exact h2 c r rfl)]; simp
 | c :: mid, pre, rest, h, h1, h2 => by
   obtain ⟨hl, hc⟩ := get_mid (s := s) (pre := pre) (rest := mid ++ rest) (c := c) (by simpa using h)
   rw [stop_yes p s _ hl (by rw [hc]; exact h1 c (by simp))]
   have := stop_run p s mid (pre ++ [c]) rest (by simpa using h) (fun x hx => h1 x (by simp [hx])) h2
   simp only [List.length_append, List.length_cons, List.length_nil, Nat.zero_add] at this ⊢
   omega
theorem stop_ahead (p : UInt8 → Bool) (s : ByteArray) : ∀ (f k j : Nat) (_ : s.size - k = f) (_ : k ≤ j) (hj : j < s.size), j < stop p s k → p s[j] = true
 | 0, k, j, hf, h, hj, hs => by omega
 | f + 1, k, j, hf, h, hj, hs => by
   have hk : k < s.size := by omega
   cases hp : p s[k]
   · rw [stop_no p s k hk hp] at hs; omega
   · by_cases e : k = j
     · subst e; exact hp
     · rw [stop_yes p s k hk hp] at hs
       exact stop_ahead p s f (k + 1) j (by omega) (by omega) hj hs
theorem all_of_stop (p : UInt8 → Bool) (s : ByteArray) (h : stop p s 0 = s.size) : ∀ c ∈ s.data.toList, p c = true := by
 intro c hc
 obtain ⟨i, hi, rfl⟩ := List.getElem_of_mem hc
 have hi' : i < s.size := by simpa using hi
 exact stop_ahead p s _ 0 i rfl (by omega) hi' (by omega)
theorem ok_all {x : ByteArray} (h : fieldOk x = true) : ∀ c ∈ x.data.toList, within c = true := all_of_stop _ _ (of_decide_eq_true h)
theorem plain_all {x : ByteArray} (h : plain x = true) : x.size ≠ 0 ∧ ∀ c ∈ x.data.toList, bare c = true := by
 have := of_decide_eq_true h
 exact ⟨this.1, all_of_stop _ _ this.2⟩
def Sep (rest : List UInt8) : Prop := rest = [] ∨ ∃ c r, rest = c :: r ∧ (blank c = true ∨ (c.toNat : Int) = 35)
theorem blank_not_bare {c : UInt8} (h : blank c = true) : bare c = false := by simp [blank] at h; simp [bare]; omega
theorem tail_ok {s : ByteArray} {pre rest : List UInt8} (h : s.data.toList = pre ++ rest) (hs : Sep rest) : tailOk s pre.length = true := by
 unfold tailOk
 rcases hs with rfl | ⟨c, r, rfl, hc⟩
 · have := size_of h
   rw [dif_neg (by rw [this]; simp)]
 · obtain ⟨hl, e⟩ := get_mid h
   rw [dif_pos hl, e]
   rcases hc with hc | hc
   · rw [hc]; simp
   · rw [decide_eq_true hc]; rfl
theorem ext_mid {s : ByteArray} {pre mid rest : List UInt8} (h : s.data.toList = pre ++ mid ++ rest) : (s.extract pre.length (pre.length + mid.length)).data.toList = mid := by
 rw [Lib.extract_data, h, List.append_assoc, List.drop_left, show pre.length + mid.length - pre.length = mid.length by omega, List.take_left]
theorem out_plain_list {x : ByteArray} (h : plain x = true) : (fieldOut x).data.toList = x.data.toList := by rw [out_plain h]
theorem out_quoted_list {x : ByteArray} (h : plain x = false) : (fieldOut x).data.toList = 34 :: x.data.toList ++ [34] := by rw [out_quoted h]; simp [ByteArray.data_append]
theorem cut_field {s x : ByteArray} {pre rest : List UInt8} {cnt : Nat} (h : s.data.toList = pre ++ (fieldOut x).data.toList ++ rest) (hx : fieldOk x = true) (hs : Sep rest) (hc : cnt < 16) :
 ∃ (hl : pre.length < s.size) (lo hi : Nat), ¬ (s[pre.length].toNat : Int) = 35 ∧ cut s pre.length cnt = good lo hi (pre.length + (fieldOut x).size) ∧ s.extract lo hi = x := by
 have hsep : ∀ c r, rest = c :: r → bare c = false := by
  intro c r e
  rcases hs with rfl | ⟨c', r', rfl, hc⟩
  · cases e
  · cases e
    rcases hc with hc | hc
    · exact blank_not_bare hc
    · simp [bare]; omega
 cases hp : plain x
 · rw [out_quoted_list hp] at h
   have hz : (fieldOut x).size = x.data.toList.length + 2 := by
    have := size_of (out_quoted_list hp); simp at this ⊢; omega
   obtain ⟨hl, e⟩ := get_mid (s := s) (pre := pre) (rest := x.data.toList ++ [34] ++ rest) (c := 34) (by simpa using h)
   have hw : stop within s (pre.length + 1) = pre.length + 1 + x.data.toList.length := by
    have := stop_run within s x.data.toList (pre ++ [34]) ([34] ++ rest) (by simpa using h) (ok_all hx) (by intro c r e; simp at e; rw [← e.1]; rfl)
    simpa using this
   obtain ⟨hl2, e2⟩ := get_mid (s := s) (pre := pre ++ [34] ++ x.data.toList) (rest := rest) (c := 34) (by simpa using h)
   have hlen : (pre ++ [34] ++ x.data.toList).length = pre.length + 1 + x.data.toList.length := by simp; omega
   simp only [hlen] at hl2 e2
   have ht := tail_ok (s := s) (pre := pre ++ [34] ++ x.data.toList ++ [34]) (rest := rest) (by simpa using h) hs
   have hlen2 : (pre ++ [34] ++ x.data.toList ++ [34]).length = pre.length + 1 + x.data.toList.length + 1 := by simp; omega
   rw [hlen2] at ht
   refine ⟨hl, pre.length + 1, pre.length + 1 + x.data.toList.length, by rw [e]; decide, ?_, ?_⟩
   · unfold cut
     rw [dif_pos hl, if_pos (by rw [e]; decide), if_neg (by omega)]
     simp only [hw]
     rw [dif_pos hl2, if_pos (by rw [e2]; decide), if_pos ht, hz, show pre.length + (x.data.toList.length + 2) = pre.length + 1 + x.data.toList.length + 1 by omega]
   · apply ba_eq
     have := ext_mid (s := s) (pre := pre ++ [34]) (mid := x.data.toList) (rest := [34] ++ rest) (by simpa using h)
     simpa using this
 · obtain ⟨hne, hall⟩ := plain_all hp
   rw [out_plain_list hp] at h
   have hz : (fieldOut x).size = x.data.toList.length := by
    have := size_of (out_plain_list hp); simpa using this
   obtain ⟨c, r, hx2⟩ : ∃ c r, x.data.toList = c :: r := by
    cases hd : x.data.toList with
    | nil => exact absurd (by have := size_of hd; simpa using this) hne
    | cons c r => exact ⟨c, r, rfl⟩
   have hcb : bare c = true := hall c (by rw [hx2]; simp)
   obtain ⟨hl, e⟩ := get_mid (s := s) (pre := pre) (rest := r ++ rest) (c := c) (by rw [h, hx2]; simp)
   have hw := stop_run bare s x.data.toList pre rest h hall hsep
   have ht := tail_ok (s := s) (pre := pre ++ x.data.toList) (rest := rest) h hs
   rw [List.length_append] at ht
   have hc34 : ¬ (c.toNat : Int) = 34 ∧ ¬ (c.toNat : Int) = 35 := by simp [bare] at hcb; omega
   refine ⟨hl, pre.length, pre.length + x.data.toList.length, by rw [e]; exact hc34.2, ?_, ?_⟩
   · unfold cut
     rw [dif_pos hl, if_neg (by rw [e]; exact hc34.1), if_neg (by rw [e, hcb]; simp), if_neg (by omega), hw, if_pos ht, hz]
   · apply ba_eq
     exact ext_mid h
theorem head_not_blank (x : ByteArray) : ∃ c r, (fieldOut x).data.toList = c :: r ∧ blank c = false := by
 cases hp : plain x
 · exact ⟨34, _, out_quoted_list hp, rfl⟩
 · obtain ⟨hne, hall⟩ := plain_all hp
   rw [out_plain_list hp]
   cases hd : x.data.toList with
   | nil => exact absurd (by have := size_of hd; simpa using this) hne
   | cons c r =>
     refine ⟨c, r, rfl, ?_⟩
     have := hall c (by rw [hd]; simp)
     simp [bare] at this; simp [blank]; omega
def body : List (List UInt8 × ByteArray) → List UInt8
 | [] => []
 | p :: ps => p.1 ++ (fieldOut p.2).data.toList ++ body ps
def Tail (t : List UInt8) : Prop := t = [] ∨ ∃ g r, t = g ++ 35 :: r ∧ ∀ c ∈ g, blank c = true
theorem Tail.sep {t : List UInt8} (h : Tail t) : Sep t := by
 rcases h with rfl | ⟨g, r, rfl, hg⟩
 · exact .inl rfl
 · cases g with
   | nil => exact .inr ⟨35, r, rfl, .inr rfl⟩
   | cons c g => exact .inr ⟨c, _, rfl, .inl (hg c (by simp))⟩
theorem split_body (s : ByteArray) (tail : List UInt8) (ht : Tail tail) : ∀ (ps : List (List UInt8 × ByteArray)) (pre : List UInt8) (ws : List (ByteArray × Int)),
 s.data.toList = pre ++ body ps ++ tail → (∀ p ∈ ps, (∀ c ∈ p.1, blank c = true) ∧ fieldOk p.2 = true) → (∀ p ∈ ps.tail, p.1 ≠ []) → ws.length + ps.length ≤ 16 →
 ∃ vs, run s (stop blank s pre.length) ws = (ws ++ vs, 0, 0) ∧ vs.map (·.1) = ps.map (·.2)
 | [], pre, ws, h, _, _, _ => by
   refine ⟨[], ?_, rfl⟩
   simp only [body, List.append_nil] at h ⊢
   rcases ht with rfl | ⟨g, r, rfl, hg⟩
   · have := size_of h
     rw [run_end]
     rw [stop_end blank s _ (by rw [this]; simp), this]; simp
   · rw [stop_run blank s g pre (35 :: r) (by simpa using h) hg (by intro c r' e; cases e; rfl)]
     obtain ⟨hl, e⟩ := get_mid (s := s) (pre := pre ++ g) (rest := r) (c := 35) (by simpa using h)
     rw [List.length_append] at hl
     simp only [List.length_append] at e
     exact run_hash s _ ws hl (by rw [e]; rfl)
 | (g, x) :: ps, pre, ws, h, h1, h2, h3 => by
   obtain ⟨hg, hx⟩ := h1 (g, x) (by simp)
   simp only [body] at h
   have hsep : Sep (body ps ++ tail) := by
    cases ps with
    | nil => exact ht.sep
    | cons p ps =>
      obtain ⟨c, r, e⟩ : ∃ c r, p.1 = c :: r := by
       cases hp : p.1 with
       | nil => exact absurd hp (h2 p (by simp))
       | cons c r => exact ⟨c, r, rfl⟩
      exact .inr ⟨c, r ++ (fieldOut p.2).data.toList ++ body ps ++ tail, by simp [body, e], .inl ((h1 p (by simp)).1 c (by rw [e]; simp))⟩
   obtain ⟨c, r, hc, hcb⟩ := head_not_blank x
   rw [stop_run blank s g pre ((fieldOut x).data.toList ++ body ps ++ tail) (by simpa using h) hg (by intro c' r' e; rw [hc] at e; simp at e; rw [← e.1]; exact hcb)]
   obtain ⟨hl, lo, hi, n35, hcut, hext⟩ := cut_field (s := s) (x := x) (pre := pre ++ g) (rest := body ps ++ tail) (cnt := ws.length) (by simpa using h) hx hsep (by simp at h3; omega)
   simp only [List.length_append] at hl hcut n35
   rw [run_good s _ ws lo hi _ hl n35 hcut, hext]
   have hpos : pre.length + g.length + (fieldOut x).size = (pre ++ g ++ (fieldOut x).data.toList).length := by simp; omega
   rw [hpos]
   obtain ⟨vs, hv, hm⟩ := split_body s tail ht ps (pre ++ g ++ (fieldOut x).data.toList) (ws ++ [(x, ((pre.length + g.length : Nat) : Int))]) (by simpa using h) (fun p hp => h1 p (by simp [hp])) (fun p hp => h2 p (by cases ps with | nil => cases hp | cons a b => simp at hp ⊢; exact .inr hp)) (by simp at h3 ⊢; omega)
   exact ⟨(x, ((pre.length + g.length : Nat) : Int)) :: vs, by rw [hv]; simp, by simp [hm]⟩
def spaced : List ByteArray → List (List UInt8 × ByteArray)
 | [] => []
 | x :: l => ([], x) :: l.map fun y => ([32], y)
theorem join_cons2 (a b : List UInt8) (r : List (List UInt8)) (sep : List UInt8) : Lib.join (a :: b :: r) sep = a ++ sep ++ Lib.join (b :: r) sep := by simp [Lib.join, List.intercalate, List.intersperse]
theorem body_map (x : ByteArray) : ∀ l : List ByteArray, (fieldOut x).data.toList ++ body (l.map fun y => ([32], y)) = Lib.join (((x :: l).map fieldOut).map (·.data.toList)) [32]
 | [] => by simp [body, Lib.join_one]
 | y :: l => by
   have ih := body_map y l
   simp only [List.map_cons] at ih ⊢
   rw [join_cons2, ← ih]
   simp [body]
theorem body_joined (l : List ByteArray) : body (spaced l) = (joined l).data.toList := by
 cases l with
 | nil => rfl
 | cons x l =>
   show [] ++ (fieldOut x).data.toList ++ body (l.map fun y => ([32], y)) = _
   rw [List.nil_append, body_map]
   simp [joined]
theorem spaced_map (l : List ByteArray) : (spaced l).map (·.2) = l := by
 cases l with
 | nil => rfl
 | cons x l =>
   simp only [spaced, List.map_cons, List.map_map]
   congr 1
   exact List.map_id l
theorem split_joined (l : List ByteArray) (ha : allOk l = true) (hn : l.length ≤ 16) : ∃ vs, run (joined l) (stop blank (joined l) 0) [] = (vs, 0, 0) ∧ vs.map (·.1) = l := by
 have hok : ∀ x ∈ l, fieldOk x = true := by unfold allOk at ha; exact List.all_eq_true.1 ha
 obtain ⟨vs, h1, h2⟩ := split_body (joined l) [] (.inl rfl) (spaced l) [] [] (by rw [body_joined]; simp)
  (fun p hp => by
    cases l with
    | nil => cases hp
    | cons x l =>
      simp only [spaced, List.mem_cons, List.mem_map] at hp
      rcases hp with rfl | ⟨y, hy, rfl⟩
      · exact ⟨by simp, hok x (by simp)⟩
      · exact ⟨by intro c hc; simp at hc; subst hc; rfl, hok y (by simp [hy])⟩)
  (fun p hp => by
    cases l with
    | nil => cases hp
    | cons x l =>
      simp only [spaced, List.tail_cons, List.mem_map] at hp
      obtain ⟨y, _, rfl⟩ := hp
      simp)
  (by have := congrArg List.length (spaced_map l); simp at this ⊢; omega)
 exact ⟨vs, by simpa using h1, by rw [h2, spaced_map]⟩
end Fie
end Go.Proofs.YtdhbgelijjlifaaGreatDoor

set_option linter.unusedVariables false
set_option linter.unusedSimpArgs false
namespace Go.Proofs.YtdhbgelijjlifaaGreatDoor
open Go.RowKit
theorem parse_print (i K W D R : Nat) (t : Int) (hi : i < 12) (hK : K ≤ 3) (hW : W < 8) (hD : D ≤ 31) (hR : R ≤ 2) (t1 : -604799 ≤ t) (t2 : t ≤ 604799) (k1 : K = 0 → W = 0 ∧ 1 ≤ D) (k2 : K = 1 → D = 0) (k3 : K ≠ 0 → 1 ≤ W) (k4 : K ≠ 1 → 1 ≤ D) :
 parseR (Mom.printD (i + 1) K W D t R) = .inr ⟨(i : Int) + 1, K, W, D, t, R⟩ := by
 have e1 := Mom.month_back (m := i + 1) (by omega) (by omega)
 have e2 := Mom.day_back (k := K) (wd := W) (d := D) hK (fun h => ⟨k3 h, by omega⟩) (fun h => (k1 h).1) (fun h => ⟨k4 h, hD⟩) k2
 have e3 := Mom.clock_back t1 t2 hR
 rw [Mom.clock_eq] at e3
 unfold parseR Mom.printD
 rw [if_neg (by simp)]
 simp only [contR, e1, e2, e3]
 rw [if_neg (by omega)]
 rfl
end Go.Proofs.YtdhbgelijjlifaaGreatDoor

set_option linter.unusedVariables false
set_option linter.unusedSimpArgs false
namespace Go.Proofs.YtdhbgelijjlifaaGreatDoor
open Go.RowKit Go.Shelf
namespace Src
theorem join_flat (a b : List UInt8) (l : List (List UInt8)) : Lib.join (a :: b :: l) [32] = a ++ [32] ++ Lib.join (b :: l) [32] := by
 rw [Lib.join_cons, Lib.join_cons]; simp [Lib.joinTail]
theorem rule_text {x : Rule} {W0 W1 W2 : List UInt8} (e : spotT x.m x.k x.wd x.d x.t x.r = [W0, W1, W2]) :
 ruleL x = [82, 117, 108, 101, 32] ++ x.nm.data.toList ++ [32] ++ decI x.a ++ [32] ++ toT x ++ [32, 45] ++ ([32] ++ W0 ++ [32] ++ W1 ++ [32] ++ W2) ++ [32] ++ Mom.timeD x.s ++ [32] ++ orT x.l ++ [10] := by
 unfold ruleL lineT ruleW
 rw [e]
 simp only [List.cons_append, List.nil_append, join_flat, Lib.join_one, List.append_assoc]
theorem era_text {x : Era} {W0 W1 W2 R : List UInt8} (hR : R = if x.kd = 1 then Mom.timeD x.s else orT x.rs) (ht : x.til = true) (e : spotT x.m x.k x.wd x.d x.t x.r = [W0, W1, W2]) :
 eraL x = Mom.timeD x.off ++ [32] ++ R ++ [32] ++ x.fm.data.toList ++ [32] ++ decI x.y ++ ([32] ++ W0 ++ [32] ++ W1 ++ [32] ++ W2) ++ [10] := by
 unfold eraL lineT eraW
 rw [if_pos ht, e, ← hR]
 simp only [List.cons_append, List.nil_append, join_flat, Lib.join_one, List.append_assoc]
theorem era_text0 {x : Era} {R : List UInt8} (hR : R = if x.kd = 1 then Mom.timeD x.s else orT x.rs) (ht : x.til = false) :
 eraL x = Mom.timeD x.off ++ [32] ++ R ++ [32] ++ x.fm.data.toList ++ [10] := by
 unfold eraL lineT eraW
 rw [← hR, if_neg (by rw [ht]; simp)]
 simp only [List.cons_append, List.nil_append, List.append_nil, join_flat, Lib.join_one, List.append_assoc]
theorem link_text (x : Link) : linkL x = [76, 105, 110, 107, 32] ++ x.tg.data.toList ++ [32] ++ x.nm.data.toList ++ [10] := by
 unfold linkL lineT linkW
 simp only [List.cons_append, List.nil_append, join_flat, Lib.join_one, List.append_assoc]
end Src
end Go.Proofs.YtdhbgelijjlifaaGreatDoor

set_option linter.unusedVariables false
set_option linter.unusedSimpArgs false
namespace Go.Proofs.YtdhbgelijjlifaaGreatDoor
open Go
namespace Src
def Word (s : List UInt8) : Prop := s ≠ [] ∧ ∀ c ∈ s, Fie.bare c = true
theorem bare_within {c : UInt8} (h : Fie.bare c = true) : Fie.within c = true := by
 simp [Fie.bare] at h; simp [Fie.within]; omega
theorem bk_stop {p : UInt8 → Bool} {s : List UInt8} (h : ∀ c ∈ s, p c = true) : Fie.stop p ⟨s.toArray⟩ 0 = s.length := by
 have := Fie.stop_run p ⟨s.toArray⟩ s [] [] (by simp) h (by intro c r e; cases e)
 simpa using this
theorem word_plain {s : List UInt8} (h : Word s) : plain ⟨s.toArray⟩ = true := by
 unfold plain
 refine decide_eq_true ⟨?_, ?_⟩
 · have : s.length ≠ 0 := by simpa using h.1
   simpa [ByteArray.size] using this
 · rw [bk_stop h.2]; simp [ByteArray.size]
theorem word_ok {s : List UInt8} (h : Word s) : fieldOk ⟨s.toArray⟩ = true := by
 unfold fieldOk
 refine decide_eq_true ?_
 rw [bk_stop (fun c hc => bare_within (h.2 c hc))]; simp [ByteArray.size]
theorem split_words {l : List (List UInt8)} (h : ∀ s ∈ l, Word s) (hn : l.length ≤ 16) (hz : (Lib.join l [32]).length ≤ 500) :
 ∃ ws, splitW ⟨(Lib.join l [32]).toArray⟩ = (ws, 0, 0) ∧ ws.map (fun w => w.1.data.toList) = l := by
 have hj : joined (l.map fun s => (⟨s.toArray⟩ : ByteArray)) = ⟨(Lib.join l [32]).toArray⟩ := by
  unfold joined
  have : ((l.map fun s => (⟨s.toArray⟩ : ByteArray)).map fieldOut).map (·.data.toList) = l := by
   rw [List.map_map, List.map_map]
   conv => rhs; rw [← List.map_id l]
   refine List.map_congr_left fun s hs => ?_
   simp only [Function.comp]
   rw [out_plain (word_plain (h s hs))]; simp
  rw [this]
 obtain ⟨vs, h1, h2⟩ := Fie.split_joined (l.map fun s => (⟨s.toArray⟩ : ByteArray)) (by
  unfold allOk
  refine List.all_eq_true.2 fun x hx => ?_
  obtain ⟨s, hs, rfl⟩ := List.mem_map.1 hx
  exact word_ok (h s hs)) (by rw [List.length_map]; exact hn)
 rw [hj] at h1
 refine ⟨vs, ?_, ?_⟩
 · unfold splitW
   rw [if_pos (by simpa [ByteArray.size] using hz)]; exact h1
 · have := congrArg (List.map fun x : ByteArray => x.data.toList) h2
   rw [List.map_map, List.map_map] at this
   have e : (l.map ((fun x : ByteArray => x.data.toList) ∘ fun s => (⟨s.toArray⟩ : ByteArray))) = l := by
    conv => rhs; rw [← List.map_id l]
    exact List.map_congr_left fun s hs => by simp
   rw [e] at this
   exact this
/-! The words that are written. -/
theorem word_app {a b : List UInt8} (ha : Word a) (hb : ∀ c ∈ b, Fie.bare c = true) : Word (a ++ b) :=
 ⟨by simp [ha.1], fun c hc => by rcases List.mem_append.1 hc with h | h; exact ha.2 c h; exact hb c h⟩
theorem ok_bare {others : List UInt8} (ho : others.all Fie.bare = true) {c : UInt8} (h : okB others c = true) : Fie.bare c = true := by
 unfold okB at h
 simp only [Bool.or_eq_true] at h
 rcases h with (h | h) | h
 · simp [letB] at h; simp [Fie.bare]; omega
 · simp [digB] at h; simp [Fie.bare]; omega
 · exact List.all_eq_true.1 ho c (by simpa using h)
theorem made_word {l others : List UInt8} {most : Int} (ho : others.all Fie.bare = true) (h : madeB l most others = true) : Word l := by
 unfold madeB at h
 simp only [Bool.and_eq_true, List.all_eq_true] at h
 exact ⟨by intro e; rw [e] at h; simp at h, fun c hc => ok_bare ho (h.1.1 c hc)⟩
theorem set_word {l : List UInt8} (h : setB l = true) : Word l := by
 unfold setB at h
 simp only [Bool.and_eq_true] at h
 exact made_word (by decide) h.1
theorem fmt_word {l : List UInt8} (h : fmtB l = true) : Word l := by
 unfold fmtB at h
 simp only [Bool.and_eq_true] at h
 exact made_word (by decide) h.1
theorem splitC_join (x : UInt8) : ∀ l : List UInt8, ∀ c ∈ l, c = x ∨ ∃ p ∈ splitC x l, c ∈ p
 | [], c, hc => by cases hc
 | d :: l, c, hc => by
   rw [splitC]
   rcases List.mem_cons.1 hc with rfl | hc
   · by_cases e : c = x
     · exact .inl e
     · right
       rw [if_neg e]
       cases h : splitC x l with
       | nil => exact ⟨[c], by simp, by simp⟩
       | cons p ps => exact ⟨c :: p, by simp, by simp⟩
   · rcases splitC_join x l c hc with h | ⟨p, hp, hcp⟩
     · exact .inl h
     · right
       by_cases e : d = x
       · rw [if_pos e]; exact ⟨p, by simp [hp], hcp⟩
       · rw [if_neg e]
         cases h : splitC x l with
         | nil => rw [h] at hp; cases hp
         | cons q qs =>
           rw [h] at hp
           rcases List.mem_cons.1 hp with rfl | hp
           · exact ⟨d :: p, by simp, by simp [hcp]⟩
           · exact ⟨p, by simp [hp], hcp⟩
theorem place_word {l : List UInt8} (h : placeB l = true) : Word l := by
 unfold placeB at h
 simp only [Bool.and_eq_true, List.all_eq_true] at h
 refine ⟨?_, fun c hc => ?_⟩
 · intro e; rw [e] at h
   have := h.1 [] (by simp [splitC])
   simp [madeB] at this
 · rcases splitC_join 47 l c hc with rfl | ⟨p, hp, hcp⟩
   · decide
   · exact (made_word (by decide) (h.1 p hp)).2 c hcp
theorem dig_bare {c : UInt8} (h : Mom.isD c = true) : Fie.bare c = true := by simp [Mom.isD] at h; simp [Fie.bare]; omega
theorem dec_word (n : Nat) : Word (Mom.dec n) := ⟨Mom.dec_ne n, fun c hc => dig_bare (Mom.dec_is n c hc)⟩
theorem hms_word (a : Nat) : Word (Mom.hms a) := by
 unfold Mom.hms
 refine word_app (dec_word _) fun c hc => ?_
 rcases List.mem_cons.1 hc with rfl | hc
 · decide
 rcases List.mem_append.1 hc with hc | hc
 · exact dig_bare (Mom.two_is _ c hc)
 · split at hc
   · cases hc
   · rcases List.mem_cons.1 hc with rfl | hc
     · decide
     · exact dig_bare (Mom.two_is _ c hc)
theorem time_word (n : Int) : Word (Mom.timeD n) := by
 unfold Mom.timeD
 split
 · exact ⟨by simp, fun c hc => by rcases List.mem_cons.1 hc with rfl | hc; decide; exact (hms_word _).2 c hc⟩
 · exact hms_word _
theorem spot_word {m k wd d t r : Int} (h : Mom.rightB m k wd d t r = true) : ∀ s ∈ spotT m k wd d t r, Word s := by
 obtain ⟨i, K, W, D, R, hi, rfl, hK, rfl, hW, rfl, hD, rfl, hR, rfl, t1, t2, q1, q2, q3, q4⟩ := right_nat h
 have hM : ∀ i : Fin 12, (Mom.short Mom.monthsL i.val) ≠ [] ∧ (Mom.short Mom.monthsL i.val).all Fie.bare = true := by decide +kernel
 have hA : ∀ i : Fin 8, (Mom.wdD i.val).all Fie.bare = true := by decide +kernel
 have hA := hA ⟨W, hW⟩
 simp only [List.all_eq_true] at hA
 have hM := hM ⟨i, hi⟩
 simp only [List.all_eq_true] at hM
 intro s hs
 unfold spotT Mom.printD at hs
 simp only [List.mem_cons, List.not_mem_nil, or_false, Int.toNat_natCast] at hs
 rcases hs with rfl | rfl | rfl
 · rw [show ((i : Int) + 1).toNat - 1 = i by omega]; exact hM
 · unfold Mom.dayD
   split
   · exact dec_word _
   split
   · exact word_app ⟨by simp, by decide⟩ hA
   split
   · refine ⟨by simp, fun c hc => ?_⟩
     rcases List.mem_append.1 hc with hc | hc
     · rcases List.mem_append.1 hc with hc | hc
       · exact hA c hc
       · simp at hc; rcases hc with rfl | rfl <;> decide
     · exact (dec_word _).2 c hc
   · refine ⟨by simp, fun c hc => ?_⟩
     rcases List.mem_append.1 hc with hc | hc
     · rcases List.mem_append.1 hc with hc | hc
       · exact hA c hc
       · simp at hc; rcases hc with rfl | rfl <;> decide
     · exact (dec_word _).2 c hc
 · refine word_app (time_word _) fun c hc => ?_
   unfold Mom.refD at hc
   split at hc
   · simp at hc; subst hc; decide
   split at hc
   · simp at hc; subst hc; decide
   · cases hc
theorem or_word {s : ByteArray} (h : s.data.toList = [] ∨ Word s.data.toList) : Word (orT s) := by
 unfold orT
 split
 · exact ⟨by simp, by decide⟩
 · rcases h with h | h
   · contradiction
   · exact h
theorem letter_word {s : ByteArray} (h : letterB s.data.toList = true) : Word (orT s) := by
 refine or_word ?_
 unfold letterB at h
 simp only [Bool.or_eq_true, Bool.and_eq_true, List.isEmpty_iff] at h
 rcases h with h | h
 · exact .inl h
 · exact .inr (made_word (by decide) h.2)
theorem to_word (x : Rule) : Word (toT x) := by
 unfold toT
 split
 · exact ⟨by simp, by decide⟩
 split
 · exact ⟨by simp, by decide⟩
 · exact dec_word _
theorem rule_word {x : Rule} (h : RuleK x) : ∀ s ∈ ruleW x, Word s := by
 intro s hs
 unfold ruleW at hs
 simp only [List.mem_append, List.mem_cons, List.not_mem_nil, or_false] at hs
 rcases hs with ((rfl | rfl | rfl | rfl | rfl) | hs) | rfl | rfl
 · exact ⟨by simp, by decide⟩
 · exact set_word h.nm
 · exact dec_word _
 · exact to_word x
 · exact ⟨by simp, by decide⟩
 · exact spot_word h.spot s hs
 · exact time_word _
 · exact letter_word h.l
theorem era_word {x : Era} (h : EraK x) : ∀ s ∈ eraW x, Word s := by
 intro s hs
 unfold eraW at hs
 rcases List.mem_append.1 hs with hs | hs
 · simp only [List.mem_cons, List.not_mem_nil, or_false] at hs
   rcases hs with rfl | rfl | rfl
   · exact time_word _
   · split
     · exact time_word _
     · refine or_word ?_
       rcases h.kd with ⟨_, _, e⟩ | ⟨_, _, _, e⟩ | ⟨_, _, e⟩
       · exact .inl e
       · exact .inl e
       · exact .inr (set_word e)
   · exact fmt_word h.fm
 · rcases h.en with ⟨ht, _, _, hsp⟩ | ⟨ht, -⟩
   · rw [if_pos ht] at hs
     rcases List.mem_cons.1 hs with rfl | hs
     · exact dec_word _
     · exact spot_word hsp s hs
   · rw [if_neg (by rw [ht]; simp)] at hs; cases hs
theorem link_word {x : Link} (h : linkB x = true) : ∀ s ∈ linkW x, Word s := by
 unfold linkB at h
 simp only [Bool.and_eq_true] at h
 intro s hs
 unfold linkW at hs
 simp only [List.mem_cons, List.not_mem_nil, or_false] at hs
 rcases hs with rfl | rfl | rfl
 · exact ⟨by simp, by decide⟩
 · exact place_word h.1
 · exact place_word h.2
end Src
end Go.Proofs.YtdhbgelijjlifaaGreatDoor

set_option linter.unusedVariables false
set_option linter.unusedSimpArgs false
namespace Go.Proofs.YtdhbgelijjlifaaGreatDoor
open Go
namespace Src
def txts (ws : List Wd) : List (List UInt8) := ws.map fun w => w.1.data.toList
theorem tl_of {ws : List Wd} {L : List (List UInt8)} (h : txts ws = L) (i : Nat) : tl ws i = L.getD i [] := by
 unfold tl tx
 subst h
 unfold txts
 simp only [List.getD, List.getElem?_map]
 cases ws[i]? <;> rfl
theorem tx_of {ws : List Wd} {L : List (List UInt8)} (h : txts ws = L) (i : Nat) (s : ByteArray) (hs : L.getD i [] = s.data.toList) : tx ws i = s := by
 have := tl_of h i
 rw [hs] at this
 exact Fie.ba_eq this
theorem len_of_txts {ws : List Wd} {L : List (List UInt8)} (h : txts ws = L) : ws.length = L.length := by subst h; simp [txts]
theorem spot_of {ws : List Wd} {L : List (List UInt8)} (h : txts ws = L) (i : Nat) : spotP ws i = parseR ((L.drop i).take 3) := by
 subst h
 unfold spotP txts
 rw [← List.map_drop, ← List.map_take]
theorem dec_digs (n : Nat) : (Mom.dec n).all digB = true := List.all_eq_true.2 fun c hc => by
 have := Mom.dec_is n c hc
 exact this
theorem year_back {n : Int} (h1 : 1 ≤ n) (h2 : n ≤ 9999) : yearP (decI n) = n := by
 unfold yearP
 rw [if_pos ⟨dec_digs _, decI_le h1 h2⟩]
 unfold decI
 rw [Mom.dec_num]; omega
theorem dec_not {n : Int} {l : List UInt8} (h : l.all digB = false) : ¬ decI n = l := by
 intro e; unfold decI at e; rw [← e, dec_digs] at h; cases h
theorem span_time {t : Int} (h1 : -604799 ≤ t) (h2 : t ≤ 604799) : Mom.spanR (Mom.timeD t) = some t := by
 rw [← Mom.span_eq]
 unfold Mom.timeD
 obtain ⟨c, l, e, hc⟩ := Mom.hms_head t.natAbs []
 rw [List.append_nil] at e
 have hb := fun neg => Mom.bar_hms neg (a := t.natAbs) (by omega) [] (by intro c r e; cases e)
 simp only [List.append_nil] at hb
 by_cases h : t < 0
 · rw [if_pos h]
   simp only [Mom.span]
   rw [if_neg (by rw [e]; simp), hb true]
   simp only [Mom.done]; first | done | (congr 2; simp; omega)
 · rw [if_neg h]
   have : Mom.span (Mom.hms t.natAbs) = Mom.bar false (Mom.hms t.natAbs) := by
    rw [e]; unfold Mom.span; split
    · rename_i e2; cases e2; simp [Mom.isD] at hc
    · rfl
   rw [this, hb false]
   simp only [Mom.done]; first | done | (congr 2; simp; omega)
theorem off_back {n most : Int} (h1 : -86400 < n) (h2 : n < 86400) (h3 : -most ≤ n) (h4 : n ≤ most) : offP (Mom.timeD n) most = (n, 0) := by
 unfold offP
 rw [span_time (by omega) (by omega)]
 simp only
 rw [if_neg (by omega)]
theorem spot_back {m k wd d t r : Int} (h : Mom.rightB m k wd d t r = true) : parseR (spotT m k wd d t r) = .inr ⟨m, k, wd, d, t, r⟩ := by
 obtain ⟨i, K, W, D, R, hi, rfl, hK, rfl, hW, rfl, hD, rfl, hR, rfl, t1, t2, k1, k2, k3, k4⟩ := right_nat h
 have := parse_print i K W D R t hi hK hW hD hR t1 t2 k1 k2 k3 k4
 unfold spotT
 simp only [Int.toNat_natCast]
 rw [show ((i : Int) + 1).toNat = i + 1 by omega]
 exact this
theorem or_back {s : ByteArray} (h : s.data.toList ≠ [45]) : (if orT s = [45] then (⟨#[]⟩ : ByteArray) else ⟨(orT s).toArray⟩) = s := by
 unfold orT
 by_cases e : s.data.toList = []
 · rw [if_pos e, if_pos rfl]; exact Fie.ba_eq (by rw [e])
 · rw [if_neg e, if_neg h]
theorem rule_back {x : Rule} (h : RuleK x) {ws : List Wd} (hw : txts ws = ruleW x) (line : Int) : ruleP ws line = .inr x := by
 obtain ⟨W0, W1, W2, eW, -⟩ := spot_words h.spot
 have T := tl_of hw
 have hsp : spotP ws 5 = .inr ⟨x.m, x.k, x.wd, x.d, x.t, x.r⟩ := by
  rw [spot_of hw, ← spot_back h.spot, eW]
  unfold ruleW
  rw [eW]; rfl
 have e1 : tl ws 1 = x.nm.data.toList := by rw [T]; unfold ruleW; rfl
 have e2 : tl ws 2 = decI x.a := by rw [T]; unfold ruleW; rfl
 have e3 : tl ws 3 = toT x := by rw [T]; unfold ruleW; rfl
 have e4 : tl ws 4 = [45] := by rw [T]; unfold ruleW; rfl
 have e8 : tl ws 8 = Mom.timeD x.s := by rw [T]; unfold ruleW; rw [eW]; rfl
 have e9 : tl ws 9 = orT x.l := by rw [T]; unfold ruleW; rw [eW]; rfl
 have hto : toP ws = x.b := by
  unfold toP
  rw [e2, e3]
  unfold toT
  by_cases c1 : x.b = x.a
  · rw [if_pos c1, if_pos rfl, year_back h.a1 h.a2, c1]
  · rw [if_neg c1]
    by_cases c2 : x.b = 1000000
    · rw [if_pos c2, if_neg (by decide), if_pos rfl, c2]
    · rw [if_neg c2, if_neg (dec_not (l := [111, 110, 108, 121]) (by decide)), if_neg (dec_not (l := [109, 97, 120]) (by decide))]
      exact year_back h.b1 (by rcases h.b2 with h | h; exact h; contradiction)
 have hof := off_back (n := x.s) (most := 43200) (by have := h.s1; omega) (by have := h.s2; omega) h.s1 h.s2
 have hl : letP ws = x.l := by
  have hne : x.l.data.toList ≠ [45] := by
   intro e
   have := h.l
   rw [e] at this; revert this; decide
  unfold letP
  rw [e9]
  have := or_back hne
  split
  · rw [if_pos ‹_›] at this; exact this
  · rw [if_neg ‹_›] at this; rw [← this]; exact tx_of hw 9 _ (by rw [← T, e9])
 have hm : madeB (tl ws 9) 8 [43, 45] = true := by
  rw [e9]
  have := h.l
  unfold letterB at this
  simp only [Bool.or_eq_true, Bool.and_eq_true, List.isEmpty_iff] at this
  unfold orT
  rcases this with e | ⟨_, e⟩
  · rw [if_pos e]; decide
  · split
    · decide
    · exact e
 unfold ruleP
 rw [e1, h.nm, e2, year_back h.a1 h.a2, hto, e4, e8, hof, hm, hsp, hl]
 have h1 := h.a1
 have h2 := h.b1
 rw [if_neg (by simp), if_neg (by omega), if_neg (by omega), if_neg (by simp)]
 simp only
 rw [if_neg (by simp), if_neg (by simp), tx_of hw 1 x.nm (by rw [← T, e1])]
theorem getD_app {α : Type} (d : α) : ∀ (pre L : List α) (j : Nat), (pre ++ L).getD (pre.length + j) d = L.getD j d := by
 intro pre L j
 simp only [List.getD, List.getElem?_append_right (Nat.le_add_right _ _), Nat.add_sub_cancel_left]
theorem time_head (n : Int) : Mom.timeD n ≠ [45] ∧ opensB (Mom.timeD n) = false := by
 obtain ⟨c, l, e, hc⟩ := Mom.hms_head n.natAbs []
 rw [List.append_nil] at e
 have hc2 : 48 ≤ c.toNat ∧ c.toNat ≤ 57 := by simp [Mom.isD] at hc; omega
 have hl : letB c = false := by unfold letB; simp; omega
 have h95 : (c == 95) = false := by
  rw [beq_eq_false_iff_ne]; intro e; subst e; revert hc2; decide
 unfold Mom.timeD
 rw [e]
 split
 · exact ⟨by simp, rfl⟩
 · refine ⟨?_, ?_⟩
   · intro e2; cases e2; revert hc2; decide
   · show (letB c || c == 95) = false; rw [hl, h95]; rfl
theorem kind_back {x : Era} (h : EraK x) {pre : List (List UInt8)} {ws : List Wd} (line : Int) (hw : txts ws = pre ++ eraW x) : kindP ws pre.length line = .inr (x.kd, x.s, x.rs) := by
 have e1 : tl ws (pre.length + 1) = (if x.kd = 1 then Mom.timeD x.s else orT x.rs) := by
  rw [tl_of hw, getD_app]; unfold eraW; rfl
 unfold kindP
 rcases h.kd with ⟨k, s0, r0⟩ | ⟨k, s1, s2, r0⟩ | ⟨k, s0, hset⟩
 · rw [if_neg (by omega)] at e1
   have : orT x.rs = [45] := by unfold orT; rw [if_pos r0]
   rw [e1, this, if_pos rfl, k, s0]
   congr 2; congr 1; exact Fie.ba_eq (by rw [r0])
 · rw [if_pos k] at e1
   have ht := time_head x.s
   have ho := off_back (n := x.s) (most := 43200) (by omega) (by omega) s1 s2
   rw [e1, if_neg ht.1, if_neg (by rw [ht.2]; simp), ho]
   rw [if_neg (by simp), k]
   congr 2; congr 1; exact Fie.ba_eq (by rw [r0])
 · rw [if_neg (by omega)] at e1
   have hne : x.rs.data.toList ≠ [] := (set_word hset).1
   have ho : orT x.rs = x.rs.data.toList := by unfold orT; rw [if_neg hne]
   have hop : opensB x.rs.data.toList = true := by
    have := hset; unfold setB at this; simp only [Bool.and_eq_true] at this; exact this.2
   have h45 : ¬ x.rs.data.toList = [45] := by intro e; rw [e] at hop; revert hop; decide
   rw [ho] at e1
   rw [e1, if_neg h45, if_pos hop, if_neg (by rw [hset]; simp), k, s0]
   congr 2; congr 1
   refine tx_of hw _ _ ?_
   rw [← tl_of hw, e1]
theorem until_back {x : Era} (h : EraK x) {pre : List (List UInt8)} {ws : List Wd} (line : Int) (hw : txts ws = pre ++ eraW x) : untilP ws pre.length line = .inr (x.til, x.y, ⟨x.m, x.k, x.wd, x.d, x.t, x.r⟩) := by
 have hl := len_of_txts hw
 unfold untilP
 rcases h.en with ⟨ht, y1, y2, hsp⟩ | ⟨ht, y0, m0, k0, wd0, d0, t0, r0⟩
 · obtain ⟨W0, W1, W2, eW, -⟩ := spot_words hsp
   have el : (eraW x).length = 7 := by unfold eraW; rw [if_pos ht, eW]; rfl
   have e3 : tl ws (pre.length + 3) = decI x.y := by rw [tl_of hw, getD_app]; unfold eraW; rw [if_pos ht]; rfl
   have e4 : spotP ws (pre.length + 4) = .inr ⟨x.m, x.k, x.wd, x.d, x.t, x.r⟩ := by
    rw [spot_of hw, ← spot_back hsp, eW]
    congr 1
    rw [List.drop_append]
    have : (pre.drop (pre.length + 4)) = [] := List.drop_eq_nil_of_le (by omega)
    rw [this, List.nil_append, Nat.add_sub_cancel_left]
    unfold eraW; rw [if_pos ht, eW]; rfl
   rw [if_neg (by rw [hl, List.length_append, el]; omega), e3, year_back y1 y2, if_neg (by omega), e4, ht]
 · have el : (eraW x).length = 3 := by unfold eraW; rw [List.length_append, ht]; rfl
   rw [if_pos (by rw [hl, List.length_append, el]; omega), ht, y0, m0, k0, wd0, d0, t0, r0]; rfl
theorem era_back {x : Era} (h : EraK x) {pre : List (List UInt8)} {ws : List Wd} (line : Int) (hw : txts ws = pre ++ eraW x) : eraP ws pre.length line = .inr x := by
 have e0 : tl ws pre.length = Mom.timeD x.off := by
  have := getD_app [] pre (eraW x) 0
  rw [Nat.add_zero] at this
  rw [tl_of hw, this]; unfold eraW; rfl
 have e2 : tl ws (pre.length + 2) = x.fm.data.toList := by rw [tl_of hw, getD_app]; unfold eraW; rfl
 have ho := off_back (n := x.off) (most := 86400) h.o1 h.o2 (by have := h.o1; omega) (by have := h.o2; omega)
 unfold eraP
 rw [e0, ho, if_neg (by simp), kind_back h line hw]
 simp only
 rw [e2, h.fm, if_neg (by simp), until_back h line hw]
 simp only
 rw [tx_of hw (pre.length + 2) x.fm (by rw [← tl_of hw, e2])]
/-! Lines. -/
theorem count_ok {ws : List Wd} {size : Nat} {line : Int} {a b : Nat} (h1 : a ≤ ws.length) (h2 : ws.length ≤ b) : countP ws size line a b = none := by
 unfold countP; rw [if_neg (by omega), if_neg (by omega)]
theorem rule_lineP {S : Source} {x : Rule} (h : RuleK x) {ws : List Wd} (size : Nat) (line : Int) (hw : txts ws = ruleW x) (ho : openB S = false) (hr : S.rules.length < 200) : lineP S ws size line = .inr ⟨S.rules ++ [x], S.zones, S.links⟩ := by
 have hl := len_of_txts hw
 rw [rule_count] at hl
 have e0 : tl ws 0 = [82, 117, 108, 101] := by rw [tl_of hw]; unfold ruleW; rfl
 unfold lineP
 rw [if_neg (by rw [ho]; simp), if_pos e0]
 unfold ruleLineP
 rw [if_neg (by omega), count_ok (by omega) (by omega)]
 simp only
 rw [rule_back h hw]
theorem link_lineP {S : Source} {x : Link} (h : linkB x = true) {ws : List Wd} (size : Nat) (line : Int) (hw : txts ws = linkW x) (ho : openB S = false) (hr : S.links.length < 100) : lineP S ws size line = .inr ⟨S.rules, S.zones, S.links ++ [x]⟩ := by
 have hl := len_of_txts hw
 have hl : ws.length = 3 := hl
 have e0 : tl ws 0 = [76, 105, 110, 107] := by rw [tl_of hw]; rfl
 have e1 : tl ws 1 = x.tg.data.toList := by rw [tl_of hw]; rfl
 have e2 : tl ws 2 = x.nm.data.toList := by rw [tl_of hw]; rfl
 unfold linkB at h
 simp only [Bool.and_eq_true] at h
 unfold lineP
 rw [if_neg (by rw [ho]; simp), if_neg (by rw [e0]; decide), if_neg (by rw [e0]; decide), if_pos e0]
 unfold linkP
 rw [if_neg (by omega), count_ok (by omega) (by omega)]
 simp only
 rw [e1, e2, h.1, h.2, if_neg (by simp), if_neg (by simp), tx_of hw 1 x.tg rfl, tx_of hw 2 x.nm rfl]
def zoneL (nm : ByteArray) (x : Era) : List (List UInt8) := [[90, 111, 110, 101], nm.data.toList] ++ eraW x
theorem era_len (x : Era) : 3 ≤ (eraW x).length := by unfold eraW; rw [List.length_append]; simp
theorem zone_lineP {S : Source} {nm : ByteArray} {x : Era} (hn : placeB nm.data.toList = true) (h : EraK x) {ws : List Wd} (size : Nat) (line : Int) (hw : txts ws = zoneL nm x) (ho : openB S = false) (hr : S.zones.length < 50) : lineP S ws size line = .inr ⟨S.rules, S.zones ++ [⟨nm, [x]⟩], S.links⟩ := by
 have hl := len_of_txts hw
 have h1 := era_len x
 have h2 := era_count x
 unfold zoneL at hl
 rw [List.length_append] at hl
 simp only [List.length_cons, List.length_nil] at hl
 have e0 : tl ws 0 = [90, 111, 110, 101] := by rw [tl_of hw]; rfl
 have e1 : tl ws 1 = nm.data.toList := by rw [tl_of hw]; rfl
 unfold lineP
 rw [if_neg (by rw [ho]; simp), if_neg (by rw [e0]; decide), if_pos e0]
 unfold zoneP
 rw [if_neg (by omega), count_ok (by omega) (by omega)]
 simp only
 have := era_back h line (pre := [[90, 111, 110, 101], nm.data.toList]) hw
 rw [e1, hn, if_neg (by simp), show eraP ws 2 line = .inr x from this]
 simp only
 rw [tx_of hw 1 nm rfl]
theorem next_lineP {S : Source} {x : Era} (h : EraK x) {ws : List Wd} (size : Nat) (line : Int) (hw : txts ws = eraW x) (ho : openB S = true) (hr : (lastE S).length < 40) : lineP S ws size line = .inr ⟨S.rules, addEra S.zones x, S.links⟩ := by
 have hl := len_of_txts hw
 have h1 := era_len x
 have h2 := era_count x
 unfold lineP
 rw [if_pos ho]
 unfold nextP
 rw [if_neg (by omega), count_ok (by omega) (by omega)]
 simp only
 have := era_back h line (pre := []) hw
 rw [show eraP ws 0 line = .inr x from this]
def lineB (l : List (List UInt8)) : ByteArray := ⟨(Lib.join l [32]).toArray⟩
theorem step {S S' : Source} {l : List (List UInt8)} (h : ∀ s ∈ l, Word s) (hn : l.length ≤ 10) (h4 : ∀ s ∈ l, s.length ≤ 40) (h0 : l ≠ []) (r : List ByteArray) (n : Int) (H : ∀ ws size line, txts ws = l → lineP S ws size line = .inr S') : parseP (lineB l :: r) n S = parseP r (n + 1) S' := by
 obtain ⟨ws, h1, h2⟩ := split_words h (by omega) (by have := join_le 40 l h4; have := Nat.mul_le_mul_right 41 hn; omega)
 rw [parse_cons]
 unfold readP lineB
 rw [h1]
 simp only
 rw [if_neg (by simp), if_neg (by intro e; rw [e] at h2; exact h0 h2.symm), H ws _ _ h2]
theorem parse_rules (r : List ByteArray) : ∀ (xs : List Rule) (S : Source) (n : Int), openB S = false → S.rules.length + xs.length ≤ 200 → (∀ x ∈ xs, RuleK x) → parseP (xs.map (fun x => lineB (ruleW x)) ++ r) n S = parseP r (n + xs.length) ⟨S.rules ++ xs, S.zones, S.links⟩
 | [], S, n, _, _, _ => by simp
 | x :: xs, S, n, ho, hr, hx => by
   simp only [List.length_cons] at hr
   rw [List.map_cons, List.cons_append, step (rule_word (hx x (by simp))) (by rw [rule_count]; omega) (rule_words (hx x (by simp))) (by unfold ruleW; simp) _ _ (fun ws size line hw => rule_lineP (hx x (by simp)) size line hw ho (by omega))]
   rw [parse_rules r xs ⟨S.rules ++ [x], S.zones, S.links⟩ _ ho (by simp; omega) (fun y hy => hx y (by simp [hy]))]
   simp only [List.append_assoc, List.singleton_append, List.length_cons]
   congr 1; omega
theorem parse_links (r : List ByteArray) : ∀ (xs : List Link) (S : Source) (n : Int), openB S = false → S.links.length + xs.length ≤ 100 → (∀ x ∈ xs, linkB x = true) → parseP (xs.map (fun x => lineB (linkW x)) ++ r) n S = parseP r (n + xs.length) ⟨S.rules, S.zones, S.links ++ xs⟩
 | [], S, n, _, _, _ => by simp
 | x :: xs, S, n, ho, hr, hx => by
   simp only [List.length_cons] at hr
   rw [List.map_cons, List.cons_append, step (link_word (hx x (by simp))) (by unfold linkW; simp) (link_words (hx x (by simp))) (by unfold linkW; simp) _ _ (fun ws size line hw => link_lineP (hx x (by simp)) size line hw ho (by omega))]
   rw [parse_links r xs ⟨S.rules, S.zones, S.links ++ [x]⟩ _ ho (by simp; omega) (fun y hy => hx y (by simp [hy]))]
   simp only [List.append_assoc, List.singleton_append, List.length_cons]
   congr 1; omega
theorem add_last (zs : List Zone) (nm : ByteArray) (es : List Era) (x : Era) : addEra (zs ++ [⟨nm, es⟩]) x = zs ++ [⟨nm, es ++ [x]⟩] := by
 unfold addEra; simp
theorem last_last (rs : List Rule) (ls : List Link) (zs : List Zone) (nm : ByteArray) (es : List Era) : lastE ⟨rs, zs ++ [⟨nm, es⟩], ls⟩ = es := by
 unfold lastE; simp
theorem open_last (rs : List Rule) (ls : List Link) (zs : List Zone) (nm : ByteArray) (es : List Era) (x : Era) : openB ⟨rs, zs ++ [⟨nm, es ++ [x]⟩], ls⟩ = x.til := by
 unfold openB; rw [last_last]; simp
theorem eras_head {x : Era} {l : List Era} (h : erasB (x :: l) = true) : EraK x ∧ x.til = !l.isEmpty ∧ erasB l = true := by
 unfold erasB at h
 simp only [Bool.and_eq_true, beq_iff_eq] at h
 exact ⟨era_k h.1.1, h.1.2, h.2⟩
theorem parse_eras (rs : List Rule) (ls : List Link) (zs : List Zone) (nm : ByteArray) (r : List ByteArray) : ∀ (xs es : List Era) (y : Era) (n : Int), y.til = !xs.isEmpty → erasB xs = true → es.length + 1 + xs.length ≤ 40 →
 parseP (xs.map (fun x => lineB (eraW x)) ++ r) n ⟨rs, zs ++ [⟨nm, es ++ [y]⟩], ls⟩ = parseP r (n + xs.length) ⟨rs, zs ++ [⟨nm, es ++ [y] ++ xs⟩], ls⟩
 | [], es, y, n, _, _, _ => by simp
 | x :: xs, es, y, n, hy, hx, hl => by
   obtain ⟨k, ht, hx2⟩ := eras_head hx
   simp only [List.length_cons] at hl
   have ho : openB ⟨rs, zs ++ [⟨nm, es ++ [y]⟩], ls⟩ = true := by rw [open_last, hy]; rfl
   rw [List.map_cons, List.cons_append, step (era_word k) (by have := era_count x; omega) (era_words k) (by have := era_len x; intro e; rw [e] at this; simp at this) _ _ (fun ws size line hw => next_lineP k size line hw ho (by rw [last_last]; simp; omega))]
   simp only
   rw [add_last, parse_eras rs ls zs nm r xs (es ++ [y]) x (n + 1) ht hx2 (by simp; omega)]
   simp only [List.append_assoc, List.singleton_append, List.length_cons]
   congr 1; omega
def zoneWs (z : Zone) : List (List (List UInt8)) := match z.es with
 | [] => []
 | x :: l => zoneL z.nm x :: l.map eraW
theorem zoneL_word {nm : ByteArray} {x : Era} (hn : placeB nm.data.toList = true) (h : EraK x) : ∀ s ∈ zoneL nm x, Word s := by
 intro s hs
 unfold zoneL at hs
 simp only [List.mem_append, List.mem_cons, List.not_mem_nil, or_false] at hs
 rcases hs with (rfl | rfl) | hs
 · exact ⟨by simp, by decide⟩
 · exact place_word hn
 · exact era_word h s hs
theorem zoneL_words {nm : ByteArray} {x : Era} (hn : placeB nm.data.toList = true) (h : EraK x) : ∀ s ∈ zoneL nm x, s.length ≤ 40 := by
 intro s hs
 unfold zoneL at hs
 simp only [List.mem_append, List.mem_cons, List.not_mem_nil, or_false] at hs
 rcases hs with (rfl | rfl) | hs
 · simp
 · exact place_len hn
 · exact era_words h s hs
theorem parse_zone {z : Zone} (hz : ZoneK z) (he : erasB z.es = true) (S : Source) (n : Int) (r : List ByteArray) (ho : openB S = false) (hl : S.zones.length < 50) :
 parseP ((zoneWs z).map lineB ++ r) n S = parseP r (n + z.es.length) ⟨S.rules, S.zones ++ [z], S.links⟩ := by
 obtain ⟨nm, es⟩ := z
 obtain ⟨zn, n1, n2, zes⟩ := hz
 simp only at zn n1 n2 zes he
 cases es with
 | nil => simp at n1
 | cons x l =>
   obtain ⟨k, ht, hx2⟩ := eras_head he
   unfold zoneWs
   simp only [List.map_cons, List.cons_append, List.map_map]
   rw [step (zoneL_word zn k) (by unfold zoneL; rw [List.length_append]; have := era_count x; simp; omega) (zoneL_words zn k) (by unfold zoneL; simp) _ _ (fun ws size line hw => zone_lineP zn k size line hw ho hl)]
   have := parse_eras S.rules S.links S.zones nm r l [] x (n + 1) ht hx2 (by simp at n2 ⊢; omega)
   simp only [List.nil_append] at this
   rw [show (lineB ∘ eraW) = fun x => lineB (eraW x) from rfl, this]
   simp only [List.singleton_append, List.length_cons]
   congr 1; omega
theorem eras_closed : ∀ {l : List Era}, erasB l = true → ∀ {es : List Era} {y : Era}, l = es ++ [y] → y.til = false
 | [], _, es, y, e => by simp at e
 | x :: l, h, es, y, e => by
   obtain ⟨k, ht, hx2⟩ := eras_head h
   cases es with
   | nil => simp at e; obtain ⟨rfl, rfl⟩ := e; rw [ht]; rfl
   | cons a es => simp at e; exact eras_closed hx2 e.2
theorem open_zone (rs : List Rule) (ls : List Link) (zs : List Zone) {z : Zone} (h : erasB z.es = true) : openB ⟨rs, zs ++ [z], ls⟩ = false := by
 obtain ⟨nm, es⟩ := z
 simp only at h
 rcases List.eq_nil_or_concat es with h0 | ⟨l, a, h0⟩
 · subst h0; unfold openB; rw [last_last]; rfl
 · rw [List.concat_eq_append] at h0
   rw [h0, open_last]
   exact eras_closed h h0
theorem parse_zones (r : List ByteArray) : ∀ (zs : List Zone) (S : Source) (n : Int), openB S = false → S.zones.length + zs.length ≤ 50 → (∀ z ∈ zs, ZoneK z ∧ erasB z.es = true) → ∃ m, parseP ((zs.map zoneWs).flatten.map lineB ++ r) n S = parseP r m ⟨S.rules, S.zones ++ zs, S.links⟩
 | [], S, n, _, _, _ => ⟨n, by simp⟩
 | z :: zs, S, n, ho, hl, hz => by
   simp only [List.length_cons] at hl
   obtain ⟨k, he⟩ := hz z (by simp)
   rw [List.map_cons, List.flatten_cons, List.map_append, List.append_assoc, parse_zone k he S n _ ho (by omega)]
   obtain ⟨m, hm⟩ := parse_zones r zs ⟨S.rules, S.zones ++ [z], S.links⟩ (n + z.es.length) (open_zone _ _ _ he) (by simp; omega) (fun y hy => hz y (by simp [hy]))
   exact ⟨m, by rw [hm]; simp⟩
def linesOf (S : Source) : List (List (List UInt8)) := S.rules.map ruleW ++ (S.zones.map zoneWs).flatten ++ S.links.map linkW
theorem open_zones' (rs : List Rule) (ls : List Link) {zs : List Zone} (h : ∀ z ∈ zs, erasB z.es = true) : openB ⟨rs, zs, ls⟩ = false := by
 rcases List.eq_nil_or_concat zs with h0 | ⟨l, a, h0⟩
 · subst h0; rfl
 · rw [List.concat_eq_append] at h0
   subst h0
   exact open_zone rs ls l (h a (by simp))
theorem zone_eras {z : Zone} (h : zoneB z = true) : erasB z.es = true := by
 unfold zoneB at h
 simp only [Bool.and_eq_true] at h
 exact h.2
theorem parse_lines {S : Source} (h : srcB S = true) : parseP ((linesOf S).map lineB) 0 ⟨[], [], []⟩ = .inr S := by
 have K := src_k h
 have hz : ∀ z ∈ S.zones, zoneB z = true := by
  unfold srcB at h
  simp only [Bool.and_eq_true, List.all_eq_true] at h
  exact h.2.2.1
 unfold linesOf
 rw [List.map_append, List.map_append, List.append_assoc]
 have h1 := parse_rules (((S.zones.map zoneWs).flatten.map lineB) ++ (S.links.map linkW).map lineB) S.rules ⟨[], [], []⟩ 0 rfl (by simpa using K.r) K.rs
 rw [List.map_map, show (lineB ∘ ruleW) = fun x => lineB (ruleW x) from rfl, h1]
 simp only [List.nil_append]
 obtain ⟨m, h2⟩ := parse_zones ((S.links.map linkW).map lineB) S.zones ⟨S.rules, [], []⟩ (0 + S.rules.length) rfl (by simpa using K.z) (fun z hm => ⟨K.zs z hm, zone_eras (hz z hm)⟩)
 rw [h2]
 simp only [List.nil_append]
 have ho : openB ⟨S.rules, S.zones, []⟩ = false := open_zones' _ _ (fun z hm => zone_eras (hz z hm))
 have h3 := parse_links [] S.links ⟨S.rules, S.zones, []⟩ m ho (by simpa using K.l) K.ls
 rw [List.append_nil] at h3
 rw [List.map_map, show (lineB ∘ linkW) = fun x => lineB (linkW x) from rfl, h3]
 simp only [List.nil_append]
 rw [parseP, if_neg (by rw [show openB ⟨S.rules, S.zones, S.links⟩ = false from open_zones' _ _ (fun z hm => zone_eras (hz z hm))]; simp)]
theorem join_free : ∀ {l : List (List UInt8)}, (∀ s ∈ l, Word s) → 10 ∉ Lib.join l [32]
 | [], _ => by simp [Lib.join_nil]
 | [a], h => by
   rw [Lib.join_one]; intro hc
   have := (h a (by simp)).2 10 hc
   revert this; decide
 | a :: b :: l, h => by
   rw [Fie.join_cons2]
   intro hc
   rcases List.mem_append.1 hc with hc | hc
   · rcases List.mem_append.1 hc with hc | hc
     · have := (h a (by simp)).2 10 hc
       revert this; decide
     · simp at hc
   · exact join_free (l := b :: l) (fun s hs => h s (by simp at hs ⊢; right; exact hs)) hc
theorem lines_flat : ∀ {Ls : List (List (List UInt8))}, (∀ l ∈ Ls, ∀ s ∈ l, Word s) → linesL ((Ls.map lineT).flatten) = Ls.map (fun l => Lib.join l [32])
 | [], _ => by simp [linesL]
 | l :: Ls, h => by
   rw [List.map_cons, List.flatten_cons]
   unfold lineT
   rw [List.append_assoc, List.singleton_append, linesL_line _ _ (join_free (h l (by simp)))]
   rw [show (fun l => Lib.join l [32] ++ [10]) = lineT from rfl, lines_flat (fun m hm => h m (by simp [hm]))]
   rfl
theorem zone_text {z : Zone} (h : 1 ≤ z.es.length) : zoneT z = ((zoneWs z).map lineT).flatten := by
 obtain ⟨nm, es⟩ := z
 cases es with
 | nil => simp at h
 | cons x l =>
   have hx : lineT (zoneL nm x) = [90, 111, 110, 101, 32] ++ nm.data.toList ++ [32] ++ lineT (eraW x) := by
    unfold zoneL lineT
    have : ∃ a b, eraW x = a :: b := by
     cases e : eraW x with
     | nil => have := era_len x; rw [e] at this; simp at this
     | cons a b => exact ⟨a, b, rfl⟩
    obtain ⟨a, b, e⟩ := this
    rw [e]
    simp only [List.cons_append, List.nil_append, Fie.join_cons2, List.append_assoc]
   unfold zoneWs zoneT
   simp only [List.map_cons, List.flatten_cons, List.map_map]
   rw [hx]
   simp only [List.append_assoc]; rfl
theorem flat_zones : ∀ {zs : List Zone}, (∀ z ∈ zs, 1 ≤ z.es.length) → (zs.map zoneT).flatten = ((zs.map zoneWs).flatten.map lineT).flatten
 | [], _ => by simp
 | z :: zs, h => by
   rw [List.map_cons, List.flatten_cons, List.map_cons, List.flatten_cons, List.map_append, List.flatten_append, zone_text (h z (by simp)), flat_zones (fun y hy => h y (by simp [hy]))]
theorem text_flat {S : Source} (h : SrcK S) : textL S = ((linesOf S).map lineT).flatten := by
 unfold textL linesOf
 rw [flat_zones (fun z hz => (h.zs z hz).n1), List.map_append, List.map_append, List.flatten_append, List.flatten_append, List.map_map, List.map_map]
 rfl
theorem lines_word {S : Source} (h : SrcK S) : ∀ l ∈ linesOf S, ∀ s ∈ l, Word s := by
 intro l hl
 unfold linesOf at hl
 rcases List.mem_append.1 hl with hl | hl
 · rcases List.mem_append.1 hl with hl | hl
   · obtain ⟨x, hx, rfl⟩ := List.mem_map.1 hl
     exact rule_word (h.rs x hx)
   · obtain ⟨L, hL, hl⟩ := List.mem_flatten.1 hl
     obtain ⟨z, hz, rfl⟩ := List.mem_map.1 hL
     have k := h.zs z hz
     unfold zoneWs at hl
     cases he : z.es with
     | nil => rw [he] at hl; cases hl
     | cons x r =>
       rw [he] at hl
       rcases List.mem_cons.1 hl with rfl | hl
       · exact zoneL_word k.nm (k.es x (by rw [he]; simp))
       · obtain ⟨y, hy, rfl⟩ := List.mem_map.1 hl
         exact era_word (k.es y (by rw [he]; simp [hy]))
 · obtain ⟨x, hx, rfl⟩ := List.mem_map.1 hl
   exact link_word (h.ls x hx)
theorem parse_text {S : Source} (h : srcB S = true) (hz : ¬ 100000 < (textL S).length) : parseT ⟨(textL S).toArray⟩ = .inr S := by
 unfold parseT
 rw [if_neg (by simpa [ByteArray.size] using hz), lines_eq]
 show parseP ((linesL (textL S)).map _) 0 _ = _
 rw [text_flat (src_k h), lines_flat (lines_word (src_k h)), List.map_map]
 exact parse_lines h
end Src
end Go.Proofs.YtdhbgelijjlifaaGreatDoor

set_option linter.unusedVariables false
set_option linter.unusedSimpArgs false
namespace Go.Proofs.YtdhbgelijjlifaaGreatDoor
open Go
namespace Src
/-! Numbers that are read. -/
theorem dig_le {c : UInt8} (h : digB c = true) : c.toNat - 48 ≤ 9 := by simp [digB] at h; omega
theorem fold_bd : ∀ (l : List UInt8) (n : Nat), l.all digB = true → l.foldl Mom.stepD n + 1 ≤ (n + 1) * 10 ^ l.length
 | [], n, _ => by simp
 | c :: l, n, h => by
   simp only [List.all_cons, Bool.and_eq_true] at h
   have ih := fold_bd l (Mom.stepD n c) h.2
   have h9 := dig_le h.1
   have : Mom.stepD n c + 1 ≤ (n + 1) * 10 := by unfold Mom.stepD; omega
   have h2 := Nat.mul_le_mul_right (10 ^ l.length) this
   rw [List.foldl_cons, List.length_cons, Nat.pow_succ]
   have h3 : (n + 1) * 10 * 10 ^ l.length = (n + 1) * (10 ^ l.length * 10) := by rw [Nat.mul_assoc, Nat.mul_comm 10]
   omega
theorem year_bd {t : List UInt8} (h : ¬ yearP t = 0) : 1 ≤ yearP t ∧ yearP t ≤ 9999 := by
 unfold yearP at h ⊢
 split at h
 · rename_i hc
   rw [if_pos hc]
   have := fold_bd t 0 hc.1
   have h2 : 10 ^ t.length ≤ 10 ^ 4 := Nat.pow_le_pow_right (by omega) hc.2
   unfold Mom.numOf at h ⊢
   omega
 · exact absurd rfl h
theorem off_bd {t : List UInt8} {most : Int} (h : ¬ ¬ (offP t most).2 = 0) : -86400 < (offP t most).1 ∧ (offP t most).1 < 86400 ∧ -most ≤ (offP t most).1 ∧ (offP t most).1 ≤ most := by
 have h := Classical.not_not.1 h
 unfold offP at h ⊢
 cases hs : Mom.spanR t with
 | none => rw [hs] at h; simp at h
 | some n =>
   rw [hs] at h
   simp only at h ⊢
   split at h
   · simp at h
   · rename_i hc; rw [if_neg hc]; simp only; omega
theorem sum_bd : ∀ (ps : List (List UInt8)) (n m : Int), ps.length ≤ 2 → Mom.sumR ps 60 n = some m → n ≤ m ∧ m ≤ n + 3599
 | [], n, m, _, h => by simp [Mom.sumR] at h; omega
 | [p], n, m, _, h => by
   simp only [Mom.sumR] at h
   split at h
   · cases h
   · injection h with h; omega
 | [p, q], n, m, _, h => by
   simp only [Mom.sumR] at h
   split at h
   · cases h
   · split at h
     · cases h
     · injection h with h; omega
 | _ :: _ :: _ :: _, n, m, hl, _ => by simp at hl
theorem bare_bd {l : List UInt8} {m : Int} (h : Mom.bareR l = some m) : 0 ≤ m ∧ m ≤ 604799 := by
 unfold Mom.bareR at h
 split at h
 · cases h
 · split at h
   · cases h
   · rename_i p ps _ hc
     have := sum_bd ps _ m (by simp only [List.length_cons] at hc; omega) h
     omega
theorem span_bd {l : List UInt8} {m : Int} (h : Mom.spanR l = some m) : -604799 ≤ m ∧ m ≤ 604799 := by
 unfold Mom.spanR at h
 split at h
 · split at h
   · injection h with h; omega
   · obtain ⟨k, hk, rfl⟩ := Option.map_eq_some_iff.1 h
     have := bare_bd hk; omega
 · have := bare_bd h; omega
theorem ref_bd {c : UInt8} {r : Int} (h : Mom.letterRef c = some r) : 0 ≤ r ∧ r ≤ 2 := by
 unfold Mom.letterRef at h
 repeat' split at h
 all_goals first | (injection h with h; omega) | cases h
theorem clock_bd {l : List UInt8} {t r : Int} (h : Mom.clockR l = some (t, r)) : -604799 ≤ t ∧ t ≤ 604799 ∧ 0 ≤ r ∧ r ≤ 2 := by
 unfold Mom.clockR at h
 split at h
 · cases h
 split at h
 · obtain ⟨k, hk, e⟩ := Option.map_eq_some_iff.1 h
   cases e
   have := span_bd hk; omega
 · rename_i q hq
   split at h
   · cases h
   · obtain ⟨k, hk, e⟩ := Option.map_eq_some_iff.1 h
     cases e
     have := span_bd hk; have := ref_bd hq; omega
theorem dayI_bd {l : List UInt8} (h : Mom.dayI l ≠ 0) : 1 ≤ Mom.dayI l ∧ Mom.dayI l ≤ 7 := by
 unfold Mom.dayI at h ⊢
 rcases Mom.which_bd l Mom.daysL 1 (by omega) with e | ⟨e1, e2⟩
 · exact absurd e h
 · have : Mom.daysL.length = 7 := rfl
   omega
theorem day_bd {l : List UInt8} {k wd d : Int} (h : Mom.dayR l = some (k, wd, d)) : Mom.tailOkB k wd d = true ∧ 0 ≤ k ∧ k ≤ 3 := by
 have hat : ∀ (kind : Int) (a b : List UInt8), (kind = 2 ∨ kind = 3) → Mom.dayAt kind a b = some (k, wd, d) → Mom.tailOkB k wd d = true ∧ 0 ≤ k ∧ k ≤ 3 := by
  intro kind a b hk h
  unfold Mom.dayAt at h
  split at h
  · rename_i hc
    cases h
    have h1 := dayI_bd hc.1
    have h2 := Mom.dnum_bd b
    have h3 := hc.2
    refine ⟨decide_eq_true (.inr (.inr ⟨by omega, by omega, by omega, by omega, by omega, by omega⟩)), by omega, by omega⟩
  · cases h
 unfold Mom.dayR at h
 split at h
 · unfold Mom.dayL at h
   split at h
   · rename_i hc
     cases h
     have h1 := dayI_bd hc
     exact ⟨decide_eq_true (.inr (.inl ⟨rfl, by omega, by omega, rfl⟩)), by omega, by omega⟩
   · cases h
 · unfold Mom.dayN at h
   split at h
   · exact hat 2 _ _ (.inl rfl) h
   · split at h
     · exact hat 3 _ _ (.inr rfl) h
     · split at h
       · rename_i hc
         cases h
         have h2 := Mom.dnum_bd l
         exact ⟨decide_eq_true (.inl ⟨rfl, rfl, by omega, by omega⟩), by omega, by omega⟩
       · cases h
theorem month_bd {l : List UInt8} (h : ¬ Mom.monthI l = 0) : 1 ≤ Mom.monthI l ∧ Mom.monthI l ≤ 12 := by
 unfold Mom.monthI at h ⊢
 rcases Mom.which_bd l Mom.monthsL 1 (by omega) with e | ⟨e1, e2⟩
 · exact absurd e h
 · have : Mom.monthsL.length = 12 := rfl
   omega
theorem right_mk {m k wd d t r : Int} (h1 : 1 ≤ m) (h2 : m ≤ 12) (h3 : Mom.tailOkB k wd d = true ∧ 0 ≤ k ∧ k ≤ 3) (h4 : -604799 ≤ t ∧ t ≤ 604799 ∧ 0 ≤ r ∧ r ≤ 2) : Mom.rightB m k wd d t r = true := by
 unfold Mom.rightB
 rw [h3.1, Bool.and_true]
 exact decide_eq_true ⟨h1, h2, h3.2.1, h3.2.2, h4.1, h4.2.1, h4.2.2.1, h4.2.2.2⟩
theorem spot_right {ws : List (List UInt8)} {x : Spot} (h : parseR ws = .inr x) : Mom.rightB x.m x.k x.wd x.d x.t x.r = true := by
 have d0 : Mom.tailOkB 0 0 1 = true ∧ (0 : Int) ≤ 0 ∧ (0 : Int) ≤ 3 := by decide
 have c0 : (-604799 : Int) ≤ 0 ∧ (0 : Int) ≤ 604799 ∧ (0 : Int) ≤ 0 ∧ (0 : Int) ≤ 2 := by decide
 unfold parseR at h
 split at h
 · cases h
 match ws, h with
 | [], h => simp only [contR] at h; cases h; decide
 | [a], h =>
   simp only [contR] at h
   split at h
   · cases h
   · cases h
     have := month_bd ‹_›
     exact right_mk (by simp only; omega) (by simp only; omega) d0 c0
 | [a, b], h =>
   simp only [contR] at h
   split at h
   · cases h
   split at h
   · cases h
   · cases h
     have := month_bd ‹_›
     exact right_mk (by simp only; omega) (by simp only; omega) (day_bd ‹_›) c0
 | [a, b, c], h =>
   simp only [contR] at h
   split at h
   · cases h
   split at h
   · cases h
   split at h
   · cases h
   · cases h
     have := month_bd ‹_›
     exact right_mk (by simp only; omega) (by simp only; omega) (day_bd ‹_›) (clock_bd ‹_›)
 | _ :: _ :: _ :: _ :: _, _ => rename_i hc; simp at hc
theorem spotP_right {ws : List Wd} {i : Nat} {x : Spot} (h : spotP ws i = .inr x) : Mom.rightB x.m x.k x.wd x.d x.t x.r = true := spot_right h
theorem rule_right {ws : List Wd} {line : Int} {x : Rule} (h : ruleP ws line = .inr x) : ruleB x = true := by
 unfold ruleP at h
 split at h; · cases h
 split at h; · cases h
 split at h; · cases h
 split at h; · cases h
 split at h; · cases h
 split at h; · cases h
 split at h; · cases h
 rename_i n1 n2 n3 n4 _ sp hsp n8 n9
 injection h with h
 subst h
 have hset : setB (tl ws 1) = true := by simpa using n1
 have ha := year_bd n2
 have ho := off_bd n8
 have hm : madeB (tl ws 9) 8 [43, 45] = true := by simpa using n9
 have hb : (1 ≤ toP ws ∧ toP ws ≤ 9999) ∨ toP ws = 1000000 := by
  unfold toP at n3 ⊢
  split
  · exact .inl ha
  · split
    · exact .inr rfl
    · rename_i q1 q2
      rw [if_neg q1, if_neg q2] at n3
      exact .inl (year_bd n3)
 have hl : letterB (letP ws).data.toList = true := by
  unfold letP
  split
  · rfl
  · rename_i hne
    unfold letterB
    have h45 : (tl ws 9 == [45]) = false := beq_eq_false_iff_ne.2 hne
    show ((tl ws 9).isEmpty || (!(tl ws 9 == [45]) && madeB (tl ws 9) 8 [43, 45])) = true
    rw [h45, hm]; simp
 unfold ruleB Rul.rightB Rul.yearB Rul.spotB
 simp only [Bool.and_eq_true, Bool.or_eq_true, decide_eq_true_eq, beq_iff_eq]
 exact ⟨⟨hset, ⟨⟨ha, hb⟩, spotP_right hsp⟩, ho.2.2.1, ho.2.2.2⟩, hl⟩
theorem kind_right {ws : List Wd} {i : Nat} {line kd s : Int} {rs : ByteArray} (h : kindP ws i line = .inr (kd, s, rs)) :
 (kd = 0 ∧ s = 0 ∧ rs.data.toList = []) ∨ (kd = 1 ∧ -43200 ≤ s ∧ s ≤ 43200 ∧ rs.data.toList = []) ∨ (kd = 2 ∧ s = 0 ∧ setB rs.data.toList = true) := by
 unfold kindP at h
 split at h
 · cases h; exact .inl ⟨rfl, rfl, rfl⟩
 split at h
 · split at h
   · cases h
   · rename_i hs
     cases h
     exact .inr (.inr ⟨rfl, rfl, by show setB (tl ws (i + 1)) = true; simpa using hs⟩)
 split at h
 · cases h
 · rename_i ho
   cases h
   have := off_bd ho
   exact .inr (.inl ⟨rfl, this.2.2.1, this.2.2.2, rfl⟩)
theorem until_right {ws : List Wd} {i : Nat} {line y : Int} {til : Bool} {x : Spot} (h : untilP ws i line = .inr (til, y, x)) :
 (til = true ∧ 1 ≤ y ∧ y ≤ 9999 ∧ Mom.rightB x.m x.k x.wd x.d x.t x.r = true) ∨ (til = false ∧ y = 0 ∧ x.m = 0 ∧ x.k = 0 ∧ x.wd = 0 ∧ x.d = 0 ∧ x.t = 0 ∧ x.r = 0) := by
 unfold untilP at h
 split at h
 · cases h; exact .inr ⟨rfl, rfl, rfl, rfl, rfl, rfl, rfl, rfl⟩
 split at h
 · cases h
 split at h
 · cases h
 · rename_i hy _ _ hs
   cases h
   have := year_bd hy
   exact .inl ⟨rfl, this.1, this.2, spotP_right hs⟩
theorem era_mk {x : Era} (h : EraK x) : eraB x = true := by
 have hk : kindB x = true := by
  unfold kindB
  rcases h.kd with ⟨k, s0, r0⟩ | ⟨k, s1, s2, r0⟩ | ⟨k, s0, r0⟩
  · rw [if_pos k, s0, r0]; rfl
  · rw [if_neg (by omega), if_pos k, r0]; unfold saveB; simp; omega
  · rw [if_neg (by omega), if_neg (by omega), if_pos k, s0, r0]; rfl
 have he : endB x = true := by
  unfold endB
  rcases h.en with ⟨ht, y1, y2, hsp⟩ | ⟨ht, y0, m0, k0, wd0, d0, t0, r0⟩
  · rw [if_pos ht, hsp]; unfold yearB; simp; omega
  · rw [if_neg (by rw [ht]; simp), y0, m0, k0, wd0, d0, t0, r0]; rfl
 unfold eraB offB
 rw [h.fm, hk, he]
 simp only [Bool.and_true]
 exact decide_eq_true ⟨h.o1, h.o2⟩
theorem era_right {ws : List Wd} {i : Nat} {line : Int} {x : Era} (h : eraP ws i line = .inr x) : EraK x := by
 unfold eraP at h
 split at h; · cases h
 split at h; · cases h
 split at h; · cases h
 split at h; · cases h
 rename_i n1 _ _ _ _ hk n2 _ _ _ _ hu
 injection h with h
 subst h
 have ho := off_bd n1
 exact ⟨ho.1, ho.2.1, by show fmtB (tl ws (i + 2)) = true; simpa using n2, kind_right hk, until_right hu⟩
/-! Sources on the way. -/
structure Way (S : Source) : Prop where
 r : S.rules.length ≤ 200
 z : S.zones.length ≤ 50
 l : S.links.length ≤ 100
 rs : ∀ x ∈ S.rules, ruleB x = true
 ls : ∀ x ∈ S.links, linkB x = true
 zs : ∀ z ∈ S.zones, ZoneK z
 cl : ∀ z ∈ S.zones.dropLast, erasB z.es = true
 la : ∀ z, S.zones.getLast? = some z → ∃ es y, z.es = es ++ [y] ∧ ∀ x ∈ es, x.til = true
theorem eras_mk : ∀ (es : List Era) (y : Era), (∀ x ∈ es ++ [y], EraK x) → (∀ x ∈ es, x.til = true) → y.til = false → erasB (es ++ [y]) = true
 | [], y, h, _, hy => by
   show (eraB y && (y.til == !([] : List Era).isEmpty) && erasB []) = true
   rw [era_mk (h y (by simp)), hy]; rfl
 | x :: es, y, h, ht, hy => by
   have ih := eras_mk es y (fun z hz => h z (by simp at hz ⊢; right; exact hz)) (fun z hz => ht z (by simp [hz])) hy
   show (eraB x && (x.til == !(es ++ [y]).isEmpty) && erasB (es ++ [y])) = true
   rw [era_mk (h x (by simp)), ht x (by simp), ih]
   simp
theorem way_closed {S : Source} (h : Way S) (ho : openB S = false) : ∀ z ∈ S.zones, erasB z.es = true := by
 obtain ⟨rs, zs, ls⟩ := S
 intro z hz
 rcases List.eq_nil_or_concat zs with h0 | ⟨l, a, h0⟩
 · subst h0; cases hz
 · rw [List.concat_eq_append] at h0
   subst h0
   rcases List.mem_append.1 hz with hz | hz
   · exact h.cl z (by simpa using hz)
   · obtain rfl := List.mem_singleton.1 hz
     obtain ⟨es, y, e, ht⟩ := h.la z (by simp)
     have hk := h.zs z (by simp)
     obtain ⟨nm, es'⟩ := z
     simp only at e
     subst e
     rw [open_last] at ho
     exact eras_mk es y hk.es ht ho
theorem way_src {S : Source} (h : Way S) (ho : openB S = false) : srcB S = true := by
 unfold srcB lensB
 simp only [Bool.and_eq_true, decide_eq_true_eq, List.all_eq_true]
 refine ⟨⟨h.r, h.z, h.l⟩, h.rs, fun z hz => ?_, h.ls⟩
 have k := h.zs z hz
 unfold zoneB
 rw [k.nm, way_closed h ho z hz, decide_eq_true ⟨k.n1, k.n2⟩]; rfl
theorem way_line {S S' : Source} {ws : List Wd} {size : Nat} {line : Int} (h : lineP S ws size line = .inr S') (hw : Way S) :
 Way S' ∧ ((∃ x, ruleB x = true ∧ S' = ⟨S.rules ++ [x], S.zones, S.links⟩) ∨ (∃ x, linkB x = true ∧ S' = ⟨S.rules, S.zones, S.links ++ [x]⟩) ∨ (∃ nm x, placeB nm.data.toList = true ∧ EraK x ∧ S' = ⟨S.rules, S.zones ++ [⟨nm, [x]⟩], S.links⟩) ∨
  (∃ zs nm es x, EraK x ∧ S.zones = zs ++ [⟨nm, es⟩] ∧ S' = ⟨S.rules, zs ++ [⟨nm, es ++ [x]⟩], S.links⟩)) := by
 obtain ⟨rs, zs, ls⟩ := S
 unfold lineP at h
 split at h
 · rename_i ho
   unfold nextP at h
   split at h; · cases h
   rename_i h40
   split at h; · cases h
   split at h; · cases h
   rename_i x hx
   injection h with h; subst h
   have hk := era_right hx
   rcases List.eq_nil_or_concat zs with h0 | ⟨l, a, h0⟩
   · subst h0; cases ho
   · rw [List.concat_eq_append] at h0
     obtain ⟨nm, es⟩ := a
     subst h0
     simp only
     rw [add_last]
     have hz := hw.zs ⟨nm, es⟩ (by simp)
     rw [last_last] at h40
     refine ⟨⟨hw.r, by have := hw.z; simpa using this, hw.l, hw.rs, hw.ls, ?_, ?_, ?_⟩, .inr (.inr (.inr ⟨l, nm, es, x, hk, rfl, rfl⟩))⟩
     · intro z hzm
       rcases List.mem_append.1 hzm with hzm | hzm
       · exact hw.zs z (by simp [hzm])
       · obtain rfl := List.mem_singleton.1 hzm
         refine ⟨hz.nm, by simp, by simp; omega, fun y hy => ?_⟩
         rcases List.mem_append.1 hy with hy | hy
         · exact hz.es y hy
         · obtain rfl := List.mem_singleton.1 hy; exact hk
     · intro z hzm
       exact hw.cl z (by simpa using hzm)
     · intro z hzm
       have : z = ⟨nm, es ++ [x]⟩ := by simpa using hzm.symm
       subst this
       obtain ⟨es', y, e, ht⟩ := hw.la ⟨nm, es⟩ (by simp)
       simp only at e
       subst e
       rw [open_last] at ho
       refine ⟨es' ++ [y], x, rfl, fun q hq => ?_⟩
       rcases List.mem_append.1 hq with hq | hq
       · exact ht q hq
       · obtain rfl := List.mem_singleton.1 hq; exact ho
 rename_i ho
 have ho : openB ⟨rs, zs, ls⟩ = false := by simpa using ho
 split at h
 · unfold ruleLineP at h
   split at h; · cases h
   rename_i h200
   split at h; · cases h
   split at h; · cases h
   rename_i x hx
   injection h with h; subst h
   have hr := rule_right hx
   refine ⟨⟨by simp only [List.length_append, List.length_singleton] at h200 ⊢; omega, hw.z, hw.l, ?_, hw.ls, hw.zs, hw.cl, hw.la⟩, .inl ⟨x, hr, rfl⟩⟩
   intro y hy
   rcases List.mem_append.1 hy with hy | hy
   · exact hw.rs y hy
   · obtain rfl := List.mem_singleton.1 hy; exact hr
 split at h
 · unfold zoneP at h
   split at h; · cases h
   rename_i h50
   split at h; · cases h
   split at h; · cases h
   rename_i hp
   split at h; · cases h
   rename_i x hx
   injection h with h; subst h
   have hk := era_right hx
   have hp : placeB (tl ws 1) = true := by simpa using hp
   refine ⟨⟨hw.r, by simp only [List.length_append, List.length_singleton] at h50 ⊢; omega, hw.l, hw.rs, hw.ls, ?_, ?_, ?_⟩, .inr (.inr (.inl ⟨_, x, hp, hk, rfl⟩))⟩
   · intro z hzm
     rcases List.mem_append.1 hzm with hzm | hzm
     · exact hw.zs z hzm
     · obtain rfl := List.mem_singleton.1 hzm
       exact ⟨hp, by simp, by simp, fun y hy => by simp at hy; subst hy; exact hk⟩
   · intro z hzm
     exact way_closed hw ho z (by simpa using hzm)
   · intro z hzm
     have : z = ⟨tx ws 1, [x]⟩ := by simpa using hzm.symm
     subst this
     exact ⟨[], x, rfl, by simp⟩
 split at h
 · unfold linkP at h
   split at h; · cases h
   rename_i h100
   split at h; · cases h
   split at h; · cases h
   rename_i p1
   split at h; · cases h
   rename_i p2
   injection h with h; subst h
   have hl : linkB ⟨tx ws 1, tx ws 2⟩ = true := by
    unfold linkB
    rw [Bool.and_eq_true]
    exact ⟨by show placeB (tl ws 1) = true; simpa using p1, by show placeB (tl ws 2) = true; simpa using p2⟩
   refine ⟨⟨hw.r, hw.z, by simp only [List.length_append, List.length_singleton] at h100 ⊢; omega, hw.rs, ?_, hw.zs, hw.cl, hw.la⟩, .inr (.inl ⟨_, hl, rfl⟩)⟩
   intro y hy
   rcases List.mem_append.1 hy with hy | hy
   · exact hw.ls y hy
   · obtain rfl := List.mem_singleton.1 hy; exact hl
 · cases h
theorem way_none : Way ⟨[], [], []⟩ := ⟨by simp, by simp, by simp, by simp, by simp, by simp, by simp, by simp⟩
/-! How long a text may be. -/
theorem spot_short {m k wd d t r : Int} (h : Mom.rightB m k wd d t r = true) : ∃ W0 W1 W2, spotT m k wd d t r = [W0, W1, W2] ∧ W0.length + W1.length + W2.length ≤ 32 := by
 obtain ⟨i, K, W, D, R, hi, rfl, hK, rfl, hW, rfl, hD, rfl, hR, rfl, t1, t2, _⟩ := right_nat h
 have lD : (Mom.dec D).length ≤ 2 := Mom.dec_len 2 D (by omega) (by omega)
 have lT := timeD_len t1 t2
 have lA := wdD_len W hW
 have lM := short_len i hi
 have lR : (Mom.refD R).length ≤ 1 := by unfold Mom.refD; split; · simp
                                         split <;> simp
 have lK : (Mom.dayD K W D).length ≤ 7 := by
  unfold Mom.dayD
  split
  · omega
  split
  · simp only [List.length_append, List.length_cons, List.length_nil]; omega
  split <;> (simp only [List.length_append, List.length_cons, List.length_nil]; omega)
 refine ⟨_, _, _, rfl, ?_⟩
 simp only [Int.toNat_natCast, List.length_append]
 rw [show ((i : Int) + 1).toNat - 1 = i by omega]
 omega
theorem ruleL_short {x : Rule} (h : RuleK x) : (ruleL x).length ≤ 160 := by
 obtain ⟨W0, W1, W2, e, hs⟩ := spot_short h.spot
 have h1 := set_len h.nm
 have h2 := decI_le h.a1 h.a2
 have h3 : (toT x).length ≤ 4 := by
  unfold toT
  split
  · simp
  split
  · simp
  · rcases h.b2 with h2 | h2
    · exact decI_le h.b1 h2
    · contradiction
 have h4 := timeD_len (t := x.s) (by have := h.s1; omega) (by have := h.s2; omega)
 have h5 := or_len (s := x.l) (n := 8) (letter_len h.l) (by omega)
 rw [rule_text e]
 simp only [List.length_append, List.length_cons, List.length_nil]
 omega
theorem eraL_short {x : Era} (h : EraK x) : (eraL x).length ≤ 110 := by
 have h1 := timeD_len (t := x.off) (by have := h.o1; omega) (by have := h.o2; omega)
 obtain ⟨b1, b2⟩ := save_bd h
 have h2 := timeD_len (t := x.s) (by omega) (by omega)
 have h3 : (orT x.rs).length ≤ 20 := or_len (by rcases h.kd with ⟨_, _, e⟩ | ⟨_, _, _, e⟩ | ⟨_, _, e⟩; rw [e]; simp; rw [e]; simp; exact set_len e) (by omega)
 have h4 := fmt_len h.fm
 obtain ⟨R, hR⟩ : ∃ R : List UInt8, R = if x.kd = 1 then Mom.timeD x.s else orT x.rs := ⟨_, rfl⟩
 have h5 : R.length ≤ 21 := by rw [hR]; split <;> omega
 rcases h.en with ⟨ht, y1, y2, hsp⟩ | ⟨ht, -⟩
 · obtain ⟨W0, W1, W2, e, hs⟩ := spot_short hsp
   have h6 := decI_le y1 y2
   rw [era_text hR ht e]
   simp only [List.length_append, List.length_cons, List.length_nil]
   omega
 · rw [era_text0 hR ht]
   simp only [List.length_append, List.length_cons, List.length_nil]
   omega
theorem linkL_short {x : Link} (h : linkB x = true) : (linkL x).length ≤ 160 := by
 unfold linkB at h
 simp only [Bool.and_eq_true] at h
 have h1 := place_len h.1
 have h2 := place_len h.2
 rw [link_text]
 simp only [List.length_append, List.length_cons, List.length_nil]
 omega
theorem line_short {S S' : Source} {ws : List Wd} {size : Nat} {line : Int} (h : lineP S ws size line = .inr S') (hw : Way S) : (textL S').length ≤ (textL S).length + 160 := by
 rw [textL_eq, textL_eq]
 rcases (way_line h hw).2 with ⟨x, hx, rfl⟩ | ⟨x, hx, rfl⟩ | ⟨nm, x, hn, hx, rfl⟩ | ⟨zs, nm, es, x, hx, e, rfl⟩
 · have := ruleL_short (rule_k hx)
   simp only [List.map_append, List.flatten_append, List.length_append, List.map_cons, List.map_nil, List.flatten_cons, List.flatten_nil, List.length_nil]; omega
 · have := linkL_short hx
   simp only [List.map_append, List.flatten_append, List.length_append, List.map_cons, List.map_nil, List.flatten_cons, List.flatten_nil, List.length_nil]; omega
 · have := eraL_short hx
   have := place_len hn
   simp only [List.map_append, List.flatten_append, List.length_append, List.map_cons, List.map_nil, List.flatten_cons, List.flatten_nil, List.length_nil, zoneT_eq, List.length_cons]; omega
 · have := eraL_short hx
   rw [e]
   simp only [List.map_append, List.flatten_append, List.length_append, List.map_cons, List.map_nil, List.flatten_cons, List.flatten_nil, List.length_nil, zoneT_eq, List.length_cons]; omega
def full (l : ByteArray) : Bool := !l.data.toList.isEmpty
theorem parse_way : ∀ (ls : List ByteArray) (n : Int) (S S' : Source), parseP ls n S = .inr S' → Way S → Way S' ∧ openB S' = false ∧ (textL S').length ≤ (textL S).length + 160 * (ls.filter full).length
 | [], n, S, S', h, hw => by
   rw [parseP] at h
   split at h
   · cases h
   · injection h with h; subst h; rename_i ho; exact ⟨hw, by simpa using ho, by simp⟩
 | l :: ls, n, S, S', h, hw => by
   rw [parse_cons] at h
   split at h
   · cases h
   · rename_i S1 h1
     unfold readP at h1
     split at h1
     · cases h1
     split at h1
     · injection h1 with h1; subst h1
       obtain ⟨a, b, c⟩ := parse_way ls _ _ _ h hw
       refine ⟨a, b, Nat.le_trans c ?_⟩
       rw [List.filter_cons]
       split
       · rw [List.length_cons]; omega
       · omega
     · rename_i hne
       obtain ⟨a, b, c⟩ := parse_way ls _ _ _ h (way_line h1 hw).1
       have h2 := line_short h1 hw
       have hf : full l = true := by
        unfold full
        cases he : l.data.toList with
        | cons c r => rfl
        | nil =>
          exfalso
          have : l = ⟨#[]⟩ := Fie.ba_eq (by rw [he])
          subst this
          rw [none_split] at hne
          exact hne rfl
       refine ⟨a, b, ?_⟩
       rw [List.filter_cons, if_pos hf, List.length_cons]
       omega
theorem full_lines : ∀ (l : List UInt8), 2 * ((linesL l).filter (fun p => !p.isEmpty)).length ≤ l.length + 1 ∧ ((linesL l).head?.map (fun p => !p.isEmpty) ≠ some true → 2 * ((linesL l).filter (fun p => !p.isEmpty)).length ≤ l.length)
 | [] => by simp [linesL]
 | c :: r => by
   obtain ⟨h1, h2⟩ := full_lines r
   by_cases hc : c = 10
   · subst hc
     rw [linesL_lf]
     constructor
     · simp only [List.filter_cons, List.isEmpty_nil, List.length_cons]; simp; omega
     · intro _; simp only [List.filter_cons, List.isEmpty_nil, List.length_cons]; simp; omega
   · rw [linesL, if_neg hc]
     cases hl : linesL r with
     | nil => simp
     | cons x xs =>
       rw [hl] at h1 h2
       constructor
       · simp only [List.filter_cons, List.isEmpty_cons, List.length_cons] at h1 h2 ⊢
         cases hx : x.isEmpty
         · rw [hx] at h1 h2
           simp at h1 ⊢; omega
         · rw [hx] at h1 h2
           simp [hx] at h1 h2 ⊢; omega
       · intro h; simp at h
theorem text_way {t : ByteArray} {S : Source} (h : parseT t = .inr S) : srcB S = true ∧ (t.size ≤ 1000 → (textL S).length ≤ 100000) := by
 unfold parseT at h
 split at h
 · cases h
 obtain ⟨a, b, c⟩ := parse_way _ _ _ _ h way_none
 refine ⟨way_src a b, fun hz => ?_⟩
 rw [lines_eq, List.filter_map, List.length_map] at c
 have e : (full ∘ fun x : List UInt8 => (⟨x.toArray⟩ : ByteArray)) = fun p => !p.isEmpty := by
  funext p; unfold full; simp
 rw [e] at c
 have h1 := (full_lines t.data.toList).1
 have hz' : t.data.toList.length = t.size := by simp
 rw [hz'] at h1
 have h0 : (textL ⟨[], [], []⟩).length = 0 := rfl
 omega
theorem text_fault {t : ByteArray} {f : Fault} (h : parseT t = .inl f) : f.e ≠ 0 := by
 unfold parseT at h
 split at h
 · injection h with h; subst h; simp
 · exact (parse_line _ _ _ _ h).2.2.1
end Src
end Go.Proofs.YtdhbgelijjlifaaGreatDoor

set_option linter.unusedVariables false
set_option linter.unusedSimpArgs false
namespace Go.Proofs.YtdhbgelijjlifaaGreatDoor
open Go.RowKit Go.Shelf
def SaysB (w : World) (e : Ending) (w' : World) : Prop := ∃ (b : Bool) (y : Past w), e = .returned (.bool b) ∧ w' = y.x
theorem says_done {w w' : World} {b : Bool} [h : ExtC w w'] : SaysB w (.returned (.bool b)) w' := ⟨b, ⟨w', h.ext⟩, rfl, rfl⟩
set_option maxRecDepth 100000 in
set_option maxHeartbeats 8000000 in
theorem great_says (S : Source) (v : Value) (w : World) (hr : ReadsS w v S) : Calls Tryz.prog 18 #[v] w (SaysB w) := by
 obtain ⟨rl, zl, ll⟩ := S
 obtain ⟨vr, vz, vl, rfl, hr1, hr2, hr3⟩ := hr
 simp only at hr1 hr2 hr3
 obtain ⟨nr, hnr⟩ : ∃ n, rl.length = n := ⟨_, rfl⟩
 obtain ⟨nz, hnz⟩ : ∃ n, zl.length = n := ⟨_, rfl⟩
 obtain ⟨nl, hnl⟩ : ∃ n, ll.length = n := ⟨_, rfl⟩
 obtain ⟨zp, hzp, hz2, hz3⟩ := hr2
 rw [hnr] at hr1
 rw [hnz] at hz2
 rw [hnl] at hr3
 obtain ⟨ar, cr, er⟩ := shape_of hr1
 obtain ⟨az, cz, ez⟩ := shape_of hz2
 obtain ⟨al, cl, el⟩ := shape_of hr3
 subst er ez el
 have b2 := len_of hz2
 have Hz2 := Lib.hid hz2
 have Hz3 := Lib.hid hz3
 have Hnz := Lib.hid hnz
 have Hzp := Lib.hid hzp
 clear hr1 hz2 hz3 hr3 hnr hnz hnl hzp
 have hcs : (300 : Int) < nr ∨ (decide ((300 : Int) < nr) = false ∧ (100 : Int) < nz) ∨ (decide ((300 : Int) < nr) = false ∧ decide ((100 : Int) < nz) = false ∧ (200 : Int) < nl) ∨ (decide ((300 : Int) < nr) = false ∧ decide ((100 : Int) < nz) = false ∧ decide ((200 : Int) < nl) = false) := by
  by_cases h1 : (300 : Int) < nr
  · exact .inl h1
  by_cases h2 : (100 : Int) < nz
  · exact .inr (.inl ⟨decide_eq_false h1, h2⟩)
  by_cases h3 : (200 : Int) < nl
  · exact .inr (.inr (.inl ⟨decide_eq_false h1, decide_eq_false h2, h3⟩))
  · exact .inr (.inr (.inr ⟨decide_eq_false h1, decide_eq_false h2, decide_eq_false h3⟩))
 rcases hcs with h1 | ⟨h1, h2⟩ | ⟨h1, h2, h3⟩ | ⟨h1, h2, h3⟩
 case inr.inr.inr =>
  go_enter Tryz.func18, Tryz.ntmps18
  go_wp2_with fail
  go_loopw [3, 4] (fun sv iv wr => ∃ i n : Nat, i ≤ nz ∧ n ≤ i * 60 ∧ sv = .int .i64 n ∧ iv = .int .i64 i ∧ Ext (w.alloc (.cells #[.slice ar nr cr, .slice az nz cz, .slice al nl cl] 26)) wr) (fun _ iv _ => nz - (intOf iv).toNat)
  case atStart => exact ⟨0, 0, by omega, by omega, rfl, rfl, isext⟩
  case round =>
   obtain ⟨i, n, j1, j2, rfl, rfl, hx⟩ := hrel
   obtain ⟨y1, rfl⟩ := fin hx
   clear hx
   have hz9 : nz ≤ 100 := by have := of_decide_eq_false h2; omega
   by_cases hlt : i < nz
   · have hj : i < zl.length := by rw [Hnz.out]; exact hlt
     have hjp : i < zp.length := by have := congrArg List.length Hzp.out; rw [List.length_map] at this; omega
     rcases Hz2.out with ⟨_, _, e9, h9, _⟩ | ⟨b, o, c9, e9, k1, k2, m1, hc⟩
     · exact absurd h9 (by omega)
     injection e9 with e9 e8 e7
     subst e9
     clear e8 e7
     haveI : InW b w := ⟨m1⟩
     obtain ⟨c0, c1⟩ := zone_at hc i hjp
     clear hc
     have hre := Hz3.out zp[i] (List.getElem_mem hjp)
     generalize zp[i].2 = V at *
     obtain ⟨ne, hne⟩ : ∃ n, zp[i].1.es.length = n := ⟨_, rfl⟩
     rw [hne] at hre
     obtain ⟨ae, ce, rfl⟩ := shape_of hre
     have b4 := len_of hre
     clear hre hne
     by_cases h6 : (60 : Int) < ne
     · go_wp2
       go_ret
       exact says_done
     · have h6' : decide ((60 : Int) < ne) = false := decide_eq_false h6
       go_wp2
       go_roundw
       case rel => exact ⟨i + 1, n + ne, by omega, by omega, by go_num, by go_num, isext⟩
       case measure => simp [intOf]; omega
   · go_wp2
     all_goals (go_ret; exact says_done)
 all_goals
  go_enter Tryz.func18, Tryz.ntmps18
  go_wp2
  go_ret
  exact says_done
end Go.Proofs.YtdhbgelijjlifaaGreatDoor
namespace Go.Proofs.YtdhbgelijjlifaaGreatDoor
open Go.ChangeShapes Go.WideShapes Go.ChangeAt Go.RowKit Go.Joins
structure GoodT (w : World) : Prop where
 good : GoodW w
 tab : TabW w
theorem tabw_of {W : World} {d : DataW Unit} {r : List (String × DataW Unit)} (hL : laidMet Tryz.prog (("internal/strconv.uint64pow10", d) :: r) W) (hd : d = Lib.tabData .u64 Lib.pow10Tab) : TabW W := by
 subst hd
 exact Lib.tabIs_of_head (g := 3) (t := 189) (e := 137) (n := 20) (by kernel_rfl) (by kernel_rfl) Tryz.underlying189 Tryz.underlying137 (by kernel_rfl) (by kernel_rfl) hL
end Go.Proofs.YtdhbgelijjlifaaGreatDoor

set_option linter.unusedVariables false
set_option linter.unusedSimpArgs false
namespace Go.Proofs.YtdhbgelijjlifaaGreatDoor
open Go.RowKit Go.Shelf
namespace Src
theorem bk_fits {S : Source} (h : srcB S = true) : fits S := by
 have K := src_k h
 have le : ∀ {n m : Nat}, n ≤ m → m ≤ 1000 → n ≤ 1048576 := fun h1 h2 => by omega
 refine ⟨fun x hx => ?_, fun z hz => ?_, fun x hx => ?_⟩
 · have k := K.rs x hx
   exact ⟨le (show x.nm.size ≤ 20 from set_len k.nm) (by omega), le (show x.l.size ≤ 8 from letter_len k.l) (by omega)⟩
 · have k := K.zs z hz
   refine ⟨le (show z.nm.size ≤ 40 from place_len k.nm) (by omega), fun x hx => ?_⟩
   have e := k.es x hx
   refine ⟨le (m := 20) ?_ (by omega), le (show x.fm.size ≤ 20 from fmt_len e.fm) (by omega)⟩
   show x.rs.data.toList.length ≤ 20
   rcases e.kd with ⟨_, _, r⟩ | ⟨_, _, _, r⟩ | ⟨_, _, r⟩
   · rw [r]; simp
   · rw [r]; simp
   · exact set_len r
 · have k := K.ls x hx
   unfold linkB at k
   simp only [Bool.and_eq_true] at k
   exact ⟨le (show x.tg.size ≤ 40 from place_len k.1) (by omega), le (show x.nm.size ≤ 40 from place_len k.2) (by omega)⟩
theorem print_cases (S : Source) : ((printP S).2 = 0 ∧ parseT ⟨(printP S).1.toArray⟩ = .inr S ∧ (printP S).1.length ≤ 100000) ∨ ((printP S).2 == 0) = false := by
 unfold printP
 cases h : srcB S
 · right; rw [if_pos rfl]; rfl
 · rw [if_neg (by simp)]
   by_cases hz : 100000 < (textL S).length
   · right; rw [if_pos hz]; rfl
   · left; rw [if_neg hz]; exact ⟨rfl, parse_text h hz, by simp only; omega⟩
theorem print_read {t : ByteArray} {S : Source} (ht : parseT t = .inr S) : ((printP S).2 = 0 ∧ parseT ⟨(printP S).1.toArray⟩ = .inr S ∧ (printP S).1.length ≤ 100000) ∨ ((printP S).2 = 12 ∧ (1000 : Int) < t.size) := by
 obtain ⟨h, hs⟩ := text_way ht
 unfold printP
 rw [h, if_neg (by simp)]
 by_cases hz : 100000 < (textL S).length
 · right
   rw [if_pos hz]
   refine ⟨rfl, ?_⟩
   rcases Nat.lt_or_ge 1000 t.size with h1 | h1
   · omega
   · have := hs h1; omega
 · left; rw [if_neg hz]; exact ⟨rfl, parse_text h hz, by simp only; omega⟩
end Src
set_option maxRecDepth 100000 in
set_option maxHeartbeats 32000000 in
theorem sback_law (S : Source) (v : Value) (hf : fits S) (s : ByteArray) (hs : s.size ≤ 1048576) (w : World) (hg : GoodW w) (hT : TabW w) (hr : ReadsS w v S) : Rets Tryz.prog 7 #[v, .string s] w (.bool true) := by
 have HG := fun w' (hx : Ext w w') => Lib.hid (great_says S v w' (hr.ext hx))
 have HA := fun w h => Lib.hid (slive_any w h)
 have HR1 := fun w' (hx : Ext w w') => sright_any S hf v w' (hg.max.ext hx) (hr.ext hx)
 have HP1 := fun w' (hx : Ext w w') => Lib.hid (sprint_core S v w' (hT.ext hx) (hr.ext hx) (fun w'' hx2 => HR1 w'' (hx.trans hx2)))
 have HS := fun S va vb w ha hb => Lib.hid (dsame_any S va vb w ha hb)
 have hc1 : ((Src.printP S).2 = 0 ∧ ∀ w, GoodW w → Hid (Calls Tryz.prog 8 #[.string ⟨(Src.printP S).1.toArray⟩] w (ParseEnd w (.inr S)))) ∨ ((Src.printP S).2 == 0) = false := by
  rcases Src.print_cases S with ⟨h1, h2, h3⟩ | h
  · exact .inl ⟨h1, fun w hg => by have := sparse_any ⟨(Src.printP S).1.toArray⟩ (by unfold maxLen; simp [ByteArray.size]; omega) w hg; rw [h2] at this; exact this⟩
  · exact .inr h
 have HPt := fun w h => Lib.hid (sparse_any s (by unfold maxLen; omega) w h)
 have hc2 : (∃ f, Src.parseT s = .inl f ∧ (f.e == 0) = false) ∨ ∃ S2, Src.parseT s = .inr S2 ∧ Src.srcB S2 = true ∧ (((Src.printP S2).2 = 0 ∧ ∀ w, GoodW w → Hid (Calls Tryz.prog 8 #[.string ⟨(Src.printP S2).1.toArray⟩] w (ParseEnd w (.inr S2)))) ∨ ((Src.printP S2).2 = 12 ∧ (1000 : Int) < s.size)) := by
  cases hp : Src.parseT s with
  | inl f => exact .inl ⟨f, rfl, beq_eq_false_iff_ne.2 (Src.text_fault hp)⟩
  | inr S2 =>
    refine .inr ⟨S2, rfl, (Src.text_way hp).1, ?_⟩
    rcases Src.print_read hp with ⟨h1, h2, h3⟩ | h
    · exact .inl ⟨h1, fun w hg => by have := sparse_any ⟨(Src.printP S2).1.toArray⟩ (by unfold maxLen; simp [ByteArray.size]; omega) w hg; rw [h2] at this; exact this⟩
    · exact .inr h
 generalize (Src.printP S).1 = T at *
 generalize (Src.printP S).2 = E at *
 have HRS := Lib.hid hr
 obtain ⟨vr, vz, vl, rfl, hr1, hr2, hr3⟩ := hr
 clear hr1 hr2 hr3 hf HR1
 unfold Rets
 go_enter Tryz.func7, Tryz.ntmps7
 go_wp2_with fail
 go_at_call 18
 refine (HG _ isext).out.mono ?_
 rintro _ _ ⟨b, y1, rfl, rfl⟩
 clear HG
 cases b
 case true =>
  go_wp2_with (go_at_call 10; refine Rets.use (HA _ (hg.ext isext)).out ?_; intro _)
  go_ret
  exact ⟨rfl, done⟩
 go_wp2_with fail
 go_at_call 19
 refine Rets.use (HP1 _ isext).out ?_
 intro y2
 clear HP1
 rcases hc1 with ⟨rfl, HQ1⟩ | hE
 · go_wp2_with fail
   go_at_call 8
   refine (HQ1 _ (hg.ext isext)).out.mono ?_
   rintro _ _ ⟨v5, y3, rfl, hr5, rfl⟩
   have R5 := Lib.hid hr5
   obtain ⟨p1, p2, p3, rfl, x1, ⟨zp1, -, x2, -⟩, x3⟩ := hr5
   obtain ⟨i1, f1, rfl⟩ := shape_of x1
   obtain ⟨i2, f2, rfl⟩ := shape_of x2
   obtain ⟨i3, f3, rfl⟩ := shape_of x3
   clear x1 x2 x3 HQ1
   go_wp2_with fail
   go_at_call 11
   refine Rets.use (HS S _ _ _ (R5.out.ext isext) (HRS.out.ext isext)).out ?_
   intro y4
   rcases hc2 with ⟨f, hp, he⟩ | ⟨S2, hp, hB, hc3⟩
   · simp only [hp] at HPt
     clear hp
     obtain ⟨e, l1, a1⟩ := f
     simp only at he
     go_wp2_with fail
     go_at_call 8
     refine (HPt _ (hg.ext isext)).out.mono ?_
     rintro _ _ ⟨rfl, y5, rfl⟩
     go_wp2_with (go_at_call 10; refine Rets.use (HA _ (hg.ext isext)).out ?_; intro _)
     go_ret
     exact ⟨ret_bool (by have he2 : ¬ e = 0 := beq_eq_false_iff_ne.1 he; simp [he2]), done⟩
   · simp only [hp] at HPt
     clear hp
     go_wp2_with fail
     go_at_call 8
     refine (HPt _ (hg.ext isext)).out.mono ?_
     rintro _ _ ⟨v6, y6, rfl, hr6, rfl⟩
     have R6 := Lib.hid hr6
     obtain ⟨p4, p5, p6, rfl, x4, ⟨zp2, -, x5, -⟩, x6⟩ := hr6
     obtain ⟨i4, f4, rfl⟩ := shape_of x4
     obtain ⟨i5, f5, rfl⟩ := shape_of x5
     obtain ⟨i6, f6, rfl⟩ := shape_of x6
     clear x4 x5 x6
     have hTy : TabW y6.x := hT.ext isext
     have hGy : GoodW y6.x := hg.ext isext
     have HR2 := fun w' (hx : Ext y6.x w') => sright_any S2 (Src.bk_fits hB) _ w' (hGy.max.ext hx) (R6.out.ext hx)
     have HP2 := fun w' (hx : Ext y6.x w') => Lib.hid (sprint_core S2 _ w' (hTy.ext hx) (R6.out.ext hx) (fun w'' hx2 => HR2 w'' (hx.trans hx2)))
     have HR3 : ∀ w', Ext y6.x w' → Hid (Rets Tryz.prog 21 #[.agg #[.slice i4 S2.rules.length f4, .slice i5 S2.zones.length f5, .slice i6 S2.links.length f6]] w' (.bool true)) := fun w' hx => by have := HR2 w' hx; rw [hB] at this; exact this
     clear HR2
     generalize (Src.printP S2).1 = T2 at *
     generalize (Src.printP S2).2 = E2 at *
     rcases hc3 with ⟨rfl, HQ3⟩ | ⟨rfl, hbig⟩
     · go_wp2_with fail
       go_at_call 19
       refine Rets.use (HP2 _ isext).out ?_
       intro y7
       go_wp2_with fail
       go_at_call 8
       refine (HQ3 _ (hg.ext isext)).out.mono ?_
       rintro _ _ ⟨v8, y8, rfl, hr8, rfl⟩
       have R8 := Lib.hid hr8
       obtain ⟨q4, q5, q6, rfl, x4, ⟨zp3, -, x5, -⟩, x6⟩ := hr8
       obtain ⟨j4, g4, rfl⟩ := shape_of x4
       obtain ⟨j5, g5, rfl⟩ := shape_of x5
       obtain ⟨j6, g6, rfl⟩ := shape_of x6
       clear x4 x5 x6
       go_wp2_with (first | (go_at_call 10; refine Rets.use (HA _ (hg.ext isext)).out ?_; intro _) | (go_at_call 21; refine Rets.use (HR3 _ isext).out ?_; intro _) | (go_at_call 11; refine Rets.use (HS S2 _ _ _ (R6.out.ext isext) (R8.out.ext isext)).out ?_; intro _))
       go_ret
       exact ⟨rfl, done⟩
     · go_wp2_with fail
       go_at_call 19
       refine Rets.use (HP2 _ isext).out ?_
       intro y7
       go_wp2_with (go_at_call 10; refine Rets.use (HA _ (hg.ext isext)).out ?_; intro _)
       go_ret
       exact ⟨rfl, done⟩
 · rcases hc2 with ⟨f, hp, he⟩ | ⟨S2, hp, hB, hc3⟩
   · simp only [hp] at HPt
     clear hp
     obtain ⟨e, l1, a1⟩ := f
     simp only at he
     go_wp2_with fail
     go_at_call 8
     refine (HPt _ (hg.ext isext)).out.mono ?_
     rintro _ _ ⟨rfl, y5, rfl⟩
     go_wp2_with (go_at_call 10; refine Rets.use (HA _ (hg.ext isext)).out ?_; intro _)
     go_ret
     exact ⟨ret_bool (by have he2 : ¬ e = 0 := beq_eq_false_iff_ne.1 he; simp [he2]), done⟩
   · simp only [hp] at HPt
     clear hp
     go_wp2_with fail
     go_at_call 8
     refine (HPt _ (hg.ext isext)).out.mono ?_
     rintro _ _ ⟨v6, y6, rfl, hr6, rfl⟩
     have R6 := Lib.hid hr6
     obtain ⟨p4, p5, p6, rfl, x4, ⟨zp2, -, x5, -⟩, x6⟩ := hr6
     obtain ⟨i4, f4, rfl⟩ := shape_of x4
     obtain ⟨i5, f5, rfl⟩ := shape_of x5
     obtain ⟨i6, f6, rfl⟩ := shape_of x6
     clear x4 x5 x6
     have hTy : TabW y6.x := hT.ext isext
     have hGy : GoodW y6.x := hg.ext isext
     have HR2 := fun w' (hx : Ext y6.x w') => sright_any S2 (Src.bk_fits hB) _ w' (hGy.max.ext hx) (R6.out.ext hx)
     have HP2 := fun w' (hx : Ext y6.x w') => Lib.hid (sprint_core S2 _ w' (hTy.ext hx) (R6.out.ext hx) (fun w'' hx2 => HR2 w'' (hx.trans hx2)))
     have HR3 : ∀ w', Ext y6.x w' → Hid (Rets Tryz.prog 21 #[.agg #[.slice i4 S2.rules.length f4, .slice i5 S2.zones.length f5, .slice i6 S2.links.length f6]] w' (.bool true)) := fun w' hx => by have := HR2 w' hx; rw [hB] at this; exact this
     clear HR2
     generalize (Src.printP S2).1 = T2 at *
     generalize (Src.printP S2).2 = E2 at *
     rcases hc3 with ⟨rfl, HQ3⟩ | ⟨rfl, hbig⟩
     · go_wp2_with fail
       go_at_call 19
       refine Rets.use (HP2 _ isext).out ?_
       intro y7
       go_wp2_with fail
       go_at_call 8
       refine (HQ3 _ (hg.ext isext)).out.mono ?_
       rintro _ _ ⟨v8, y8, rfl, hr8, rfl⟩
       have R8 := Lib.hid hr8
       obtain ⟨q4, q5, q6, rfl, x4, ⟨zp3, -, x5, -⟩, x6⟩ := hr8
       obtain ⟨j4, g4, rfl⟩ := shape_of x4
       obtain ⟨j5, g5, rfl⟩ := shape_of x5
       obtain ⟨j6, g6, rfl⟩ := shape_of x6
       clear x4 x5 x6
       go_wp2_with (first | (go_at_call 10; refine Rets.use (HA _ (hg.ext isext)).out ?_; intro _) | (go_at_call 21; refine Rets.use (HR3 _ isext).out ?_; intro _) | (go_at_call 11; refine Rets.use (HS S2 _ _ _ (R6.out.ext isext) (R8.out.ext isext)).out ?_; intro _))
       go_ret
       exact ⟨rfl, done⟩
     · go_wp2_with fail
       go_at_call 19
       refine Rets.use (HP2 _ isext).out ?_
       intro y7
       go_wp2_with (go_at_call 10; refine Rets.use (HA _ (hg.ext isext)).out ?_; intro _)
       go_ret
       exact ⟨rfl, done⟩
theorem backlaw_row2 (S : Source) (v : Value) (s : ByteArray) (hs : s.size ≤ 1048576) (w : World) (hr : ReadsS w v S) (hf : fits S) (hg : GoodT w) : Rets Tryz.prog 7 #[v, .string s] w (.bool true) := sback_law S v hf s hs w hg.good hg.tab hr
end Go.Proofs.YtdhbgelijjlifaaGreatDoor

