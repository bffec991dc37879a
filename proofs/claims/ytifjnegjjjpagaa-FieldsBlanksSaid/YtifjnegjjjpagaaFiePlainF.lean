/- Plain law: what was joined, or stands between blanks, is split into the same. -/
import Derived.Test.YtifjnegjjjpagaaFieWalkM
set_option linter.unusedVariables false
set_option linter.unusedSimpArgs false
namespace Go.Proofs.Ytifjnegjjjpagaa
open Go.RowKit
namespace Fie

theorem get_mid {s : ByteArray} {pre rest : List UInt8} {c : UInt8} (h : s.data.toList = pre ++ c :: rest) : ∃ hl : pre.length < s.size, s[pre.length] = c := by
  have hz : s.size = s.data.toList.length := by simp
  have hl : pre.length < s.size := by rw [hz, h]; simp
  refine ⟨hl, ?_⟩
  have e : s[pre.length] = s.data.toList[pre.length]'(by rw [← hz]; exact hl) := rfl
  rw [e]
  simp only [h]
  simp
theorem size_of {s : ByteArray} {l : List UInt8} (h : s.data.toList = l) : s.size = l.length := by rw [← h]; simp
theorem stop_run (p : UInt8 → Bool) (s : ByteArray) : ∀ (mid pre rest : List UInt8), s.data.toList = pre ++ mid ++ rest → (∀ c ∈ mid, p c = true) → (∀ c r, rest = c :: r → p c = false) → stop p s pre.length = pre.length + mid.length
  | [], pre, rest, h, _, h2 => by
    cases rest with
    | nil =>
      have := size_of h
      rw [stop_end p s _ (by rw [this]; simp)]; simp
    | cons c r =>
      obtain ⟨hl, hc⟩ := get_mid (s := s) (pre := pre) (rest := r) (c := c) (by simpa using h)
      rw [stop_no p s _ hl (by rw [hc]; exact h2 c r rfl)]; simp
  | c :: mid, pre, rest, h, h1, h2 => by
    obtain ⟨hl, hc⟩ := get_mid (s := s) (pre := pre) (rest := mid ++ rest) (c := c) (by simpa using h)
    rw [stop_yes p s _ hl (by rw [hc]; exact h1 c (by simp))]
    have := stop_run p s mid (pre ++ [c]) rest (by simpa using h) (fun x hx => h1 x (by simp [hx])) h2
    simp only [List.length_append, List.length_cons, List.length_nil, Nat.zero_add] at this ⊢
    omega
theorem stop_ahead (p : UInt8 → Bool) (s : ByteArray) : ∀ (f k j : Nat) (_ : s.size - k = f) (_ : k ≤ j) (hj : j < s.size), j < stop p s k → p s[j] = true
  | 0, k, j, hf, h, hj, hs => by omega
  | f + 1, k, j, hf, h, hj, hs => by
    have hk : k < s.size := by omega
    cases hp : p s[k]
    · rw [stop_no p s k hk hp] at hs; omega
    · by_cases e : k = j
      · subst e; exact hp
      · rw [stop_yes p s k hk hp] at hs
        exact stop_ahead p s f (k + 1) j (by omega) (by omega) hj hs
theorem all_of_stop (p : UInt8 → Bool) (s : ByteArray) (h : stop p s 0 = s.size) : ∀ c ∈ s.data.toList, p c = true := by
  intro c hc
  obtain ⟨i, hi, rfl⟩ := List.getElem_of_mem hc
  have hi' : i < s.size := by simpa using hi
  exact stop_ahead p s _ 0 i rfl (by omega) hi' (by omega)
theorem ok_all {x : ByteArray} (h : fieldOk x = true) : ∀ c ∈ x.data.toList, within c = true := all_of_stop _ _ (of_decide_eq_true h)
theorem plain_all {x : ByteArray} (h : plain x = true) : x.size ≠ 0 ∧ ∀ c ∈ x.data.toList, bare c = true := by
  have := of_decide_eq_true h
  exact ⟨this.1, all_of_stop _ _ this.2⟩
/-- What may stand behind a field. -/
def Sep (rest : List UInt8) : Prop := rest = [] ∨ ∃ c r, rest = c :: r ∧ (blank c = true ∨ (c.toNat : Int) = 35)
theorem blank_not_bare {c : UInt8} (h : blank c = true) : bare c = false := by simp [blank] at h; simp [bare]; omega
theorem tail_ok {s : ByteArray} {pre rest : List UInt8} (h : s.data.toList = pre ++ rest) (hs : Sep rest) : tailOk s pre.length = true := by
  unfold tailOk
  rcases hs with rfl | ⟨c, r, rfl, hc⟩
  · have := size_of h
    rw [dif_neg (by rw [this]; simp)]
  · obtain ⟨hl, e⟩ := get_mid h
    rw [dif_pos hl, e]
    rcases hc with hc | hc
    · rw [hc]; simp
    · rw [decide_eq_true hc]; rfl
theorem ext_mid {s : ByteArray} {pre mid rest : List UInt8} (h : s.data.toList = pre ++ mid ++ rest) : (s.extract pre.length (pre.length + mid.length)).data.toList = mid := by
  rw [Lib.extract_data, h, List.append_assoc, List.drop_left, show pre.length + mid.length - pre.length = mid.length by omega, List.take_left]
theorem out_plain_list {x : ByteArray} (h : plain x = true) : (fieldOut x).data.toList = x.data.toList := by rw [out_plain h]
theorem out_quoted_list {x : ByteArray} (h : plain x = false) : (fieldOut x).data.toList = 34 :: x.data.toList ++ [34] := by rw [out_quoted h]; simp [ByteArray.data_append]

theorem cut_field {s x : ByteArray} {pre rest : List UInt8} {cnt : Nat} (h : s.data.toList = pre ++ (fieldOut x).data.toList ++ rest) (hx : fieldOk x = true) (hs : Sep rest) (hc : cnt < 16) :
    ∃ (hl : pre.length < s.size) (lo hi : Nat), ¬ (s[pre.length].toNat : Int) = 35 ∧ cut s pre.length cnt = good lo hi (pre.length + (fieldOut x).size) ∧ s.extract lo hi = x := by
  have hsep : ∀ c r, rest = c :: r → bare c = false := by
    intro c r e
    rcases hs with rfl | ⟨c', r', rfl, hc⟩
    · cases e
    · cases e
      rcases hc with hc | hc
      · exact blank_not_bare hc
      · simp [bare]; omega
  cases hp : plain x
  · rw [out_quoted_list hp] at h
    have hz : (fieldOut x).size = x.data.toList.length + 2 := by
      have := size_of (out_quoted_list hp); simp at this ⊢; omega
    obtain ⟨hl, e⟩ := get_mid (s := s) (pre := pre) (rest := x.data.toList ++ [34] ++ rest) (c := 34) (by simpa using h)
    have hw : stop within s (pre.length + 1) = pre.length + 1 + x.data.toList.length := by
      have := stop_run within s x.data.toList (pre ++ [34]) ([34] ++ rest) (by simpa using h) (ok_all hx) (by intro c r e; simp at e; rw [← e.1]; rfl)
      simpa using this
    obtain ⟨hl2, e2⟩ := get_mid (s := s) (pre := pre ++ [34] ++ x.data.toList) (rest := rest) (c := 34) (by simpa using h)
    have hlen : (pre ++ [34] ++ x.data.toList).length = pre.length + 1 + x.data.toList.length := by simp; omega
    simp only [hlen] at hl2 e2
    have ht := tail_ok (s := s) (pre := pre ++ [34] ++ x.data.toList ++ [34]) (rest := rest) (by simpa using h) hs
    have hlen2 : (pre ++ [34] ++ x.data.toList ++ [34]).length = pre.length + 1 + x.data.toList.length + 1 := by simp; omega
    rw [hlen2] at ht
    refine ⟨hl, pre.length + 1, pre.length + 1 + x.data.toList.length, by rw [e]; decide, ?_, ?_⟩
    · unfold cut
      rw [dif_pos hl, if_pos (by rw [e]; decide), if_neg (by omega)]
      simp only [hw]
      rw [dif_pos hl2, if_pos (by rw [e2]; decide), if_pos ht, hz, show pre.length + (x.data.toList.length + 2) = pre.length + 1 + x.data.toList.length + 1 by omega]
    · apply ba_eq
      have := ext_mid (s := s) (pre := pre ++ [34]) (mid := x.data.toList) (rest := [34] ++ rest) (by simpa using h)
      simpa using this
  · obtain ⟨hne, hall⟩ := plain_all hp
    rw [out_plain_list hp] at h
    have hz : (fieldOut x).size = x.data.toList.length := by
      have := size_of (out_plain_list hp); simpa using this
    obtain ⟨c, r, hx2⟩ : ∃ c r, x.data.toList = c :: r := by
      cases hd : x.data.toList with
      | nil => exact absurd (by have := size_of hd; simpa using this) hne
      | cons c r => exact ⟨c, r, rfl⟩
    have hcb : bare c = true := hall c (by rw [hx2]; simp)
    obtain ⟨hl, e⟩ := get_mid (s := s) (pre := pre) (rest := r ++ rest) (c := c) (by rw [h, hx2]; simp)
    have hw := stop_run bare s x.data.toList pre rest h hall hsep
    have ht := tail_ok (s := s) (pre := pre ++ x.data.toList) (rest := rest) h hs
    rw [List.length_append] at ht
    have hc34 : ¬ (c.toNat : Int) = 34 ∧ ¬ (c.toNat : Int) = 35 := by simp [bare] at hcb; omega
    refine ⟨hl, pre.length, pre.length + x.data.toList.length, by rw [e]; exact hc34.2, ?_, ?_⟩
    · unfold cut
      rw [dif_pos hl, if_neg (by rw [e]; exact hc34.1), if_neg (by rw [e, hcb]; simp), if_neg (by omega), hw, if_pos ht, hz]
    · apply ba_eq
      exact ext_mid h
theorem head_not_blank (x : ByteArray) : ∃ c r, (fieldOut x).data.toList = c :: r ∧ blank c = false := by
  cases hp : plain x
  · exact ⟨34, _, out_quoted_list hp, rfl⟩
  · obtain ⟨hne, hall⟩ := plain_all hp
    rw [out_plain_list hp]
    cases hd : x.data.toList with
    | nil => exact absurd (by have := size_of hd; simpa using this) hne
    | cons c r =>
      refine ⟨c, r, rfl, ?_⟩
      have := hall c (by rw [hd]; simp)
      simp [bare] at this; simp [blank]; omega
/-- Fields with blanks ahead. -/
def body : List (List UInt8 × ByteArray) → List UInt8
  | [] => []
  | p :: ps => p.1 ++ (fieldOut p.2).data.toList ++ body ps
def Tail (t : List UInt8) : Prop := t = [] ∨ ∃ g r, t = g ++ 35 :: r ∧ ∀ c ∈ g, blank c = true
theorem Tail.sep {t : List UInt8} (h : Tail t) : Sep t := by
  rcases h with rfl | ⟨g, r, rfl, hg⟩
  · exact .inl rfl
  · cases g with
    | nil => exact .inr ⟨35, r, rfl, .inr rfl⟩
    | cons c g => exact .inr ⟨c, _, rfl, .inl (hg c (by simp))⟩
theorem split_body (s : ByteArray) (tail : List UInt8) (ht : Tail tail) : ∀ (ps : List (List UInt8 × ByteArray)) (pre : List UInt8) (ws : List (ByteArray × Int)),
    s.data.toList = pre ++ body ps ++ tail → (∀ p ∈ ps, (∀ c ∈ p.1, blank c = true) ∧ fieldOk p.2 = true) → (∀ p ∈ ps.tail, p.1 ≠ []) → ws.length + ps.length ≤ 16 →
    ∃ vs, run s (stop blank s pre.length) ws = (ws ++ vs, 0, 0) ∧ vs.map (·.1) = ps.map (·.2)
  | [], pre, ws, h, _, _, _ => by
    refine ⟨[], ?_, rfl⟩
    simp only [body, List.append_nil] at h ⊢
    rcases ht with rfl | ⟨g, r, rfl, hg⟩
    · have := size_of h
      rw [run_end]
      rw [stop_end blank s _ (by rw [this]; simp), this]; simp
    · rw [stop_run blank s g pre (35 :: r) (by simpa using h) hg (by intro c r' e; cases e; rfl)]
      obtain ⟨hl, e⟩ := get_mid (s := s) (pre := pre ++ g) (rest := r) (c := 35) (by simpa using h)
      rw [List.length_append] at hl
      simp only [List.length_append] at e
      exact run_hash s _ ws hl (by rw [e]; rfl)
  | (g, x) :: ps, pre, ws, h, h1, h2, h3 => by
    obtain ⟨hg, hx⟩ := h1 (g, x) (by simp)
    simp only [body] at h
    have hsep : Sep (body ps ++ tail) := by
      cases ps with
      | nil => exact ht.sep
      | cons p ps =>
        obtain ⟨c, r, e⟩ : ∃ c r, p.1 = c :: r := by
          cases hp : p.1 with
          | nil => exact absurd hp (h2 p (by simp))
          | cons c r => exact ⟨c, r, rfl⟩
        exact .inr ⟨c, r ++ (fieldOut p.2).data.toList ++ body ps ++ tail, by simp [body, e], .inl ((h1 p (by simp)).1 c (by rw [e]; simp))⟩
    obtain ⟨c, r, hc, hcb⟩ := head_not_blank x
    rw [stop_run blank s g pre ((fieldOut x).data.toList ++ body ps ++ tail) (by simpa using h) hg (by intro c' r' e; rw [hc] at e; simp at e; rw [← e.1]; exact hcb)]
    obtain ⟨hl, lo, hi, n35, hcut, hext⟩ := cut_field (s := s) (x := x) (pre := pre ++ g) (rest := body ps ++ tail) (cnt := ws.length) (by simpa using h) hx hsep (by simp at h3; omega)
    simp only [List.length_append] at hl hcut n35
    rw [run_good s _ ws lo hi _ hl n35 hcut, hext]
    have hpos : pre.length + g.length + (fieldOut x).size = (pre ++ g ++ (fieldOut x).data.toList).length := by simp; omega
    rw [hpos]
    obtain ⟨vs, hv, hm⟩ := split_body s tail ht ps (pre ++ g ++ (fieldOut x).data.toList) (ws ++ [(x, ((pre.length + g.length : Nat) : Int))]) (by simpa using h) (fun p hp => h1 p (by simp [hp])) (fun p hp => h2 p (by cases ps with | nil => cases hp | cons a b => simp at hp ⊢; exact .inr hp)) (by simp at h3 ⊢; omega)
    exact ⟨(x, ((pre.length + g.length : Nat) : Int)) :: vs, by rw [hv]; simp, by simp [hm]⟩
/-- The line of fields as such a row. -/
def spaced : List ByteArray → List (List UInt8 × ByteArray)
  | [] => []
  | x :: l => ([], x) :: l.map fun y => ([32], y)
theorem join_cons2 (a b : List UInt8) (r : List (List UInt8)) (sep : List UInt8) : Lib.join (a :: b :: r) sep = a ++ sep ++ Lib.join (b :: r) sep := by simp [Lib.join, List.intercalate, List.intersperse]
theorem body_map (x : ByteArray) : ∀ l : List ByteArray, (fieldOut x).data.toList ++ body (l.map fun y => ([32], y)) = Lib.join (((x :: l).map fieldOut).map (·.data.toList)) [32]
  | [] => by simp [body, Lib.join_one]
  | y :: l => by
    have ih := body_map y l
    simp only [List.map_cons] at ih ⊢
    rw [join_cons2, ← ih]
    simp [body]
theorem body_joined (l : List ByteArray) : body (spaced l) = (joined l).data.toList := by
  cases l with
  | nil => rfl
  | cons x l =>
    show [] ++ (fieldOut x).data.toList ++ body (l.map fun y => ([32], y)) = _
    rw [List.nil_append, body_map]
    simp [joined]
theorem spaced_map (l : List ByteArray) : (spaced l).map (·.2) = l := by
  cases l with
  | nil => rfl
  | cons x l =>
    simp only [spaced, List.map_cons, List.map_map]
    congr 1
    exact List.map_id l
theorem split_joined (l : List ByteArray) (ha : allOk l = true) (hn : l.length ≤ 16) : ∃ vs, run (joined l) (stop blank (joined l) 0) [] = (vs, 0, 0) ∧ vs.map (·.1) = l := by
  have hok : ∀ x ∈ l, fieldOk x = true := by unfold allOk at ha; exact List.all_eq_true.1 ha
  obtain ⟨vs, h1, h2⟩ := split_body (joined l) [] (.inl rfl) (spaced l) [] [] (by rw [body_joined]; simp)
    (fun p hp => by
      cases l with
      | nil => cases hp
      | cons x l =>
        simp only [spaced, List.mem_cons, List.mem_map] at hp
        rcases hp with rfl | ⟨y, hy, rfl⟩
        · exact ⟨by simp, hok x (by simp)⟩
        · exact ⟨by intro c hc; simp at hc; subst hc; rfl, hok y (by simp [hy])⟩)
    (fun p hp => by
      cases l with
      | nil => cases hp
      | cons x l =>
        simp only [spaced, List.tail_cons, List.mem_map] at hp
        obtain ⟨y, _, rfl⟩ := hp
        simp)
    (by have := congrArg List.length (spaced_map l); simp at this ⊢; omega)
  exact ⟨vs, by simpa using h1, by rw [h2, spaced_map]⟩
end Fie
end Go.Proofs.Ytifjnegjjjpagaa
