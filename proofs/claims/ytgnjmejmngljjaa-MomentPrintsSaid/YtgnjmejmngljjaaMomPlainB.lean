/- Plain laws of moments: by which clock; numbers, names. -/
import Derived.Test.YtgnjmejmngljjaaMomPlain
set_option linter.unusedVariables false
set_option linter.unusedSimpArgs false
namespace Go.Proofs.Ytgnjmejmngljjaa
namespace Mom
/-- Behind a time: by which clock it is. -/
def refOf (r : List UInt8) : Option Int := if r = [] then some 0 else if r = [119] then some 0 else if r = [115] then some 1 else if r = [117] then some 2 else if r = [103] then some 2 else if r = [122] then some 2 else none
def letterRef (c : UInt8) : Option Int := if c = 119 then some 0 else if c = 115 then some 1 else if c = 117 then some 2 else if c = 103 then some 2 else if c = 122 then some 2 else none
def clockP (l : List UInt8) : Option (Int × Int) := match span l with
  | none => none
  | some (n, rest) => (refOf rest).map (fun r => (n, r))
def clockR (l : List UInt8) : Option (Int × Int) := if l = [] then none else match letterRef (l.getLastD 0) with
  | none => (spanR l).map (fun k => (k, 0))
  | some r => if l.dropLast = [45] then none else (spanR l.dropLast).map (fun k => (k, r))
theorem refOf_one (c : UInt8) : refOf [c] = letterRef c := by simp [refOf, letterRef]
theorem refOf_two (a : List UInt8) (c : UInt8) (h : a ≠ []) : refOf (a ++ [c]) = none := by
  cases a with
  | nil => exact absurd rfl h
  | cons x a => simp [refOf]
theorem letter_plain {c : UInt8} {r : Int} (h : letterRef c = some r) : isD c = false ∧ c ≠ 58 ∧ c ≠ 45 := by
  unfold letterRef at h
  repeat' split at h
  all_goals first
    | (subst_vars; decide)
    | cases h
theorem more_app (neg : Bool) (c : UInt8) (hd : isD c = false) (hc : c ≠ 58) : ∀ (u : Nat) (n : Int) (l : List UInt8), more neg u n (l ++ [c]) = (more neg u n l).map (fun x => (x.1, x.2 ++ [c]))
  | 0, n, l => by simp [more, done]
  | u + 1, n, [] => by
    rw [more_nil, List.nil_append, more_stop neg (u + 1) n rfl hc]; simp [done]
  | u + 1, n, x :: l => by
    by_cases hx : x = 58
    · subst hx
      simp only [more, List.cons_append]
      have e1 : nD 2 (l ++ [c]) = nD 2 l := nD_app 2 l [c] (by intro a b e; cases e; exact hd)
      rw [e1, take_part, drop_part]
      split
      · rfl
      · rw [more_app neg c hd hc u]
    · rw [more_stop neg (u + 1) n (l := x :: l ++ [c]) rfl hx, more_stop neg (u + 1) n rfl hx]
      simp [done]
theorem bar_app (neg : Bool) (c : UInt8) (hd : isD c = false) (hc : c ≠ 58) (l : List UInt8) : bar neg (l ++ [c]) = (bar neg l).map (fun x => (x.1, x.2 ++ [c])) := by
  unfold bar
  have e1 : nD 3 (l ++ [c]) = nD 3 l := nD_app 3 l [c] (by intro a b e; cases e; exact hd)
  rw [e1, take_part, drop_part]
  split
  · rfl
  · rw [more_app neg c hd hc 2]
theorem span_app (c : UInt8) (hd : isD c = false) (hc : c ≠ 58) (h45 : c ≠ 45) (l : List UInt8) (hl : l ≠ [45]) : span (l ++ [c]) = (span l).map (fun x => (x.1, x.2 ++ [c])) := by
  cases l with
  | nil =>
    unfold span
    simp only [List.nil_append]
    split
    · rename_i e; cases e; exact absurd rfl h45
    · exact bar_app false c hd hc []
  | cons x l =>
    by_cases hx : x = 45
    · subst hx
      have hn : l ≠ [] := by intro e; exact hl (by rw [e])
      simp only [span, List.cons_append]
      rw [if_neg (by simp), if_neg hn, bar_app true c hd hc]
    · have e : ∀ r, span (x :: r) = bar false (x :: r) := by
        intro r; unfold span; split
        · rename_i e; exact absurd (List.cons.inj e).1 hx
        · rfl
      rw [List.cons_append, e, e, ← List.cons_append, bar_app false c hd hc]
theorem more_suffix (neg : Bool) : ∀ (u : Nat) (n : Int) (l : List UInt8) (m : Int) (r : List UInt8), more neg u n l = some (m, r) → ∃ p, l = p ++ r
  | 0, n, l, m, r, h => by simp [more, done] at h; exact ⟨[], by simp [h.2]⟩
  | u + 1, n, l, m, r, h => by
    unfold more at h
    split at h
    · rename_i l' 
      split at h
      · cases h
      · rename_i k _
        obtain ⟨p, hp⟩ := more_suffix neg u _ _ m r h
        exact ⟨58 :: l'.take (nD 2 l') ++ p, by simp [← hp]⟩
    · simp [done] at h; exact ⟨[], by simp [h.2]⟩
theorem span_suffix (l : List UInt8) (m : Int) (r : List UInt8) (h : span l = some (m, r)) : ∃ p, l = p ++ r := by
  have hb : ∀ neg l, bar neg l = some (m, r) → ∃ p, l = p ++ r := by
    intro neg l h
    unfold bar at h
    split at h
    · cases h
    · obtain ⟨p, hp⟩ := more_suffix neg 2 _ _ m r h
      exact ⟨l.take (nD 3 l) ++ p, by rw [List.append_assoc, ← hp, List.take_append_drop]⟩
  unfold span at h
  split at h
  · rename_i l'
    split at h
    · simp at h; exact ⟨45 :: l', by simp [h.2]⟩
    · obtain ⟨p, hp⟩ := hb _ _ h
      exact ⟨45 :: p, by rw [hp]; rfl⟩
  · exact hb _ _ h
theorem clock_eq (l : List UInt8) : clockP l = clockR l := by
  rcases List.eq_nil_or_concat l with rfl | ⟨l', c, rfl⟩
  · rfl
  · rw [List.concat_eq_append]
    have hne : l' ++ [c] ≠ [] := by simp
    unfold clockP clockR
    rw [if_neg hne]
    have e1 : (l' ++ [c]).getLastD 0 = c := by simp
    have e2 : (l' ++ [c]).dropLast = l' := by simp
    rw [e1, e2]
    cases hc : letterRef c with
    | none =>
      simp only
      cases hs : span (l' ++ [c]) with
      | none =>
        cases hr : spanR (l' ++ [c]) with
        | none => rfl
        | some k => rw [(span_eq _ _).2 hr] at hs; cases hs
      | some x =>
        obtain ⟨n, rest⟩ := x
        simp only
        obtain ⟨p, hp⟩ := span_suffix _ _ _ hs
        by_cases h0 : rest = []
        · subst h0
          rw [(span_eq _ _).1 hs]; rfl
        · have hR : spanR (l' ++ [c]) = none := by
            cases hr : spanR (l' ++ [c]) with
            | none => rfl
            | some k =>
              rw [(span_eq _ _).2 hr] at hs
              exact absurd (by have := (Option.some.inj hs); exact (Prod.mk.inj this).2.symm) h0
          rw [hR]
          rcases List.eq_nil_or_concat rest with e | ⟨q, d, rfl⟩
          · exact absurd e h0
          · rw [List.concat_eq_append] at hp ⊢
            have hdc : c = d := by
              have := congrArg (fun x => x.getLastD 0) hp
              simpa [← List.append_assoc] using this
            subst hdc
            by_cases hq : q = []
            · subst hq
              rw [List.nil_append, refOf_one, hc]; rfl
            · rw [refOf_two q c hq]; rfl
    | some ref =>
      obtain ⟨h1, h2, h3⟩ := letter_plain hc
      simp only
      by_cases h45 : l' = [45]
      · subst h45
        rw [if_pos rfl]
        have : span ([45] ++ [c]) = none := by
          simp [span, bar, nD, h1]
        rw [this]
      · rw [if_neg h45, span_app c h1 h2 h3 l' h45]
        cases hs : span l' with
        | none =>
          cases hr : spanR l' with
          | none => rfl
          | some k => rw [(span_eq _ _).2 hr] at hs; cases hs
        | some x =>
          obtain ⟨n, rest⟩ := x
          simp only [Option.map_some]
          by_cases h0 : rest = []
          · subst h0
            rw [(span_eq _ _).1 hs, List.nil_append, refOf_one, hc]; rfl
          · rw [refOf_two rest c h0]
            cases hr : spanR l' with
            | none => rfl
            | some k =>
              rw [(span_eq _ _).2 hr] at hs
              exact absurd (by have := (Option.some.inj hs); exact (Prod.mk.inj this).2.symm) h0

/-! Names. -/
def lowC (c : UInt8) : UInt8 := if 65 ≤ c.toNat ∧ c.toNat ≤ 90 then c + 32 else c
def low (l : List UInt8) : List UInt8 := l.map lowC
/-- Begins so, letter by letter. -/
def nameB (s w : List UInt8) : Bool := decide (3 ≤ s.length) && (low s).isPrefixOf w
def whichP (s : List UInt8) : List (List UInt8) → Nat → Nat
  | [], _ => 0
  | w :: ws, k => if nameB s w = true then k else whichP s ws (k + 1)
/-- Small letters alone. -/
def small (w : List UInt8) : Bool := w.all (fun c => decide (97 ≤ c.toNat ∧ c.toNat ≤ 122))
theorem low_is {c w : UInt8} (hw : 97 ≤ w.toNat ∧ w.toNat ≤ 122) : lowC c = w ↔ (c.toNat = w.toNat ∨ c.toNat + 32 = w.toNat) := by
  unfold lowC
  by_cases h : 65 ≤ c.toNat ∧ c.toNat ≤ 90
  · rw [if_pos h]
    have e : (c + 32).toNat = c.toNat + 32 := by
      rw [UInt8.toNat_add]; show (c.toNat + 32) % 256 = _; omega
    constructor
    · rintro rfl; right; omega
    · intro h2; apply UInt8.toNat_inj.1; omega
  · rw [if_neg h]
    constructor
    · rintro rfl; left; rfl
    · intro h2; apply UInt8.toNat_inj.1; omega
end Mom
end Go.Proofs.Ytgnjmejmngljjaa
