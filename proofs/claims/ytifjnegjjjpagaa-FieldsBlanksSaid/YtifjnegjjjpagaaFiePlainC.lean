/- Plain laws of fields: a line cut into fields. -/
import Derived.Test.YtifjnegjjjpagaaFieWalkC
set_option linter.unusedVariables false
set_option linter.unusedSimpArgs false
namespace Go.Proofs.Ytifjnegjjjpagaa
open Go.RowKit

/-- What a field comes to: an error (place, number), or where its text lies and where it ends. -/
abbrev Cut := (Int × Int) ⊕ (Nat × Nat × Nat)
abbrev bad (p e : Int) : Cut := .inl (p, e)
abbrev good (lo hi en : Nat) : Cut := .inr (lo, hi, en)
def tailOk (s : ByteArray) (en : Nat) : Bool := if h : en < s.size then (decide ((s[en].toNat : Int) = 35) || Fie.blank s[en]) else true
/-- The field that begins at k, cnt fields having come. -/
def cut (s : ByteArray) (k cnt : Nat) : Cut :=
  if h : k < s.size then
    if (s[k].toNat : Int) = 34 then
      if cnt = 16 then bad k 12
      else if hq : Fie.stop Fie.within s (k + 1) < s.size then
        (if (s[Fie.stop Fie.within s (k + 1)].toNat : Int) = 34 then
          (if tailOk s (Fie.stop Fie.within s (k + 1) + 1) = true then good (k + 1) (Fie.stop Fie.within s (k + 1)) (Fie.stop Fie.within s (k + 1) + 1) else bad ((Fie.stop Fie.within s (k + 1) + 1 : Nat) : Int) 6)
        else bad (wrongI s k (Fie.stop Fie.within s (k + 1))) 6)
      else bad (wrongI s k (Fie.stop Fie.within s (k + 1))) 6
    else if Fie.bare s[k] = false then bad k 6
    else if cnt = 16 then bad k 12
    else if tailOk s (Fie.stop Fie.bare s k) = true then good k (Fie.stop Fie.bare s k) (Fie.stop Fie.bare s k) else bad (Fie.stop Fie.bare s k : Nat) 6
  else bad 0 0
/-- The fields from k on, ws having come: fuel ahead. -/
def runN (s : ByteArray) : Nat → Nat → List (ByteArray × Int) → List (ByteArray × Int) × Int × Int
  | 0, _, ws => (ws, 0, 0)
  | f + 1, k, ws => if h : k < s.size then (if (s[k].toNat : Int) = 35 then (ws, 0, 0) else match cut s k ws.length with
    | .inl (p, e) => ([], p, e)
    | .inr (lo, hi, en) => runN s f (Fie.stop Fie.blank s en) (ws ++ [(s.extract lo hi, (k : Int))])) else (ws, 0, 0)
def run (s : ByteArray) (k : Nat) (ws : List (ByteArray × Int)) : List (ByteArray × Int) × Int × Int := runN s (s.size - k) k ws
theorem run_end (s : ByteArray) (k : Nat) (ws : List (ByteArray × Int)) (h : s.size ≤ k) : run s k ws = (ws, 0, 0) := by
  unfold run; rw [show s.size - k = 0 by omega]; rfl
theorem run_hash (s : ByteArray) (k : Nat) (ws : List (ByteArray × Int)) (h : k < s.size) (hc : (s[k].toNat : Int) = 35) : run s k ws = (ws, 0, 0) := by
  unfold run
  obtain ⟨f, hf⟩ : ∃ f, s.size - k = f + 1 := ⟨s.size - k - 1, by omega⟩
  rw [hf]; simp only [runN]; rw [dif_pos h, if_pos hc]
theorem run_bad (s : ByteArray) (k : Nat) (ws : List (ByteArray × Int)) (p e : Int) (h : k < s.size) (hc : ¬ (s[k].toNat : Int) = 35) (hb : cut s k ws.length = bad p e) : run s k ws = ([], p, e) := by
  unfold run
  obtain ⟨f, hf⟩ : ∃ f, s.size - k = f + 1 := ⟨s.size - k - 1, by omega⟩
  rw [hf]; simp only [runN]; rw [dif_pos h, if_neg hc, hb]
theorem cut_bd (s : ByteArray) (k cnt lo hi en : Nat) (h : k < s.size) (hb : cut s k cnt = good lo hi en) : k < en ∧ en ≤ s.size ∧ lo ≤ hi ∧ hi ≤ s.size ∧ k ≤ lo := by
  unfold cut at hb
  rw [dif_pos h] at hb
  have b1 := Fie.stop_le Fie.within s (k + 1) (by omega)
  have b2 := Fie.stop_le Fie.bare s k (by omega)
  by_cases c1 : (s[k].toNat : Int) = 34
  · rw [if_pos c1] at hb
    by_cases c2 : cnt = 16
    · rw [if_pos c2] at hb; cases hb
    rw [if_neg c2] at hb
    by_cases c3 : Fie.stop Fie.within s (k + 1) < s.size
    · rw [dif_pos c3] at hb
      by_cases c4 : (s[Fie.stop Fie.within s (k + 1)].toNat : Int) = 34
      · rw [if_pos c4] at hb
        by_cases c5 : tailOk s (Fie.stop Fie.within s (k + 1) + 1) = true
        · rw [if_pos c5] at hb
          simp only [good, Sum.inr.injEq, Prod.mk.injEq] at hb
          omega
        · rw [if_neg c5] at hb; cases hb
      · rw [if_neg c4] at hb; cases hb
    · rw [dif_neg c3] at hb; cases hb
  · rw [if_neg c1] at hb
    cases c2 : Fie.bare s[k]
    · rw [if_pos c2] at hb; cases hb
    · rw [if_neg (by rw [c2]; simp)] at hb
      have b3 := Fie.stop_le Fie.bare s (k + 1) (by omega)
      have b4 := Fie.stop_yes Fie.bare s k h c2
      by_cases c3 : cnt = 16
      · rw [if_pos c3] at hb; cases hb
      rw [if_neg c3] at hb
      by_cases c5 : tailOk s (Fie.stop Fie.bare s k) = true
      · rw [if_pos c5] at hb
        simp only [good, Sum.inr.injEq, Prod.mk.injEq] at hb
        omega
      · rw [if_neg c5] at hb; cases hb
theorem runN_fuel (s : ByteArray) : ∀ (f k : Nat) (ws : List (ByteArray × Int)), s.size - k ≤ f → runN s f k ws = run s k ws := by
  have key : ∀ (d f g k : Nat) (ws : List (ByteArray × Int)), s.size - k ≤ d → s.size - k ≤ f → s.size - k ≤ g → runN s f k ws = runN s g k ws := by
    intro d
    induction d with
    | zero =>
      intro f g k ws h0 _ _
      have hk : ¬ k < s.size := by omega
      cases f <;> cases g <;> simp [runN, hk]
    | succ d ih =>
      intro f g k ws h0 hf hg
      by_cases hk : k < s.size
      · obtain ⟨f, rfl⟩ : ∃ f', f = f' + 1 := ⟨f - 1, by omega⟩
        obtain ⟨g, rfl⟩ : ∃ g', g = g' + 1 := ⟨g - 1, by omega⟩
        simp only [runN]
        rw [dif_pos hk, dif_pos hk]
        by_cases hc : (s[k].toNat : Int) = 35
        · rw [if_pos hc, if_pos hc]
        · rw [if_neg hc, if_neg hc]
          cases hcut : cut s k ws.length with
          | inl x => rfl
          | inr x =>
            obtain ⟨lo, hi, en⟩ := x
            have hb := cut_bd s k ws.length lo hi en hk hcut
            have hs := Fie.stop_le Fie.blank s en (by omega)
            exact ih f g _ _ (by omega) (by omega) (by omega)
      · cases f <;> cases g <;> simp [runN, hk]
  intro f k ws h
  exact key f f (s.size - k) k ws h h (Nat.le_refl _)
theorem run_good (s : ByteArray) (k : Nat) (ws : List (ByteArray × Int)) (lo hi en : Nat) (h : k < s.size) (hc : ¬ (s[k].toNat : Int) = 35) (hb : cut s k ws.length = good lo hi en) :
    run s k ws = run s (Fie.stop Fie.blank s en) (ws ++ [(s.extract lo hi, (k : Int))]) := by
  have hbd := cut_bd s k ws.length lo hi en h hb
  have hs := Fie.stop_le Fie.blank s en (by omega)
  rw [← runN_fuel s (s.size - k - 1) (Fie.stop Fie.blank s en) _ (by omega)]
  unfold run
  obtain ⟨f, hf⟩ : ∃ f, s.size - k = f + 1 := ⟨s.size - k - 1, by omega⟩
  rw [hf]; simp only [runN]; rw [dif_pos h, if_neg hc, hb]; rfl
end Go.Proofs.Ytifjnegjjjpagaa
