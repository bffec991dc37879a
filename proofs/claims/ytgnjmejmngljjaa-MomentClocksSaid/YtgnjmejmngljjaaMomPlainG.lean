/- Plain laws of moments: a clock's text is short. -/
import Derived.Test.YtgnjmejmngljjaaMomPlainB
set_option linter.unusedVariables false
set_option linter.unusedSimpArgs false
namespace Go.Proofs.Ytgnjmejmngljjaa
namespace Mom
theorem more_len (neg : Bool) : ∀ (u : Nat) (n : Int) (l : List UInt8) (m : Int) (r : List UInt8), more neg u n l = some (m, r) → l.length ≤ r.length + 3 * u
  | 0, n, l, m, r, h => by
    unfold more done at h
    simp only [Option.some.injEq, Prod.mk.injEq] at h
    rw [h.2]; omega
  | u + 1, n, l, m, r, h => by
    unfold more at h
    split at h
    · rename_i r'
      split at h
      · cases h
      · have h1 := more_len neg u _ _ m r h
        have h2 := nD_le 2 r'
        rw [List.length_drop] at h1
        simp only [List.length_cons]
        omega
    · unfold done at h
      simp only [Option.some.injEq, Prod.mk.injEq] at h
      rw [h.2]; omega
theorem bar_len {neg : Bool} {l r : List UInt8} {m : Int} (h : bar neg l = some (m, r)) : l.length ≤ r.length + 9 := by
  unfold bar at h
  split at h
  · cases h
  · have h1 := more_len neg 2 _ _ m r h
    have h2 := nD_le 3 l
    rw [List.length_drop] at h1
    omega
theorem span_len {l r : List UInt8} {m : Int} (h : span l = some (m, r)) : l.length ≤ r.length + 10 := by
  unfold span at h
  split at h
  · split at h
    · rename_i h0
      subst h0; simp
    · have := bar_len h
      simp only [List.length_cons]; omega
  · have := bar_len h
    omega
theorem ref_len {r : List UInt8} (h : (refOf r).isSome = true) : r.length ≤ 1 := by
  unfold refOf at h
  split at h
  · subst r; simp
  repeat (split at h; · subst r; simp)
  cases h
theorem clock_long {l : List UInt8} (h : 1000 < l.length) : clockP l = none := by
  unfold clockP
  cases hs : span l with
  | none => rfl
  | some x =>
    obtain ⟨m, r⟩ := x
    have h1 := span_len hs
    cases hr : refOf r with
    | none => simp [hr]
    | some q =>
      have := ref_len (r := r) (by rw [hr]; rfl)
      omega
end Mom
end Go.Proofs.Ytgnjmejmngljjaa
