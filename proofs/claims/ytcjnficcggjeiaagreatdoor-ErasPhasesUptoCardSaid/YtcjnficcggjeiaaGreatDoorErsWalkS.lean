/- The law of holding: ahead of an era's end an era up to it holds, behind it one behind it. -/
import Derived.Test.YtcjnficcggjeiaaGreatDoorErsWalkP
set_option linter.unusedVariables false
set_option linter.unusedSimpArgs false
namespace Go.Proofs.YtcjnficcggjeiaaGreatDoor
open Go.RowKit Go.Shelf
namespace Ers
theorem end_bd {l : List Rule} (hA : Rul.allB l = true) {x : Era} (hx : Src.eraB x = true) : -9100000000000 ≤ endD l x ∧ endD l x ≤ 9100000000000 := by
  obtain ⟨o1, o2, -, -, he⟩ := era_parts hx
  obtain ⟨b1, b2⟩ := ahead_bd hA hx
  have hy : x.y ≤ 9999 := by rcases he with ⟨-, -, h, -⟩ | ⟨-, h, -⟩ <;> omega
  obtain ⟨l1, l2⟩ := loc_bd x.m x.k x.wd x.d x.t x.r x.y hy
  unfold endD
  have e : locD x = locV x.m x.k x.wd x.d x.t x.r x.y := rfl
  split
  · omega
  · split <;> omega
theorem at_first {l : List Rule} {t : Int} {es : List Era} {j : Nat} (hj : j < es.length) (h1 : es[j].til = false ∨ t < endD l es[j]) (h2 : ∀ i (hi : i < j), es[i].til = true ∧ endD l es[i] ≤ t) : atD l t es = some es[j] := by
  have : ∀ i, i ≤ j → atD l t es = atD l t (es.drop i) := by
    intro i
    induction i with
    | zero => intro _; rfl
    | succ i ih =>
      intro hi
      rw [ih (by omega), at_drop l t es i (by omega)]
      obtain ⟨a, b⟩ := h2 i (by omega)
      rw [if_neg]
      rintro (h | h)
      · rw [a] at h; cases h
      · omega
  rw [this j (Nat.le_refl _), at_drop l t es j hj, if_pos h1]
/-- Ends that rise. -/
def Rises (l : List Rule) (es : List Era) (n : Nat) : Prop := ∀ i (h : i + 1 < es.length), i < n → es[i + 1].til = true → endD l es[i] < endD l es[i + 1]
theorem rises_le {l : List Rule} {es : List Era} (hEB : Src.erasB es = true) {n : Nat} (hr : Rises l es n) (k : Nat) (hk : k + 1 < es.length) (hn : k ≤ n) : ∀ i (hi : i ≤ k), endD l es[i] ≤ endD l es[k] := by
  have : ∀ d i, i + d = k → ∀ h : i < es.length, endD l es[i] ≤ endD l es[k] := by
    intro d
    induction d with
    | zero => intro i hi h; obtain rfl : i = k := by omega
              exact Int.le_refl _
    | succ d ih =>
      intro i hi h
      have h1 := ih (i + 1) (by omega) (by omega)
      have h2 := hr i (by omega) (by omega) (by rw [last_till hEB (i + 1) (by omega)]; simp; omega)
      omega
  intro i hi
  exact this (k - i) i (by omega) (by omega)
theorem at_hold {l : List Rule} {es : List Era} (hEB : Src.erasB es = true) (hr : Rises l es es.length) (k : Nat) (hk : k + 1 < es.length) : atD l (endD l es[k] - 1) es = some es[k] ∧ atD l (endD l es[k]) es = some es[k + 1] := by
  have hle := rises_le hEB hr k hk (by omega)
  have til : ∀ i (h : i ≤ k), es[i].til = true := fun i h => by rw [last_till hEB i (by omega)]; simp; omega
  constructor
  · refine at_first (by omega) (.inr (by omega)) (fun i hi => ⟨til i (by omega), ?_⟩)
    have h1 := hr i (by omega) (by omega) (til (i + 1) (by omega))
    have h2 := hle (i + 1) (by omega)
    omega
  · refine at_first hk ?_ (fun i hi => ⟨til i (by omega), hle i (by omega)⟩)
    cases ht : es[k + 1].til
    · exact .inl rfl
    · exact .inr (hr k hk (by omega) ht)
end Ers
theorem pickE_at {s : Source} {k : Nat} {z : Zone} (hp : pickZ s k = some z) (i : Int) : pickE s k i = if 0 ≤ i then z.es[i.toNat]? else none := by
  unfold pickE; rw [hp]
theorem atO_at {s : Source} {k t : Int} {z : Zone} (hp : pickZ s k = some z) : atO s k t = (Ers.atD s.rules t z.es).map (fun x => Ers.phaseD s.rules x t) := by
  unfold atO; rw [hp]
theorem esum_ge {l : List Zone} {z : Zone} (h : z ∈ l) : z.es.length ≤ esum l := by
  induction l with
  | nil => cases h
  | cons x l ih =>
    simp only [esum]
    rcases List.mem_cons.1 h with rfl | h
    · omega
    · have := ih h; omega
/-- Of a source that may be, ends rise. -/
def RiseIf (s : Source) (l : List Rule) (es : List Era) (n : Nat) : Prop := Src.srcB s = true → Ers.Rises l es n
theorem phO_some (p : Phase) : phO (some p) = .tuple #[.agg #[.int .i64 p.off, .int .i64 p.s, .string p.ab], .bool true] := rfl
theorem endO_no (l : List Rule) : endO l none = .tuple #[.int .i64 0, .bool false] := rfl
theorem endO_yes {l : List Rule} {x : Era} (h : x.til = true) : endO l (some x) = .tuple #[.int .i64 (Ers.endD l x), .bool true] := by
  show endV l x = _; unfold endV; rw [if_pos h]
theorem endO_last {l : List Rule} {x : Era} (h : x.til = false) : endO l (some x) = .tuple #[.int .i64 0, .bool false] := by
  show endV l x = _; unfold endV; rw [if_neg (by rw [h]; simp)]
end Go.Proofs.YtcjnficcggjeiaaGreatDoor
