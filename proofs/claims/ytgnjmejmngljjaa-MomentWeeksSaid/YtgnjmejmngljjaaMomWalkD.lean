/- Walks of moments: a text in small letters; names. -/
import Derived.Test.YtgnjmejmngljjaaMomWalkC
import Derived.Test.YtgnjmejmngljjaaOwns
import Derived.Laws.IdiomStrings
set_option linter.unusedVariables false
set_option linter.unusedSimpArgs false
namespace Go.Proofs.Ytgnjmejmngljjaa
open Go.RowKit

/-- A byte of the row, j of them having been turned. -/
def turned (l : List UInt8) (j i : Nat) : UInt8 := if i < j then Mom.lowC (l.getD i 0) else l.getD i 0
theorem turned_at (l : List UInt8) (j : Nat) : turned l j j = l.getD j 0 := by unfold turned; rw [if_neg (by omega)]
theorem turned_next (l : List UInt8) (j i : Nat) : turned l (j + 1) i = if i = j then Mom.lowC (l.getD j 0) else turned l j i := by
  unfold turned
  by_cases h : i = j
  · subst h; rw [if_pos (by omega), if_pos rfl]
  · rw [if_neg h]
    by_cases h2 : i < j
    · rw [if_pos (by omega), if_pos h2]
    · rw [if_neg (by omega), if_neg h2]
theorem lowC_nat (c : UInt8) : ((Mom.lowC c).toNat : Int) = if 65 ≤ (c.toNat : Int) ∧ (c.toNat : Int) ≤ 90 then (c.toNat : Int) + 32 else c.toNat := by
  unfold Mom.lowC
  by_cases h : 65 ≤ c.toNat ∧ c.toNat ≤ 90
  · rw [if_pos h, if_pos (by omega)]
    have : (c + 32).toNat = c.toNat + 32 := by
      rw [UInt8.toNat_add]; show (c.toNat + 32) % 256 = _; omega
    omega
  · rw [if_neg h, if_neg (by omega)]
def RowIs (W : World) (B : Nat) (l : List UInt8) (j : Nat) : Prop := ∀ i, i < l.length → W.cell? ⟨B, i, none⟩ = some (.int .u8 (turned l j i).toNat) ∧ W.frozen? ⟨B, i, none⟩ = false
theorem RowIs.past {W : World} {B : Nat} {l : List UInt8} {j : Nat} (h : RowIs W B l j) (hB : B < W.heap.size) (y : Past W) : RowIs y.x B l j := fun i hi => by
  haveI : InW B W := ⟨hB⟩
  have := h i hi
  exact ⟨by rw [Past.cell?]; exact this.1, by rw [Past.frozen?]; exact this.2⟩
theorem RowIs.next {W : World} {B : Nat} {l : List UInt8} {j : Nat} (h : RowIs W B l j) (hj : j < l.length) (v : Int) (hv : v = ((Mom.lowC (l.getD j 0)).toNat : Int)) : RowIs (W.setCell ⟨B, j, none⟩ (.int .u8 v)) B l (j + 1) := fun i hi => by
  subst hv
  refine ⟨?_, by rw [World.frozen?_setCell]; exact (h i hi).2⟩
  rw [turned_next]
  by_cases e : i = j
  · subst e
    rw [if_pos rfl]
    exact World.cell?_setCell_same W _ _ (h i hi).1
  · rw [if_neg e, World.cell?_setCell_other (w := W) (a := ⟨B, j, none⟩) (b := ⟨B, i, none⟩) _ (by intro e2; injection e2 with _ e3; exact e e3.symm)]
    exact (h i hi).1
theorem RowIs.keep {W : World} {B : Nat} {l : List UInt8} {j : Nat} (h : RowIs W B l j) (hj : Mom.lowC (l.getD j 0) = l.getD j 0) : RowIs W B l (j + 1) := fun i hi => by
  have := h i hi
  rw [turned_next]
  by_cases e : i = j
  · subst e; rw [if_pos rfl, hj, ← turned_at l i]; exact this
  · rw [if_neg e]; exact this
theorem low_all (l : List UInt8) (i : Nat) (h : i < (Mom.low l).length) : (Mom.low l)[i] = turned l l.length i := by
  have h2 : i < l.length := by simpa [Mom.low] using h
  unfold turned
  rw [if_pos h2]
  simp [Mom.low, h2]

set_option maxRecDepth 100000 in
set_option maxHeartbeats 2000000 in
theorem lower_any (l : List UInt8) (w : World) (hs : l.length ≤ maxLen) : Rets Try.prog 58 #[.string ⟨l.toArray⟩] w (.string ⟨(Mom.low l).toArray⟩) := by
  obtain ⟨n, hn⟩ : ∃ n, l.length = n := ⟨_, rfl⟩
  obtain ⟨cap, hcap⟩ : ∃ c, grownCap w (⟨l.toArray⟩ : ByteArray).size 0 5 = c := ⟨_, rfl⟩
  have hconv := run_bytes_of_string (P := Try.prog) w 9 92 5 ⟨l.toArray⟩ Try.underlying9 Try.underlying92 Try.underlying5
  have hge := grownCap_ge w (⟨l.toArray⟩ : ByteArray).size 0 5
  rw [hcap] at hconv hge
  rw [lsz, hn] at hconv hge
  obtain ⟨fz, hfz⟩ : ∃ f, (bytesRow ⟨l.toArray⟩ cap).size = f := ⟨_, rfl⟩
  have hfn : n ≤ fz := by rw [← hfz]; unfold bytesRow; simp; omega
  rw [hfz] at hconv
  have hrow : ∀ j, j < n → (bytesRow ⟨l.toArray⟩ cap)[j]? = some (.int .u8 (l.getD j 0).toNat) := fun j hj => by
    rw [bytesRow_at _ _ _ (by simp; omega)]
    simp [List.getD, List.getElem?_eq_getElem (show j < l.length by omega)]
  generalize bytesRow ⟨l.toArray⟩ cap = C at *
  have R0 : Hid (RowIs (w.drew.alloc (.cells C 5 (fz, fz + 1))) w.heap.size l 0) := fun i hi => by
    have c1 := World.cell?_alloc_mark w.drew C 5 (fz, fz + 1) i
    have c2 := World.frozen?_alloc_mark w.drew C 5 fz (fz + 1) i
    refine ⟨?_, ?_⟩
    · refine c1.trans ?_
      rw [hrow i (by omega)]
      unfold turned; rw [if_neg (by omega)]
    · refine c2.trans ?_
      rw [show decide (fz ≤ i) = false from decide_eq_false (by omega)]; rfl
  have hback : Hid (∀ W : World, RowIs W w.heap.size l n → (convert 92 9 (.slice (some ⟨w.heap.size, 0, none⟩) n cap)).run Try.prog W = .ok (.string ⟨(Mom.low l).toArray⟩) W) := fun W hW => by
    have hlen : (Mom.low l).length = n := by simp [Mom.low, hn]
    have := run_convert_bytes_back (P := Try.prog) W 92 9 5 ⟨w.heap.size, 0, none⟩ cap (Mom.low l) Try.underlying92 Try.underlying5 Try.underlying9 (fun j hj => by
      have hadd : (⟨w.heap.size, 0, none⟩ : Addr).add j = ⟨w.heap.size, j, none⟩ := by unfold Addr.add; split <;> simp_all
      rw [hadd, (hW j (by omega)).1, low_all l j hj, hn])
    rw [hlen] at this; exact this
  have HN := Lib.hid hn
  have hs' : n ≤ 9223372036854775807 := by unfold maxLen at hs; omega
  clear hcap hfz hrow hn hs
  unfold Rets
  go_enter Try.func58, Try.ntmps58
  go_wp2
  go_loopw [10] (fun i wr => ∃ j : Nat, j ≤ n ∧ i = .int .i64 j ∧ Hid (RowIs wr w.heap.size l j) ∧ w.heap.size < wr.heap.size ∧ Ext w wr) (fun i _ => n - (intOf i).toNat)
  case atStart => exact ⟨0, by omega, rfl, R0, by simp, isext⟩
  case round =>
    obtain ⟨j, j1, rfl, hr, hB, hx⟩ := hrel
    obtain ⟨yr, rfl⟩ := fin hx
    clear hx
    by_cases c0 : j < n
    · have hjl : j < l.length := by rw [HN.out]; exact c0
      obtain ⟨f1, f2⟩ := hr.out j hjl
      rw [turned_at] at f1
      have K := Lib.hid (fun v hv => hr.out.next hjl v hv)
      have K2 := Lib.hid (fun hv => hr.out.keep hv)
      have LC := Lib.hid (lowC_nat (l.getD j 0))
      generalize l.getD j 0 = c at *
      have hc9 : c.toNat < 256 := c.toNat_lt
      by_cases d1 : 65 ≤ (c.toNat : Int)
      · by_cases d2 : (c.toNat : Int) ≤ 90
        · go_wp2
          go_roundw
          case rel => exact ⟨j + 1, by omega, by go_num, K.out _ (by rw [LC.out, if_pos ⟨d1, d2⟩]), by simpa using hB, isext⟩
          case measure => simp [intOf]; omega
        · have d3 : decide ((c.toNat : Int) ≤ 90) = false := decide_eq_false d2
          go_wp2
          go_roundw
          case rel => exact ⟨j + 1, by omega, by go_num, K2.out (UInt8.toNat_inj.1 (by have := LC.out; rw [if_neg (fun h => d2 h.2)] at this; omega)), hB, isext⟩
          case measure => simp [intOf]; omega
      · have d3 : decide (65 ≤ (c.toNat : Int)) = false := decide_eq_false d1
        go_wp2
        go_roundw
        case rel => exact ⟨j + 1, by omega, by go_num, K2.out (UInt8.toNat_inj.1 (by have := LC.out; rw [if_neg (fun h => d1 h.1)] at this; omega)), hB, isext⟩
        case measure => simp [intOf]; omega
    · obtain rfl : j = n := by omega
      have hb2 := hback.out _ hr.out
      go_wp2
      go_ret
      exact ⟨rfl, done⟩
end Go.Proofs.Ytgnjmejmngljjaa
