/- Walks of rules: the library's exchange of two runs, at turns. -/
import Derived.Test.YtodcgalcpnckaaaRulWalkT
import Derived.Test.YtodcgalcpnckaaaRulPlainD
import Derived.Shelf.SlSortCmp.KitK
import Derived.Deep.LoopGhost
set_option linter.unusedVariables false
set_option linter.unusedSimpArgs false
namespace Go.Proofs.Ytodcgalcpnckaaa
open Go.RowKit Go.Sort Go.Shelf

theorem swap_row (P U M V S : List Turn) (i n : Nat) (hU : U.length = n) (hV : V.length = n) (hi : i < n) :
    ∃ x y, (P ++ (V.take i ++ U.drop i) ++ M ++ (U.take i ++ V.drop i) ++ S).toArray[P.length + i]! = x ∧ (P ++ (V.take i ++ U.drop i) ++ M ++ (U.take i ++ V.drop i) ++ S).toArray[P.length + n + M.length + i]! = y ∧
      swp (P ++ (V.take i ++ U.drop i) ++ M ++ (U.take i ++ V.drop i) ++ S).toArray (P.length + i) (P.length + n + M.length + i) = (P ++ (V.take (i + 1) ++ U.drop (i + 1)) ++ M ++ (U.take (i + 1) ++ V.drop (i + 1)) ++ S).toArray := by
  refine ⟨_, _, rfl, rfl, ?_⟩
  have hiU : i < U.length := by omega
  have hiV : i < V.length := by omega
  have e1 : P ++ (V.take i ++ U.drop i) ++ M ++ (U.take i ++ V.drop i) ++ S = (P ++ V.take i) ++ U[i] :: ((U.drop (i + 1) ++ M ++ U.take i) ++ V[i] :: (V.drop (i + 1) ++ S)) := by
    rw [List.drop_eq_getElem_cons hiU, List.drop_eq_getElem_cons hiV]; simp only [List.append_assoc, List.cons_append]
  have e2 : P ++ (V.take (i + 1) ++ U.drop (i + 1)) ++ M ++ (U.take (i + 1) ++ V.drop (i + 1)) ++ S = (P ++ V.take i) ++ V[i] :: ((U.drop (i + 1) ++ M ++ U.take i) ++ U[i] :: (V.drop (i + 1) ++ S)) := by
    rw [List.take_succ_eq_append_getElem hiU, List.take_succ_eq_append_getElem hiV]; simp only [List.append_assoc, List.cons_append, List.nil_append]
  rw [e1, e2, swp_mid _ _ _ _ _ _ _ (by simp; omega) (by simp; omega)]
theorem drew_set (w : World) (p : Addr) (v : Value) : (w.setCell p v).drew = w.drew.setCell p v := rfl
set_option maxRecDepth 100000 in
set_option maxHeartbeats 4000000 in
theorem swaprange_any (P U M V S : List Turn) (n a b N g cap : Nat) (d0 : Array Turn) (w0 W : World) (R : RowK turnCells 4 w0 g 0 d0) (hU : U.length = n) (hV : V.length = n) (ha : P.length = a) (hb : P.length + n + M.length = b)
    (hs : d0.size = N) (hN : (P ++ U ++ M ++ V ++ S).length = N) (hS : SWK turnCells 4 w0 g 0 (P ++ U ++ M ++ V ++ S).toArray W) (hsz : N < 4611686018427387904) :
    Calls Try.prog 75 #[.slice (some ⟨g, 0, none⟩) N cap, .int .i64 a, .int .i64 b, .int .i64 n, .func (.func 27) #[] #[]] W fun e w' => e = .returned (.tuple #[]) ∧ SWK turnCells 4 w0 g 0 (P ++ V ++ M ++ U ++ S).toArray w' := by
  have S0 : Aside (SWK turnCells 4 w0 g 0 (P ++ (V.take 0 ++ U.drop 0) ++ M ++ (U.take 0 ++ V.drop 0) ++ S).toArray W) := by show SWK _ _ _ _ _ _ _; simpa using hS
  have hsum : a + n + M.length + n ≤ N := by simp at hN; omega
  have hbn : b + n ≤ N := by omega
  have han : a + n ≤ b := by omega
  have hlen : ∀ i, i ≤ n → (P ++ (V.take i ++ U.drop i) ++ M ++ (U.take i ++ V.drop i) ++ S).toArray.size = N := fun i hi => by simp at hN ⊢; omega
  have HL := Lib.hid hlen
  have HR := fun i hi => Lib.hid (swap_row P U M V S i n hU hV hi)
  have HE : Hid ((P ++ (V.take n ++ U.drop n) ++ M ++ (U.take n ++ V.drop n) ++ S) = P ++ V ++ M ++ U ++ S) := by
    show _ = _
    rw [List.take_of_length_le (by omega), List.take_of_length_le (by omega), List.drop_eq_nil_of_le (by omega), List.drop_eq_nil_of_le (by omega)]; simp
  rw [hb, ha] at HR
  clear hS hN hlen hU hV ha hb hsum
  go_enter Try.func75, Try.ntmps75
  go_wp2
  go_loopw [10] (fun s10 wr => ∃ i : Nat, i ≤ n ∧ s10 = .int .i64 i ∧ Aside (SWK turnCells 4 w0 g 0 (P ++ (V.take i ++ U.drop i) ++ M ++ (U.take i ++ V.drop i) ++ S).toArray wr)) (fun s10 _ => n - (intOf s10).toNat)
  case atStart => exact ⟨0, by omega, rfl, S0⟩
  case round =>
    clear S0
    obtain ⟨i, i2, rfl, S1⟩ := hrel
    by_cases hlt : i < n
    · obtain ⟨x, y, hx, hy, hsw⟩ := (HR i hlt).out
      have hsz1 := HL.out i (by omega)
      generalize (P ++ (V.take i ++ U.drop i) ++ M ++ (U.take i ++ V.drop i) ++ S).toArray = dk at *
      have S2 : Aside (SWK turnCells 4 w0 g 0 (swp dk (a + i) (b + i)) ((wr.drew.setCells g (0 + (a + i) * 4) (turnCells dk[b + i]!)).setCells g (0 + (b + i) * 4) (turnCells dk[a + i]!))) := S1.out.swapped R (a + i) (b + i) (by omega) (by omega)
      have Hh := S1.out.holds R.hblk R.hH (by omega)
      have ha0 := fun c (hc : c < 4) => Hh.cell (i := a + i) (c := c) (by omega) hc
      have hb0 := fun c (hc : c < 4) => Hh.cell (i := b + i) (c := c) (by omega) hc
      rw [hsw] at S2
      rw [hx] at ha0 S2
      rw [hy] at hb0 S2
      obtain ⟨xa, xr, xs, xl⟩ := x
      obtain ⟨ya, yr, ys, yl⟩ := y
      have a0 : wr.cell? ⟨g, (a + i) * 4, none⟩ = some (.int .i64 xa) := by have := (ha0 0 (by omega)).1; simpa using this
      have a1 : wr.cell? ⟨g, (a + i) * 4 + 1, none⟩ = some (.int .i64 xr) := by have := (ha0 1 (by omega)).1; simpa using this
      have a2 : wr.cell? ⟨g, (a + i) * 4 + 2, none⟩ = some (.int .i64 xs) := by have := (ha0 2 (by omega)).1; simpa using this
      have a3 : wr.cell? ⟨g, (a + i) * 4 + 3, none⟩ = some (.string xl) := by have := (ha0 3 (by omega)).1; simpa using this
      have b0 : wr.cell? ⟨g, (b + i) * 4, none⟩ = some (.int .i64 ya) := by have := (hb0 0 (by omega)).1; simpa using this
      have b1 : wr.cell? ⟨g, (b + i) * 4 + 1, none⟩ = some (.int .i64 yr) := by have := (hb0 1 (by omega)).1; simpa using this
      have b2 : wr.cell? ⟨g, (b + i) * 4 + 2, none⟩ = some (.int .i64 ys) := by have := (hb0 2 (by omega)).1; simpa using this
      have b3 : wr.cell? ⟨g, (b + i) * 4 + 3, none⟩ = some (.string yl) := by have := (hb0 3 (by omega)).1; simpa using this
      have fa0 : wr.frozen? ⟨g, (a + i) * 4, none⟩ = false := by have := (ha0 0 (by omega)).2; simpa using this
      have fa1 : wr.frozen? ⟨g, (a + i) * 4 + 1, none⟩ = false := by have := (ha0 1 (by omega)).2; simpa using this
      have fa2 : wr.frozen? ⟨g, (a + i) * 4 + 2, none⟩ = false := by have := (ha0 2 (by omega)).2; simpa using this
      have fa3 : wr.frozen? ⟨g, (a + i) * 4 + 3, none⟩ = false := by have := (ha0 3 (by omega)).2; simpa using this
      have fb0 : wr.frozen? ⟨g, (b + i) * 4, none⟩ = false := by have := (hb0 0 (by omega)).2; simpa using this
      have fb1 : wr.frozen? ⟨g, (b + i) * 4 + 1, none⟩ = false := by have := (hb0 1 (by omega)).2; simpa using this
      have fb2 : wr.frozen? ⟨g, (b + i) * 4 + 2, none⟩ = false := by have := (hb0 2 (by omega)).2; simpa using this
      have fb3 : wr.frozen? ⟨g, (b + i) * 4 + 3, none⟩ = false := by have := (hb0 3 (by omega)).2; simpa using this
      clear ha0 hb0 Hh
      have ea : ((a : Int) + (i : Int)).toNat = a + i := by omega
      have pa : (0 : Int) ≤ (a : Int) + (i : Int) := by omega
      have qa : (a : Int) + (i : Int) < (N : Int) := by omega
      have ra : IntKind.i64.wrap ((a : Int) + (i : Int)) = (a : Int) + (i : Int) := by rw [IntKind.wrap_i64]; omega
      have eb : ((b : Int) + (i : Int)).toNat = b + i := by omega
      have pb : (0 : Int) ≤ (b : Int) + (i : Int) := by omega
      have qb : (b : Int) + (i : Int) < (N : Int) := by omega
      have rb : IntKind.i64.wrap ((b : Int) + (i : Int)) = (b : Int) + (i : Int) := by rw [IntKind.wrap_i64]; omega
      have hltz : (i : Int) < (n : Int) := by omega
      clear S1 hx hy hsw hsz1 HL HR HE
      have mixed : Try.prog.follows .mixedOrders = true := by kernel_rfl
      go_wp2_with fail
      go_big_region_o
      all_goals go_wp2
      clear ra rb
      go_roundw
      case rel =>
        refine ⟨i + 1, by omega, by go_num, ?_⟩
        have S3 := S2.out
        simp only [World.setCells, Nat.zero_add, Nat.add_assoc, Nat.reduceAdd] at S3
        simp only [drew_set, Nat.add_assoc, Nat.reduceAdd]
        exact S3
      case measure => simp [intOf]; omega
    · obtain rfl : i = n := by omega
      rw [HE.out] at S1
      have hltz : decide ((i : Int) < (i : Int)) = false := decide_eq_false (by omega)
      clear HR HL HE
      go_wp2
      go_end0
      exact ⟨rfl, S1.out⟩
end Go.Proofs.Ytodcgalcpnckaaa
