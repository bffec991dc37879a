/- Walk: the program's lines of a text. -/
import Derived.Test.YtifjnegjjjpagaaFieWalkJ
set_option linter.unusedVariables false
set_option linter.unusedSimpArgs false
namespace Go.Proofs.Ytifjnegjjjpagaa
open Go.RowKit Go.Shelf

attribute [local go_sem] Oper.semAt_some

set_option maxHeartbeats 1000000 in
theorem each_in (n : Nat) (s : ByteArray) (w : World) :
    CallsIn Fence.wide n Try.prog 18 #[.string s] w fun e w' => e = .returned (.func (.func 28) #[] #[.pointer (some ⟨w.heap.size, 0, none⟩)]) ∧ w' = w.alloc (.cells #[.string s] 9) := by
  refine callsIn_of_wp Try.func18 rfl trivial ?_ rfl
  simp only [Try.ntmps18, List.size_toArray, List.length_cons, List.length_nil, Nat.reduceAdd, Nat.reduceSub, Array.replicate_succ, Array.replicate_zero, List.push_toArray, List.append_toArray, List.nil_append, List.cons_append]
  gi_wp2
  go_ret
  exact ⟨rfl, rfl⟩

theorem ownsRow_base {W : World} {a b : Nat} {e : TypeId} {size : Nat} {v : Value} {k : Nat} {xs : List Value} (h : W.ownsRow b e size v k xs) (hab : a ≤ b) : W.ownsRow a e size v k xs := by
  refine ⟨h.1, ?_⟩
  rcases h.2 with h2 | ⟨g, cap, cur, h1, h2, r⟩
  · exact .inl h2
  · exact .inr ⟨g, cap, cur, h1, Nat.le_trans hab h2, r⟩
theorem ownsRow_ne {W : World} {b B : Nat} {e : TypeId} {size : Nat} {v : Value} {k : Nat} {xs : List Value} (h : W.ownsRow b e size v k xs) (hB : B < b) : some B ≠ v.ownBlock := by
  rcases h.2 with ⟨rfl, _⟩ | ⟨g, cap, cur, rfl, h2, _⟩
  · simp [Value.ownBlock]
  · intro e'
    obtain rfl : B = g := by simpa [Value.ownBlock] using e'
    omega
/-- What an append to a boxed slice comes to. -/
theorem boxed_step {W w1 : World} {n₀ n2 Bo Bt : Nat} {t e te : TypeId} {size : Nat} {v v' : Value} {k m : Nat} {xs ys : List Value} {tmp : Obj}
    (hv : Boxed W Bo t v) (hte : t ≠ e) (hrow : W.ownsRow n2 e size v k xs) (hn : n₀ ≤ n2) (hn₀ : n₀ ≤ W.heap.size) (hB : n₀ ≤ Bo) (hBt : Bt < n2) (hne : Bt ≠ Bo)
    (hown' : w1.ownsRow n2 e size v' m ys) (hgrow : (W.alloc tmp).grownBy w1 v.ownBlock) :
    Boxed w1 Bo t v ∧ Boxed (w1.setCell ⟨Bo, 0, none⟩ v') Bo t v' ∧ (w1.setCell ⟨Bo, 0, none⟩ v').ownsRow n2 e size v' m ys ∧ KeepsOthers W (w1.setCell ⟨Bo, 0, none⟩ v') ∧ Below n₀ W (w1.setCell ⟨Bo, 0, none⟩ v') ∧
      (∀ u, Boxed W Bt te u → Boxed (w1.setCell ⟨Bo, 0, none⟩ v') Bt te u) := by
  obtain ⟨h1, h2, h3, h4, h5⟩ := hv.appended hte (ownsRow_base hrow hn) hn₀ hB (ownsRow_base hown' hn) hgrow
  refine ⟨h1, h2, hown'.kept (grownBy_setCell' w1 Bo v') (.inr (h1.not_row hte hown').symm), h4, h5, fun u hu => ?_⟩
  exact ((hu.alloc tmp).kept hgrow (ownsRow_ne hrow hBt)).kept (grownBy_setCell' w1 Bo v') (by simpa using hne)

theorem lines_len (s : ByteArray) : ∀ (f k : Nat), (Fie.linesN s f k).length ≤ f
  | 0, _ => by simp [Fie.linesN]
  | f + 1, k => by
    have := lines_len s f (Fie.stop Fie.nolf s k + 1)
    unfold Fie.linesN; split <;> simp <;> omega

set_option maxRecDepth 100000 in
set_option maxHeartbeats 2000000 in
theorem lines_in (n : Nat) (hn : 3 ≤ n) (s : ByteArray) (hs : s.size ≤ 65536) (w : World) :
    CallsIn Fence.wide n Try.prog 10 #[.string s] w (TextsEnd w (Fie.lines s 0)) := by
  have hm : s.size ≤ maxLen := by unfold maxLen; omega
  have hN : (Fie.lines s 0).length ≤ s.size := lines_len s _ 0
  have h1 : 1 ≤ n := by omega
  obtain ⟨i0, hi, hz0, hz1, hz2⟩ := info_parts Try.infoText
  refine callsIn_of_wp_marks Try.func10 rfl trivial ?_ rfl
  simp only [Try.ntmps10, List.size_toArray, List.length_cons, List.length_nil, Nat.reduceAdd, Nat.reduceSub, Array.replicate_succ, Array.replicate_zero, List.push_toArray, List.append_toArray, List.nil_append, List.cons_append]
  gi_wp2_with (refine ⟨trivial, ?_⟩; gi_at_call 18; refine (each_in (n - 1) _ _).mono ?_; rintro e w' ⟨rfl, rfl⟩)
  have bO := Boxed.new w 24 (.slice none 0 0)
  have bN := Boxed.new (w.alloc (.cells #[.slice none 0 0] 24)) 9 (.string s)
  rw [World.size_alloc] at bN
  have hB0 : Below w.heap.size w ((w.alloc (.cells #[.slice none 0 0] 24)).alloc (.cells #[.string s] 9)) := ((Below.refl _ w).alloc (Nat.le_refl _) _).alloc (by simp) _
  refine wpIn_rangeFunc_ownS rfl h1 (gf := 28) (lb := #[.pointer (some ⟨w.heap.size + 1, 0, none⟩)]) rfl trivial (enters_of Try.func28 (by kernel_rfl) rfl)
    (encs := fun x : ByteArray => #[Value.string x]) (Kp := lkeep (w.heap.size + 1)) (St := lstep (w.heap.size + 1)) (S := fun ys => ys = Fie.lines s 0) (Sp := fun _ => True) (N := (Fie.lines s 0).length)
    (fun l J Jx W hW hJ hJx hS hY h0 => each1_in (n - 1) (by omega) l (w.heap.size + 1) s hm J Jx (fun pre A B h hx => hJ pre A B none h (grown_of_ext hx) (by simp)) hS hY W ((hW.block _ bN.lt).trans bN) h0)
    (fun h k v hv => k v (h v hv)) (fun W l o o' _ h hc _ => lkeep_b W l o o' h hc) (Below.refl _ _) (fun _ => rfl)
    (fun A B l o hab ho hc => by
      obtain ⟨⟨v, hv⟩, v', rfl⟩ := hab
      rw [Below.heap_setCell _ _ _ _ (fun e => by
        rw [e] at ho
        rw [show A.heap[w.heap.size + 1]? = _ from hv] at ho; cases ho; cases hc)]
      exact ho)
    (fun pre W => (∃ v, Boxed W w.heap.size 24 v ∧ W.ownsRow (w.heap.size + 2) 9 1 v pre.length (pre.map Value.string) ∧ True) ∧ Below w.heap.size ((w.alloc (.cells #[.slice none 0 0] 24)).alloc (.cells #[.string s] 9)) W)
    (fun _ _ _ => False)
    (OwnFrom.and (Own.from (holdsRow_own (w.heap.size + 2) w.heap.size 24 9 1 (fun pre : List ByteArray => pre.length) (fun pre => pre.map Value.string) (fun _ _ => True)) _) (ownFrom_below (by simp; omega) (by simp; omega)))
    (fun pre A B hI hab => by
      obtain ⟨⟨v, hv, hr, _⟩, hB⟩ := hI
      obtain ⟨_, v', rfl⟩ := hab
      exact ⟨⟨v, hv.kept (grownBy_setCell' A _ v') (by simp), hr.kept (grownBy_setCell' A _ v') (.inr (ownsRow_ne hr (by omega)).symm), trivial⟩, hB.setCell (p := ⟨w.heap.size + 1, 0, none⟩) (by simp) _⟩)
    (fun _ _ _ _ _ hs _ _ => hs)
    ⟨⟨_, bO.alloc _, World.ownsRow_nil _ _ _ _, trivial⟩, Below.refl _ _⟩
    (fun x => { tmps := #[.string s, undef, .slice none 0 0, .pointer (some ⟨w.heap.size, 0, none⟩), .string x, .string s, .func (.func 28) #[] #[.pointer (some ⟨w.heap.size + 1, 0, none⟩)], .string x, undef, undef, undef, undef, undef], defers := [] }) ?assign ?body ?done ?stop
  case assign =>
    intro l x W K hK
    gi_wp2
    exact hK
  case body =>
    rintro l pre x W ⟨⟨v, hv, hrow, _⟩, hB⟩ hlt
    have hc := hv.cell
    have hwz := hB.size
    simp only [World.size_alloc] at hwz
    have hpl : pre.length < 65536 := by omega
    gi_wp2_with (gi_at_builtin; refine wpListIn_append_own _ rfl _ _ 24 rfl (w.heap.size + 2) 9 i0 (.string ByteArray.empty) 1 16 Try.underlying24 hi hz0 hz1 hz2 rfl (by decide) _ _ _ rfl (hrow.alloc _) ⟨W.heap.size, 0, none⟩ 1 1 [.string x] rfl rfl (cell_one_new _ _ _) (by simp [Value.oneCell']) (by unfold maxLen; omega) (by omega) (by simp; omega) ?_; intro v' w1 hown' hgrow _; obtain ⟨g', cap', rfl⟩ := ownsRow_succ hown'; obtain ⟨hv1, hv2, hr2, hk2, hb2, hbt2⟩ := boxed_step (te := 9) (Bt := w.heap.size + 1) hv (by decide) hrow (n₀ := w.heap.size) (by omega) (by omega) (Nat.le_refl _) (by omega) (by omega) hown' hgrow; have hc1 := hv1.cell; have hf1 := hv1.frozen)
    exact ⟨hk2, hbt2, ⟨_, hv2, by rw [List.length_append, List.map_append]; exact hr2, trivial⟩, hB.trans hb2⟩
  case done =>
    rintro D ys W hD rfl ⟨⟨v, hv, hrow, _⟩, hB⟩ hK
    have hc := hv.cell
    gi_wp2
    refine ⟨by simp, .inl ⟨_, _, rfl, run_takeDeferred hK, ?_⟩⟩
    have hX := (hB0.trans hB).trans (belowK_b (w := w) (Nat.le_refl _) W D _ (.deferred none) (by simp at hD; omega) hK rfl rfl)
    exact ⟨_, results_tmp rfl _ _ _, v, ⟨_, hX⟩, rfl, by have := owns_reads (ownsRow_putObj hrow (.deferred none) hK rfl) (by omega); exact this, rfl⟩
  case stop =>
    rintro D c pre W _ _ h _
    exact h.elim
theorem lines_any (s : ByteArray) (w : World) (hs : s.size ≤ 65536) : Calls Try.prog 10 #[.string s] w (TextsEnd w (Fie.lines s 0)) :=
  (callsIn_wide (n := 3)).1 (lines_in 3 (by omega) s hs w)
end Go.Proofs.Ytifjnegjjjpagaa
