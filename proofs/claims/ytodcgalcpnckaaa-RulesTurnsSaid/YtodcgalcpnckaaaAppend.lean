/- An append of what another slice holds, nil or not. -/
import Derived.Test.YtodcgalcpnckaaaOwns
import Derived.Laws.AppendOwnNone
import Derived.ArgAppend
set_option linter.unusedVariables false
set_option linter.unusedSimpArgs false
namespace Go.Proofs.Ytodcgalcpnckaaa
open Go Go.RowKit

/-- xv is a slice of m elements whose cells are news. -/
def SrcRow (w : World) (xv : Value) (m : Nat) (news : List Value) : Prop :=
  (∃ c, xv = .slice none 0 c ∧ m = 0 ∧ news = []) ∨ ∃ ad c, xv = .slice (some ad) m c ∧ ∀ j u, news[j]? = some u → w.cell? (ad.add j) = some u
theorem run_append_nothing {P : Program} {w : World} (base : Nat) (t ty e : TypeId) (i : TypeInfo) (size : Nat) (ht : P.underlying t = some (.slice e)) (hi : P.info? e = some i)
    (v : Value) (n : Nat) (xs : List Value) (hown : w.ownsRow base e size v n xs) (c : Nat) :
    (Builtin.append_ #[t, t] ty #[v, .slice none 0 c]).run P w = .ok v w := by
  rcases hown.2 with ⟨rfl, rfl⟩ | ⟨g, cap, cur, rfl, _, _, hnc, _⟩
  · simp [Builtin.append_, run_underlying ht, sizeOf, typeInfo, hi, Builtin.lenOf, Builtin.firstCells]
  · simp [Builtin.append_, run_underlying ht, sizeOf, typeInfo, hi, Builtin.lenOf, Builtin.firstCells, hnc, storeCells]
theorem wpList_append_src {P : Program} (w : World) {ops : Array Oper} {rest : List Oper} {o : Oper} {a : Act} {Q : Exit → Act → World → Prop} (hgd : o.guard = none) (s x : Operand) (t : TypeId)
    (ho : o.op = .call { callee := .builtin .append, args := #[s, x], argTypes := #[t, t] })
    (base : Nat) (e : TypeId) (i : TypeInfo) (z : Value) (size bytes : Nat) (ht : P.underlying t = some (.slice e)) (hi : P.info? e = some i) (hz : i.zero = some z)
    (hsize : i.size = size) (hby : i.bytes = bytes) (hzs : z.cells.size = size) (hsz : 0 < size)
    (v : Value) (n : Nat) (xs : List Value) (hs : a.eval s = v) (hown : w.ownsRow base e size v n xs)
    (xv : Value) (m : Nat) (news : List Value) (hx : a.eval x = xv) (hsrc : SrcRow w xv m news) (hl : news.length = m * size) (h1 : ∀ u ∈ news, u.oneCell' = true)
    (h63 : n + m ≤ maxLen) (hbytes : (n + m) * bytes ≤ 140737488355328) (hbase : base ≤ w.heap.size)
    (h : ∀ v' w', w'.ownsRow base e size v' (n + m) (xs ++ news) → w.grownBy w' v.ownBlock → wpList P ops Q rest (a.put o.dst v') w') : wpList P ops Q (o :: rest) a w := by
  rcases hsrc with ⟨c, rfl, rfl, rfl⟩ | ⟨ad, c, rfl, hc⟩
  · refine wpList_plain hgd fun K hK => ?_
    have hrun := run_append_nothing (P := P) (w := w) base t o.type e i size ht hi v n xs hown c
    unfold Oper.wp
    simp [execOp, ho, resolve, invoke, builtin, hs, hx, hrun, Result.andThen]
    exact hK _ _ (h v w (by simpa using hown) ⟨rfl, rfl, rfl, Nat.le_refl _, fun k hk _ => rfl⟩)
  · exact wpList_append_own w hgd s x t ho base e i z size bytes ht hi hz hsize hby hzs hsz v n xs hs hown ad m c news hx hl hc h1 h63 hbytes hbase (fun v' w' h2 h3 _ => h v' w' h2 h3)
theorem owns_mono {w : World} {base base' : Nat} {e : TypeId} {size : Nat} {v : Value} {n : Nat} {xs : List Value} (h : w.ownsRow base' e size v n xs) (hb : base ≤ base') : w.ownsRow base e size v n xs := by
  refine ⟨h.1, ?_⟩
  rcases h.2 with h | ⟨g, cap, cur, hv, h1, h2⟩
  · exact .inl h
  · exact .inr ⟨g, cap, cur, hv, Nat.le_trans hb h1, h2⟩
theorem owns_none {w : World} {base : Nat} {e : TypeId} {size : Nat} {v : Value} {n : Nat} {xs : List Value} (h : w.ownsRow base e size v n xs) :
    (v = .slice none 0 0 ∧ n = 0) ∨ ∃ g cap, v = .slice (some ⟨g, 0, none⟩) n cap ∧ base ≤ g ∧ g < w.heap.size ∧ n ≤ cap ∧ cap ≤ maxLen := by
  rcases h.2 with h | ⟨g, cap, cur, hv, h1, h2, h3, h4, _⟩
  · exact .inl h
  · refine .inr ⟨g, cap, hv, h1, ?_, h3, h4⟩
    rcases Nat.lt_or_ge g w.heap.size with h' | h'
    · exact h'
    · rw [Array.getElem?_eq_none h'] at h2; cases h2
theorem add_lit0 (g o j : Nat) : (⟨g, o, none⟩ : Addr).add j = ⟨g, o + j, none⟩ := by unfold Addr.add; split <;> simp_all
/-- A part of an owned row, as a source. -/
theorem src_part {w : World} {base : Nat} {e : TypeId} {size g n cap o m c : Nat} {xs news : List Value} (h : w.ownsRow base e size (.slice (some ⟨g, 0, none⟩) n cap) n xs) (hp : ∀ j u, news[j]? = some u → xs[o + j]? = some u) : SrcRow w (.slice (some ⟨g, o, none⟩) m c) m news := by
  refine .inr ⟨_, _, rfl, fun j u hu => ?_⟩
  have := @World.ownsRow.cells _ _ _ _ _ _ _ h
  have := this rfl (o + j) u (hp j u hu)
  rw [add_lit0, Nat.zero_add] at this
  rw [add_lit0]; exact this
theorem src_new (w : World) (l : List Value) (t : TypeId) (n m c : Nat) (hn : n = w.heap.size) : SrcRow (w.alloc (.cells l.toArray t)) (.slice (some ⟨n, 0, none⟩) m c) m l := .inr ⟨_, _, rfl, new_cells' w l t n hn⟩
theorem src_ext {w w' : World} {xv : Value} {m : Nat} {news : List Value} (h : SrcRow w xv m news) (hx : Ext w w') : SrcRow w' xv m news := by
  rcases h with h | ⟨ad, c, hv, hc⟩
  · exact .inl h
  · refine .inr ⟨ad, c, hv, fun j u hu => ?_⟩
    have h1 := hc j u hu
    have hb : (ad.add j).block < w.heap.size := by
      have hs : (w.cell? (ad.add j)).isSome = true := by rw [h1]; rfl
      generalize ad.add j = p at hs
      unfold World.cell? at hs
      cases hk : w.heap[p.block]? with
      | none => rw [hk] at hs; simp at hs
      | some x => exact (Array.getElem?_eq_some_iff.1 hk).1
    exact (Below.cell hx hb).trans h1
theorem reads_shape {w : World} {v : Value} {k : Nat} {cs : List Value} (h : Reads w v k cs) : ∃ a c, v = .slice a k c := by
  rcases h with ⟨a, c, rfl, rfl, rfl⟩ | ⟨b, o, c, rfl, _⟩ <;> exact ⟨_, _, rfl⟩
/-- A slice that reads is a source. -/
theorem src_reads {w : World} {v : Value} {k : Nat} {cs : List Value} (h : Reads w v k cs) : SrcRow w v k cs := by
  rcases h with ⟨a, c, rfl, rfl, rfl⟩ | ⟨b, o, c, rfl, _, _, _, hc⟩
  · cases a with
    | none => exact .inl ⟨c, rfl, rfl, rfl⟩
    | some ad => exact .inr ⟨ad, c, rfl, fun j u hu => by simp at hu⟩
  · exact .inr ⟨_, _, rfl, fun j u hu => by rw [add_lit0]; exact hc j u hu⟩
/-- An append to a slice without room: what it held, and what came. -/
theorem wpList_append_full {P : Program} (w : World) {ops : Array Oper} {rest : List Oper} {o : Oper} {a : Act} {Q : Exit → Act → World → Prop} (hgd : o.guard = none) (s x : Operand) (t : TypeId)
    (ho : o.op = .call { callee := .builtin .append, args := #[s, x], argTypes := #[t, t] })
    (e : TypeId) (i : TypeInfo) (z : Value) (size bytes : Nat) (ht : P.underlying t = some (.slice e)) (hi : P.info? e = some i) (hz : i.zero = some z)
    (hsize : i.size = size) (hby : i.bytes = bytes) (hzs : z.cells.size = size) (hsz : 0 < size)
    (b off n : Nat) (olds : List Value) (hs : a.eval s = .slice (some ⟨b, off, none⟩) n n) (hb : b < w.heap.size) (hlo : olds.length = n * size) (holds : ∀ j u, olds[j]? = some u → w.cell? ⟨b, off + j, none⟩ = some u)
    (xv : Value) (m : Nat) (news : List Value) (hx : a.eval x = xv) (hsrc : SrcRow w xv m news) (hl : news.length = m * size) (h1 : ∀ u ∈ news, u.oneCell' = true)
    (h63 : n + m ≤ maxLen) (hbytes : (n + m) * bytes ≤ 140737488355328)
    (h : ∀ v' w', Reads w' v' (n + m) (olds ++ news) → Ext w w' → wpList P ops Q rest (a.put o.dst v') w') : wpList P ops Q (o :: rest) a w := by
  have hsame : Reads w (.slice (some ⟨b, off, none⟩) n n) n olds := .inr ⟨b, off, n, rfl, Nat.le_refl _, by omega, hb, holds⟩
  rcases hsrc with ⟨c, rfl, rfl, rfl⟩ | ⟨ad, c, rfl, hc⟩
  · refine wpList_plain hgd fun K hK => ?_
    have hrun : (Builtin.append_ #[t, t] o.type #[.slice (some ⟨b, off, none⟩) n n, .slice none 0 c]).run P w = .ok (.slice (some ⟨b, off, none⟩) n n) w := by
      simp [Builtin.append_, run_underlying ht, sizeOf, typeInfo, hi, Builtin.lenOf, Builtin.firstCells, storeCells]
    unfold Oper.wp
    simp [execOp, ho, resolve, invoke, builtin, hs, hx, hrun, Result.andThen]
    exact hK _ _ (h _ _ (by simpa using hsame) (Ext.refl w))
  · refine wpList_append_arg w hgd s x t ho e i z size bytes ht hi hz hsize hby hzs hsz b off n n olds hs hlo holds ad m c news hx hl hc h1 (fun hr j hj => ?_) h63 hbytes (fun hr => ?_) (fun hr v' w' h2 h3 => ?_)
    · exfalso
      have : m = 0 := by omega
      subst this
      simp at hl; subst hl; simp at hj
    · obtain rfl : m = 0 := by omega
      obtain rfl : news = [] := List.eq_nil_of_length_eq_zero (by simpa using hl)
      have h9 := h (.slice (some ⟨b, off, none⟩) n n) w (by simpa using hsame) (Ext.refl w)
      simpa [World.setCells] using h9
    · exact h _ _ (owns_reads h2 (by omega)) (Below.grown (Ext.refl w) h3 (Nat.le_refl _) (fun k hk => by cases hk))
end Go.Proofs.Ytodcgalcpnckaaa
