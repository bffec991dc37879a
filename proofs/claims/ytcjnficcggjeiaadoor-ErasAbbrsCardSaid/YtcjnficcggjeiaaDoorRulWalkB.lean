/- Walks of rules: which sets may be. -/
import Derived.Test.YtcjnficcggjeiaaDoorRulWalk
set_option linter.unusedVariables false
set_option linter.unusedSimpArgs false
namespace Go.Proofs.YtcjnficcggjeiaaDoor
open Go.RowKit

/-- The cells of some rules. -/
def ruleRow : List Rule → List Value
  | [] => []
  | x :: l => ruleCells x ++ ruleRow l
theorem ruleRow_at (l : List Rule) : ∀ (i : Nat) (h : i < l.length) (c : Nat) (u : Value), (ruleCells l[i])[c]? = some u → (ruleRow l)[i * 11 + c]? = some u := by
  induction l with
  | nil => intro i h; simp at h
  | cons x l ih =>
    intro i h c u hu
    cases i with
    | zero =>
      have hc : c < (ruleCells x).length := (List.getElem?_eq_some_iff.1 hu).1
      simp only [Nat.zero_mul, Nat.zero_add, ruleRow]
      rw [List.getElem?_append_left hc]; exact hu
    | succ i =>
      have := ih i (by simpa using h) c u hu
      simp only [ruleRow]
      rw [List.getElem?_append_right (by simp; omega)]
      rw [show (i + 1) * 11 + c - (ruleCells x).length = i * 11 + c by simp; omega]
      exact this
/-- What a slice of rules holds at a place. -/
theorem rule_at {w : World} {b o : Nat} {l : List Rule} (hc : ∀ i u, (ruleRow l)[i]? = some u → w.cell? ⟨b, o + i, none⟩ = some u) (j : Nat) (h : j < l.length) :
    w.cell? ⟨b, o + j * 11, none⟩ = some (.string l[j].nm) ∧ w.cell? ⟨b, o + j * 11 + 1, none⟩ = some (.int .i64 l[j].a) ∧ w.cell? ⟨b, o + j * 11 + 2, none⟩ = some (.int .i64 l[j].b) ∧ w.cell? ⟨b, o + j * 11 + 3, none⟩ = some (.int .i64 l[j].m) ∧ w.cell? ⟨b, o + j * 11 + 4, none⟩ = some (.int .i64 l[j].k) ∧
    w.cell? ⟨b, o + j * 11 + 5, none⟩ = some (.int .i64 l[j].wd) ∧ w.cell? ⟨b, o + j * 11 + 6, none⟩ = some (.int .i64 l[j].d) ∧ w.cell? ⟨b, o + j * 11 + 7, none⟩ = some (.int .i64 l[j].t) ∧ w.cell? ⟨b, o + j * 11 + 8, none⟩ = some (.int .i64 l[j].r) ∧ w.cell? ⟨b, o + j * 11 + 9, none⟩ = some (.int .i64 l[j].s) ∧ w.cell? ⟨b, o + j * 11 + 10, none⟩ = some (.string l[j].l) := by
  have k := fun c u hu => hc _ _ (ruleRow_at l j h c u hu)
  simp only [← Nat.add_assoc] at k
  exact ⟨k 0 _ rfl, k 1 _ rfl, k 2 _ rfl, k 3 _ rfl, k 4 _ rfl, k 5 _ rfl, k 6 _ rfl, k 7 _ rfl, k 8 _ rfl, k 9 _ rfl, k 10 _ rfl⟩
set_option maxRecDepth 100000 in
set_option maxHeartbeats 2000000 in
theorem notright_any (x : Rule) (w : World) : Rets Tryd.prog 97 #[ruleV x] w (.bool (!Rul.rightB x)) := by
  have H := fun w => Lib.hid (rule_any x w)
  generalize Rul.rightB x = R at *
  obtain ⟨nm, a, b, m, k, wd, d, t, r, s, l⟩ := x
  unfold Rets
  go_enter Tryd.func97, Tryd.ntmps97
  go_wp2_with (go_at_call 98; refine Rets.use (H _).out ?_; intro _)
  go_ret
  exact ⟨rfl, done⟩
/-- Which one may not be: the first's place; -1: all may. -/
def badI : List Rule → Nat → Int
  | [], _ => -1
  | x :: l, k => if Rul.rightB x = true then badI l (k + 1) else k
theorem badI_all (l : List Rule) : ∀ k, decide (0 ≤ badI l k) = !Rul.allB l := by
  induction l with
  | nil => intro k; rfl
  | cons x l ih =>
    intro k
    unfold badI Rul.allB
    cases h : Rul.rightB x
    · simp [h]
    · simp only [if_true, List.all_cons, h, Bool.true_and]; exact ih (k + 1)
theorem badI_yes {x : Rule} {l : List Rule} {k : Nat} (h : Rul.rightB x = true) : badI (x :: l) k = badI l (k + 1) := if_pos h
theorem badI_no {x : Rule} {l : List Rule} {k : Nat} (h : Rul.rightB x = false) : badI (x :: l) k = k := if_neg (by rw [h]; simp)
theorem badI_bd (l : List Rule) : ∀ k : Nat, -1 ≤ badI l k ∧ badI l k < k + l.length + 1 := by
  induction l with
  | nil => intro k; simp [badI]; omega
  | cons x l ih =>
    intro k
    have := ih (k + 1)
    unfold badI
    split
    · simp; omega
    · simp; omega
set_option maxRecDepth 100000 in
set_option maxHeartbeats 4000000 in
theorem index_any (l : List Rule) (n : Nat) (hn : l.length = n) (v : Value) (w : World) (hr : Reads w v n (ruleRow l)) :
    Rets Tryd.prog 104 #[v, .func (.func 97) #[] #[]] w (.int .i64 (badI l 0)) := by
  by_cases h0 : n = 0
  · subst h0
    obtain rfl := List.eq_nil_of_length_eq_zero hn
    obtain ⟨a9, c9, rfl⟩ : ∃ a c, v = .slice a 0 c := by rcases hr with ⟨a, c, rfl, _⟩ | ⟨b, o, c, rfl, _⟩ <;> exact ⟨_, _, rfl⟩
    clear hr hn
    unfold Rets
    go_enter Tryd.func104, Tryd.ntmps104
    go_wp2
    refine wp_loop_rounds 1 ?_
    simp only [rounds_succ]
    go_wp2
    go_ret
    exact ⟨rfl, done⟩
  · rcases hr with ⟨_, _, rfl, h1, _⟩ | ⟨b, o, c, rfl, k1, k2, m1, hc⟩
    · exact absurd h1 h0
    haveI : InW b w := ⟨m1⟩
    have hl : n ≤ 9223372036854775807 := by unfold maxLen at k2; omega
    have HC := Lib.hid hc
    have Hn := Lib.hid hn
    clear hc hn
    unfold Rets
    go_enter Tryd.func104, Tryd.ntmps104
    go_wp2
    go_loopw [8] (fun i wr => ∃ j : Nat, j ≤ n ∧ i = .int .i64 j ∧ Hid (badI l 0 = badI (l.drop j) j) ∧ Ext w wr) (fun i _ => n - (intOf i).toNat)
    case atStart => exact ⟨0, by omega, rfl, rfl, isext⟩
    case round =>
      obtain ⟨j, j2, rfl, he, hx⟩ := hrel
      obtain ⟨yr, rfl⟩ := fin hx
      clear hx
      by_cases hlt : j < n
      · have hj : j < l.length := by rw [Hn.out]; exact hlt
        obtain ⟨c0, c1, c2, c3, c4, c5, c6, c7, c8, c9, c10⟩ := rule_at HC.out j hj
        have hd := Lib.hid (List.drop_eq_getElem_cons hj)
        have HR := fun w => Lib.hid (notright_any l[j] w)
        generalize l[j] = x at *
        obtain ⟨nm, a, b', m, k, wd, d, t, r, s, lt⟩ := x
        simp only at c0 c1 c2 c3 c4 c5 c6 c7 c8 c9 c10
        cases hb : Rul.rightB ⟨nm, a, b', m, k, wd, d, t, r, s, lt⟩
        · have E : Hid (badI l 0 = j) := he.out.trans (by rw [hd.out]; exact badI_no hb)
          rw [hb] at HR
          clear hb
          go_wp2_with (go_at_call 97; refine Rets.use (HR _).out ?_; intro _)
          go_ret
          exact ⟨by rw [E.out]; first | done | rfl, done⟩
        · have E : Hid (badI l 0 = badI (l.drop (j + 1)) (j + 1)) := he.out.trans (by rw [hd.out]; exact badI_yes hb)
          rw [hb] at HR
          clear hb
          go_wp2_with (go_at_call 97; refine Rets.use (HR _).out ?_; intro _)
          go_roundw
          case rel => exact ⟨j + 1, by omega, by go_num, E, isext⟩
          case measure => simp [intOf]; omega
      · have E : Hid (badI l 0 = -1) := he.out.trans (by rw [List.drop_eq_nil_of_le (by rw [Hn.out]; omega)]; rfl)
        go_wp2
        go_ret
        exact ⟨by rw [E.out]; first | done | rfl, done⟩
set_option maxRecDepth 100000 in
set_option maxHeartbeats 2000000 in
theorem sets_any (l : List Rule) (n : Nat) (hn : l.length = n) (v : Value) (w : World) (hr : Reads w v n (ruleRow l)) : Rets Tryd.prog 85 #[v] w (.bool (Rul.allB l)) := by
  have H : ∀ w, Reads w v n (ruleRow l) → Hid (Rets Tryd.prog 96 #[v, .func (.func 97) #[] #[]] w (.bool (!Rul.allB l))) := by
    intro w hr
    have HI := fun w hr => Lib.hid (index_any l n hn v w hr)
    have E := Lib.hid (badI_all l 0)
    generalize badI l 0 = I at *
    show Rets _ _ _ _ _
    unfold Rets
    go_enter Tryd.func96, Tryd.ntmps96
    go_wp2_with (go_at_call 104; refine Rets.use (HI _ (hr.ext isext)).out ?_; intro _)
    go_ret
    exact ⟨by rw [← E.out]; first | done | rfl, done⟩
  generalize Rul.allB l = A at *
  unfold Rets
  go_enter Tryd.func85, Tryd.ntmps85
  go_wp2_with (go_at_call 96; refine Rets.use (H _ (hr.ext isext)).out ?_; intro _)
  go_ret
  exact ⟨by simp, done⟩
end Go.Proofs.YtcjnficcggjeiaaDoor
