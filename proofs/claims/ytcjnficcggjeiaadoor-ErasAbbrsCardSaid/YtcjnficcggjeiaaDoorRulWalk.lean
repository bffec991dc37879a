/- Walks of rules: which may be. -/
import Derived.Test.YtcjnficcggjeiaaDoorMomWalkQ
import Derived.Test.YtcjnficcggjeiaaDoorMomWalkW
import Derived.Test.YtcjnficcggjeiaaDoorRulPlainB
import Derived.Test.YtcjnficcggjeiaaDoorReads
import Derived.Deep.RegionWith
set_option linter.unusedVariables false
set_option linter.unusedSimpArgs false
namespace Go.Proofs.YtcjnficcggjeiaaDoor
open Go.RowKit

abbrev ruleCells (x : Rule) : List Value := [.string x.nm, .int .i64 x.a, .int .i64 x.b, .int .i64 x.m, .int .i64 x.k, .int .i64 x.wd, .int .i64 x.d, .int .i64 x.t, .int .i64 x.r, .int .i64 x.s, .string x.l]
abbrev ruleV (x : Rule) : Value := .agg (ruleCells x).toArray
abbrev turnCells (x : Turn) : List Value := [.int .i64 x.at', .int .i64 x.r, .int .i64 x.s, .string x.l]
abbrev turnV (x : Turn) : Value := .agg (turnCells x).toArray
set_option maxRecDepth 100000 in
set_option maxHeartbeats 2000000 in
theorem yearfn_any (n : Int) (w : World) : Rets Tryd.prog 105 #[.int .i64 n] w (.bool (Rul.yearB n)) := by
  by_cases h1 : 1 ≤ n
  · by_cases h2 : n ≤ 9999
    · have E : Hid (Rul.yearB n = true) := decide_eq_true ⟨h1, h2⟩
      unfold Rets
      go_enter Tryd.func105, Tryd.ntmps105
      go_wp2
      go_ret
      exact ⟨by rw [E.out]; first | done | rfl, done⟩
    · have E : Hid (Rul.yearB n = false) := decide_eq_false (by omega)
      have h3 : decide (n ≤ 9999) = false := decide_eq_false h2
      clear h2
      unfold Rets
      go_enter Tryd.func105, Tryd.ntmps105
      go_wp2
      go_ret
      exact ⟨by rw [E.out]; first | done | rfl, done⟩
  · have E : Hid (Rul.yearB n = false) := decide_eq_false (by omega)
    have h3 : decide (1 ≤ n) = false := decide_eq_false h1
    clear h1
    unfold Rets
    go_enter Tryd.func105, Tryd.ntmps105
    go_wp2
    go_ret
    exact ⟨by rw [E.out]; first | done | rfl, done⟩
theorem rule_cases (x : Rule) : (Rul.yearB x.a = false ∧ Rul.rightB x = false) ∨
    (Rul.yearB x.a = true ∧ Rul.yearB x.b = false ∧ (x.b == 1000000) = false ∧ Rul.rightB x = false) ∨
    (Rul.yearB x.a = true ∧ (Rul.yearB x.b = true ∨ (Rul.yearB x.b = false ∧ x.b = 1000000)) ∧
      ((Rul.spotB x = false ∧ Rul.rightB x = false) ∨ (Rul.spotB x = true ∧ decide (-43200 ≤ x.s) = false ∧ Rul.rightB x = false) ∨ (Rul.spotB x = true ∧ -43200 ≤ x.s ∧ decide (x.s ≤ 43200) = false ∧ Rul.rightB x = false) ∨ (Rul.spotB x = true ∧ -43200 ≤ x.s ∧ x.s ≤ 43200 ∧ Rul.rightB x = true))) := by
  unfold Rul.rightB
  cases h1 : Rul.yearB x.a
  · exact .inl ⟨rfl, rfl⟩
  · right
    have hb : (Rul.yearB x.b = false ∧ (x.b == 1000000) = false) ∨ (Rul.yearB x.b = true ∨ (Rul.yearB x.b = false ∧ x.b = 1000000)) := by
      cases h2 : Rul.yearB x.b
      · by_cases h3 : x.b = 1000000
        · exact .inr (.inr ⟨rfl, h3⟩)
        · exact .inl ⟨rfl, by simpa using h3⟩
      · exact .inr (.inl rfl)
    rcases hb with ⟨h2, h3⟩ | hb
    · exact .inl ⟨rfl, h2, h3, by rw [h2, h3]; rfl⟩
    · right
      have e : (Rul.yearB x.b || x.b == 1000000) = true := by
        rcases hb with h | ⟨h, h2⟩
        · rw [h]; rfl
        · rw [h2]; simp
      refine ⟨rfl, hb, ?_⟩
      rw [e]
      cases h4 : Rul.spotB x
      · exact .inl ⟨rfl, rfl⟩
      · right
        by_cases h5 : -43200 ≤ x.s
        · right
          by_cases h6 : x.s ≤ 43200
          · exact .inr ⟨rfl, h5, h6, by simp [h5, h6]⟩
          · exact .inl ⟨rfl, h5, decide_eq_false h6, by simp [h6]⟩
        · exact .inl ⟨rfl, decide_eq_false h5, by simp [h5]⟩
set_option maxRecDepth 100000 in
set_option maxHeartbeats 4000000 in
theorem rule_w1 (nm l : ByteArray) (a b m k wd d t r s : Int) (A B S R : Bool) (w : World) (H1 : ∀ w, Rets Tryd.prog 105 #[.int .i64 a] w (.bool A)) (H2 : ∀ w, Rets Tryd.prog 105 #[.int .i64 b] w (.bool B)) (H3 : ∀ w, Rets Tryd.prog 56 #[spotA m k wd d t r] w (.bool S))
    (hA : A = false) (hR : R = false) : Rets Tryd.prog 98 #[.agg #[.string nm, .int .i64 a, .int .i64 b, .int .i64 m, .int .i64 k, .int .i64 wd, .int .i64 d, .int .i64 t, .int .i64 r, .int .i64 s, .string l]] w (.bool R) := by
  subst hA hR
  have H1 := fun w => Lib.hid (H1 w)
  have H2 := fun w => Lib.hid (H2 w)
  have H3 := fun w => Lib.hid (H3 w)
  unfold Rets
  go_enter Tryd.func98, Tryd.ntmps98
  go_wp2_with (first | (go_at_call_of 105 (Value.int .i64 a); refine Rets.use (H1 _).out ?_; intro _) | (go_at_call 105; refine Rets.use (H2 _).out ?_; intro _) | (go_at_call 56; refine Rets.use (H3 _).out ?_; intro _))
  go_ret
  exact ⟨rfl, done⟩
set_option maxRecDepth 100000 in
set_option maxHeartbeats 4000000 in
theorem rule_w2 (nm l : ByteArray) (a b m k wd d t r s : Int) (A B S R : Bool) (w : World) (H1 : ∀ w, Rets Tryd.prog 105 #[.int .i64 a] w (.bool A)) (H2 : ∀ w, Rets Tryd.prog 105 #[.int .i64 b] w (.bool B)) (H3 : ∀ w, Rets Tryd.prog 56 #[spotA m k wd d t r] w (.bool S))
    (hA : A = true) (hB : B = false) (c1 : (b == 1000000) = false) (hR : R = false) : Rets Tryd.prog 98 #[.agg #[.string nm, .int .i64 a, .int .i64 b, .int .i64 m, .int .i64 k, .int .i64 wd, .int .i64 d, .int .i64 t, .int .i64 r, .int .i64 s, .string l]] w (.bool R) := by
  subst hA hB hR
  have H1 := fun w => Lib.hid (H1 w)
  have H2 := fun w => Lib.hid (H2 w)
  have H3 := fun w => Lib.hid (H3 w)
  unfold Rets
  go_enter Tryd.func98, Tryd.ntmps98
  go_wp2_with (first | (go_at_call_of 105 (Value.int .i64 a); refine Rets.use (H1 _).out ?_; intro _) | (go_at_call 105; refine Rets.use (H2 _).out ?_; intro _) | (go_at_call 56; refine Rets.use (H3 _).out ?_; intro _))
  go_ret
  exact ⟨rfl, done⟩
set_option maxRecDepth 100000 in
set_option maxHeartbeats 4000000 in
theorem rule_w31 (nm l : ByteArray) (a b m k wd d t r s : Int) (A B S R : Bool) (w : World) (H1 : ∀ w, Rets Tryd.prog 105 #[.int .i64 a] w (.bool A)) (H2 : ∀ w, Rets Tryd.prog 105 #[.int .i64 b] w (.bool B)) (H3 : ∀ w, Rets Tryd.prog 56 #[spotA m k wd d t r] w (.bool S))
    (hA : A = true) (hB : B = true) (hS : S = false) (hR : R = false) : Rets Tryd.prog 98 #[.agg #[.string nm, .int .i64 a, .int .i64 b, .int .i64 m, .int .i64 k, .int .i64 wd, .int .i64 d, .int .i64 t, .int .i64 r, .int .i64 s, .string l]] w (.bool R) := by
  subst hA hB; subst hS hR
  have H1 := fun w => Lib.hid (H1 w)
  have H2 := fun w => Lib.hid (H2 w)
  have H3 := fun w => Lib.hid (H3 w)
  unfold Rets
  go_enter Tryd.func98, Tryd.ntmps98
  go_wp2_with (first | (go_at_call_of 105 (Value.int .i64 a); refine Rets.use (H1 _).out ?_; intro _) | (go_at_call 105; refine Rets.use (H2 _).out ?_; intro _) | (go_at_call 56; refine Rets.use (H3 _).out ?_; intro _))
  go_ret
  exact ⟨rfl, done⟩
set_option maxRecDepth 100000 in
set_option maxHeartbeats 4000000 in
theorem rule_w32 (nm l : ByteArray) (a b m k wd d t r s : Int) (A B S R : Bool) (w : World) (H1 : ∀ w, Rets Tryd.prog 105 #[.int .i64 a] w (.bool A)) (H2 : ∀ w, Rets Tryd.prog 105 #[.int .i64 b] w (.bool B)) (H3 : ∀ w, Rets Tryd.prog 56 #[spotA m k wd d t r] w (.bool S))
    (hA : A = true) (hB : B = true) (hS : S = true) (c1 : decide (-43200 ≤ s) = false) (hR : R = false) : Rets Tryd.prog 98 #[.agg #[.string nm, .int .i64 a, .int .i64 b, .int .i64 m, .int .i64 k, .int .i64 wd, .int .i64 d, .int .i64 t, .int .i64 r, .int .i64 s, .string l]] w (.bool R) := by
  subst hA hB; subst hS hR
  have H1 := fun w => Lib.hid (H1 w)
  have H2 := fun w => Lib.hid (H2 w)
  have H3 := fun w => Lib.hid (H3 w)
  unfold Rets
  go_enter Tryd.func98, Tryd.ntmps98
  go_wp2_with (first | (go_at_call_of 105 (Value.int .i64 a); refine Rets.use (H1 _).out ?_; intro _) | (go_at_call 105; refine Rets.use (H2 _).out ?_; intro _) | (go_at_call 56; refine Rets.use (H3 _).out ?_; intro _))
  go_ret
  exact ⟨rfl, done⟩
set_option maxRecDepth 100000 in
set_option maxHeartbeats 4000000 in
theorem rule_w33 (nm l : ByteArray) (a b m k wd d t r s : Int) (A B S R : Bool) (w : World) (H1 : ∀ w, Rets Tryd.prog 105 #[.int .i64 a] w (.bool A)) (H2 : ∀ w, Rets Tryd.prog 105 #[.int .i64 b] w (.bool B)) (H3 : ∀ w, Rets Tryd.prog 56 #[spotA m k wd d t r] w (.bool S))
    (hA : A = true) (hB : B = true) (hS : S = true) (c1 : -43200 ≤ s) (c2 : decide (s ≤ 43200) = false) (hR : R = false) : Rets Tryd.prog 98 #[.agg #[.string nm, .int .i64 a, .int .i64 b, .int .i64 m, .int .i64 k, .int .i64 wd, .int .i64 d, .int .i64 t, .int .i64 r, .int .i64 s, .string l]] w (.bool R) := by
  subst hA hB; subst hS hR
  have H1 := fun w => Lib.hid (H1 w)
  have H2 := fun w => Lib.hid (H2 w)
  have H3 := fun w => Lib.hid (H3 w)
  unfold Rets
  go_enter Tryd.func98, Tryd.ntmps98
  go_wp2_with (first | (go_at_call_of 105 (Value.int .i64 a); refine Rets.use (H1 _).out ?_; intro _) | (go_at_call 105; refine Rets.use (H2 _).out ?_; intro _) | (go_at_call 56; refine Rets.use (H3 _).out ?_; intro _))
  go_ret
  exact ⟨rfl, done⟩
set_option maxRecDepth 100000 in
set_option maxHeartbeats 4000000 in
theorem rule_w34 (nm l : ByteArray) (a b m k wd d t r s : Int) (A B S R : Bool) (w : World) (H1 : ∀ w, Rets Tryd.prog 105 #[.int .i64 a] w (.bool A)) (H2 : ∀ w, Rets Tryd.prog 105 #[.int .i64 b] w (.bool B)) (H3 : ∀ w, Rets Tryd.prog 56 #[spotA m k wd d t r] w (.bool S))
    (hA : A = true) (hB : B = true) (hS : S = true) (c1 : -43200 ≤ s) (c2 : s ≤ 43200) (hR : R = true) : Rets Tryd.prog 98 #[.agg #[.string nm, .int .i64 a, .int .i64 b, .int .i64 m, .int .i64 k, .int .i64 wd, .int .i64 d, .int .i64 t, .int .i64 r, .int .i64 s, .string l]] w (.bool R) := by
  subst hA hB; subst hS hR
  have H1 := fun w => Lib.hid (H1 w)
  have H2 := fun w => Lib.hid (H2 w)
  have H3 := fun w => Lib.hid (H3 w)
  unfold Rets
  go_enter Tryd.func98, Tryd.ntmps98
  go_wp2_with (first | (go_at_call_of 105 (Value.int .i64 a); refine Rets.use (H1 _).out ?_; intro _) | (go_at_call 105; refine Rets.use (H2 _).out ?_; intro _) | (go_at_call 56; refine Rets.use (H3 _).out ?_; intro _))
  go_ret
  exact ⟨rfl, done⟩
set_option maxRecDepth 100000 in
set_option maxHeartbeats 4000000 in
theorem rule_w41 (nm l : ByteArray) (a b m k wd d t r s : Int) (A B S R : Bool) (w : World) (H1 : ∀ w, Rets Tryd.prog 105 #[.int .i64 a] w (.bool A)) (H2 : ∀ w, Rets Tryd.prog 105 #[.int .i64 b] w (.bool B)) (H3 : ∀ w, Rets Tryd.prog 56 #[spotA m k wd d t r] w (.bool S))
    (hA : A = true) (hB : B = false) (hb : b = 1000000) (hS : S = false) (hR : R = false) : Rets Tryd.prog 98 #[.agg #[.string nm, .int .i64 a, .int .i64 b, .int .i64 m, .int .i64 k, .int .i64 wd, .int .i64 d, .int .i64 t, .int .i64 r, .int .i64 s, .string l]] w (.bool R) := by
  subst hA hB hb; subst hS hR
  have H1 := fun w => Lib.hid (H1 w)
  have H2 := fun w => Lib.hid (H2 w)
  have H3 := fun w => Lib.hid (H3 w)
  unfold Rets
  go_enter Tryd.func98, Tryd.ntmps98
  go_wp2_with (first | (go_at_call_of 105 (Value.int .i64 a); refine Rets.use (H1 _).out ?_; intro _) | (go_at_call 105; refine Rets.use (H2 _).out ?_; intro _) | (go_at_call 56; refine Rets.use (H3 _).out ?_; intro _))
  go_ret
  exact ⟨rfl, done⟩
set_option maxRecDepth 100000 in
set_option maxHeartbeats 4000000 in
theorem rule_w42 (nm l : ByteArray) (a b m k wd d t r s : Int) (A B S R : Bool) (w : World) (H1 : ∀ w, Rets Tryd.prog 105 #[.int .i64 a] w (.bool A)) (H2 : ∀ w, Rets Tryd.prog 105 #[.int .i64 b] w (.bool B)) (H3 : ∀ w, Rets Tryd.prog 56 #[spotA m k wd d t r] w (.bool S))
    (hA : A = true) (hB : B = false) (hb : b = 1000000) (hS : S = true) (c1 : decide (-43200 ≤ s) = false) (hR : R = false) : Rets Tryd.prog 98 #[.agg #[.string nm, .int .i64 a, .int .i64 b, .int .i64 m, .int .i64 k, .int .i64 wd, .int .i64 d, .int .i64 t, .int .i64 r, .int .i64 s, .string l]] w (.bool R) := by
  subst hA hB hb; subst hS hR
  have H1 := fun w => Lib.hid (H1 w)
  have H2 := fun w => Lib.hid (H2 w)
  have H3 := fun w => Lib.hid (H3 w)
  unfold Rets
  go_enter Tryd.func98, Tryd.ntmps98
  go_wp2_with (first | (go_at_call_of 105 (Value.int .i64 a); refine Rets.use (H1 _).out ?_; intro _) | (go_at_call 105; refine Rets.use (H2 _).out ?_; intro _) | (go_at_call 56; refine Rets.use (H3 _).out ?_; intro _))
  go_ret
  exact ⟨rfl, done⟩
set_option maxRecDepth 100000 in
set_option maxHeartbeats 4000000 in
theorem rule_w43 (nm l : ByteArray) (a b m k wd d t r s : Int) (A B S R : Bool) (w : World) (H1 : ∀ w, Rets Tryd.prog 105 #[.int .i64 a] w (.bool A)) (H2 : ∀ w, Rets Tryd.prog 105 #[.int .i64 b] w (.bool B)) (H3 : ∀ w, Rets Tryd.prog 56 #[spotA m k wd d t r] w (.bool S))
    (hA : A = true) (hB : B = false) (hb : b = 1000000) (hS : S = true) (c1 : -43200 ≤ s) (c2 : decide (s ≤ 43200) = false) (hR : R = false) : Rets Tryd.prog 98 #[.agg #[.string nm, .int .i64 a, .int .i64 b, .int .i64 m, .int .i64 k, .int .i64 wd, .int .i64 d, .int .i64 t, .int .i64 r, .int .i64 s, .string l]] w (.bool R) := by
  subst hA hB hb; subst hS hR
  have H1 := fun w => Lib.hid (H1 w)
  have H2 := fun w => Lib.hid (H2 w)
  have H3 := fun w => Lib.hid (H3 w)
  unfold Rets
  go_enter Tryd.func98, Tryd.ntmps98
  go_wp2_with (first | (go_at_call_of 105 (Value.int .i64 a); refine Rets.use (H1 _).out ?_; intro _) | (go_at_call 105; refine Rets.use (H2 _).out ?_; intro _) | (go_at_call 56; refine Rets.use (H3 _).out ?_; intro _))
  go_ret
  exact ⟨rfl, done⟩
set_option maxRecDepth 100000 in
set_option maxHeartbeats 4000000 in
theorem rule_w44 (nm l : ByteArray) (a b m k wd d t r s : Int) (A B S R : Bool) (w : World) (H1 : ∀ w, Rets Tryd.prog 105 #[.int .i64 a] w (.bool A)) (H2 : ∀ w, Rets Tryd.prog 105 #[.int .i64 b] w (.bool B)) (H3 : ∀ w, Rets Tryd.prog 56 #[spotA m k wd d t r] w (.bool S))
    (hA : A = true) (hB : B = false) (hb : b = 1000000) (hS : S = true) (c1 : -43200 ≤ s) (c2 : s ≤ 43200) (hR : R = true) : Rets Tryd.prog 98 #[.agg #[.string nm, .int .i64 a, .int .i64 b, .int .i64 m, .int .i64 k, .int .i64 wd, .int .i64 d, .int .i64 t, .int .i64 r, .int .i64 s, .string l]] w (.bool R) := by
  subst hA hB hb; subst hS hR
  have H1 := fun w => Lib.hid (H1 w)
  have H2 := fun w => Lib.hid (H2 w)
  have H3 := fun w => Lib.hid (H3 w)
  unfold Rets
  go_enter Tryd.func98, Tryd.ntmps98
  go_wp2_with (first | (go_at_call_of 105 (Value.int .i64 a); refine Rets.use (H1 _).out ?_; intro _) | (go_at_call 105; refine Rets.use (H2 _).out ?_; intro _) | (go_at_call 56; refine Rets.use (H3 _).out ?_; intro _))
  go_ret
  exact ⟨rfl, done⟩
theorem rule_any (x : Rule) (w : World) : Rets Tryd.prog 98 #[ruleV x] w (.bool (Rul.rightB x)) := by
  have hc := rule_cases x
  have H1 := fun w => yearfn_any x.a w
  have H2 := fun w => yearfn_any x.b w
  have H3 : ∀ w, Rets Tryd.prog 56 #[spotA x.m x.k x.wd x.d x.t x.r] w (.bool (Rul.spotB x)) := fun w => right_whole x.m x.k x.wd x.d x.t x.r w
  rcases hc with ⟨h1, h2⟩ | ⟨h1, h2, c1, h3⟩ | ⟨h1, hb | ⟨hb, hb2⟩, ⟨h2, h3⟩ | ⟨h2, c1, h3⟩ | ⟨h2, c1, c2, h3⟩ | ⟨h2, c1, c2, h3⟩⟩
  · exact rule_w1 _ _ _ _ _ _ _ _ _ _ _ _ _ _ _ w H1 H2 H3 h1 h2
  · exact rule_w2 _ _ _ _ _ _ _ _ _ _ _ _ _ _ _ w H1 H2 H3 h1 h2 c1 h3
  · exact rule_w31 _ _ _ _ _ _ _ _ _ _ _ _ _ _ _ w H1 H2 H3 h1 hb h2 h3
  · exact rule_w32 _ _ _ _ _ _ _ _ _ _ _ _ _ _ _ w H1 H2 H3 h1 hb h2 c1 h3
  · exact rule_w33 _ _ _ _ _ _ _ _ _ _ _ _ _ _ _ w H1 H2 H3 h1 hb h2 c1 c2 h3
  · exact rule_w34 _ _ _ _ _ _ _ _ _ _ _ _ _ _ _ w H1 H2 H3 h1 hb h2 c1 c2 h3
  · exact rule_w41 _ _ _ _ _ _ _ _ _ _ _ _ _ _ _ w H1 H2 H3 h1 hb hb2 h2 h3
  · exact rule_w42 _ _ _ _ _ _ _ _ _ _ _ _ _ _ _ w H1 H2 H3 h1 hb hb2 h2 c1 h3
  · exact rule_w43 _ _ _ _ _ _ _ _ _ _ _ _ _ _ _ w H1 H2 H3 h1 hb hb2 h2 c1 c2 h3
  · exact rule_w44 _ _ _ _ _ _ _ _ _ _ _ _ _ _ _ w H1 H2 H3 h1 hb hb2 h2 c1 c2 h3
end Go.Proofs.YtcjnficcggjeiaaDoor
