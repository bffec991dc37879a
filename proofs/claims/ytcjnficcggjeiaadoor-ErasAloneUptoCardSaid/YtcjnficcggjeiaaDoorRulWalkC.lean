/- Walks of rules: which may be. -/
import Derived.Test.YtcjnficcggjeiaaDoorMomWalkQ
import Derived.Test.YtcjnficcggjeiaaDoorMomWalkW
import Derived.Test.YtcjnficcggjeiaaDoorRulPlainB
import Derived.Test.YtcjnficcggjeiaaDoorOwns
import Derived.Deep.RegionWith
set_option linter.unusedVariables false
set_option linter.unusedSimpArgs false
namespace Go.Proofs.YtcjnficcggjeiaaDoor
open Go.RowKit

abbrev ruleCells (x : Rule) : List Value := [.string x.nm, .int .i64 x.a, .int .i64 x.b, .int .i64 x.m, .int .i64 x.k, .int .i64 x.wd, .int .i64 x.d, .int .i64 x.t, .int .i64 x.r, .int .i64 x.s, .string x.l]
abbrev ruleV (x : Rule) : Value := .agg (ruleCells x).toArray
abbrev turnCells (x : Turn) : List Value := [.int .i64 x.at', .int .i64 x.r, .int .i64 x.s, .string x.l]
abbrev turnV (x : Turn) : Value := .agg (turnCells x).toArray
set_option maxRecDepth 100000 in
set_option maxHeartbeats 2000000 in
theorem yearfn_any (n : Int) (w : World) : Rets Tryd.prog 105 #[.int .i64 n] w (.bool (Rul.yearB n)) := by
  by_cases h1 : 1 ≤ n
  · by_cases h2 : n ≤ 9999
    · have E : Hid (Rul.yearB n = true) := decide_eq_true ⟨h1, h2⟩
      unfold Rets
      go_enter Tryd.func105, Tryd.ntmps105
      go_wp2
      go_ret
      exact ⟨by rw [E.out]; first | done | rfl, done⟩
    · have E : Hid (Rul.yearB n = false) := decide_eq_false (by omega)
      have h3 : decide (n ≤ 9999) = false := decide_eq_false h2
      clear h2
      unfold Rets
      go_enter Tryd.func105, Tryd.ntmps105
      go_wp2
      go_ret
      exact ⟨by rw [E.out]; first | done | rfl, done⟩
  · have E : Hid (Rul.yearB n = false) := decide_eq_false (by omega)
    have h3 : decide (1 ≤ n) = false := decide_eq_false h1
    clear h1
    unfold Rets
    go_enter Tryd.func105, Tryd.ntmps105
    go_wp2
    go_ret
    exact ⟨by rw [E.out]; first | done | rfl, done⟩
theorem rule_cases (x : Rule) : (Rul.yearB x.a = false ∧ Rul.rightB x = false) ∨
    (Rul.yearB x.a = true ∧ Rul.yearB x.b = false ∧ (x.b == 1000000) = false ∧ Rul.rightB x = false) ∨
    (Rul.yearB x.a = true ∧ (Rul.yearB x.b = true ∨ (Rul.yearB x.b = false ∧ x.b = 1000000)) ∧
      ((Rul.spotB x = false ∧ Rul.rightB x = false) ∨ (Rul.spotB x = true ∧ decide (-43200 ≤ x.s) = false ∧ Rul.rightB x = false) ∨ (Rul.spotB x = true ∧ -43200 ≤ x.s ∧ decide (x.s ≤ 43200) = false ∧ Rul.rightB x = false) ∨ (Rul.spotB x = true ∧ -43200 ≤ x.s ∧ x.s ≤ 43200 ∧ Rul.rightB x = true))) := by
  unfold Rul.rightB
  cases h1 : Rul.yearB x.a
  · exact .inl ⟨rfl, rfl⟩
  · right
    have hb : (Rul.yearB x.b = false ∧ (x.b == 1000000) = false) ∨ (Rul.yearB x.b = true ∨ (Rul.yearB x.b = false ∧ x.b = 1000000)) := by
      cases h2 : Rul.yearB x.b
      · by_cases h3 : x.b = 1000000
        · exact .inr (.inr ⟨rfl, h3⟩)
        · exact .inl ⟨rfl, by simpa using h3⟩
      · exact .inr (.inl rfl)
    rcases hb with ⟨h2, h3⟩ | hb
    · exact .inl ⟨rfl, h2, h3, by rw [h2, h3]; rfl⟩
    · right
      have e : (Rul.yearB x.b || x.b == 1000000) = true := by
        rcases hb with h | ⟨h, h2⟩
        · rw [h]; rfl
        · rw [h2]; simp
      refine ⟨rfl, hb, ?_⟩
      rw [e]
      cases h4 : Rul.spotB x
      · exact .inl ⟨rfl, rfl⟩
      · right
        by_cases h5 : -43200 ≤ x.s
        · right
          by_cases h6 : x.s ≤ 43200
          · exact .inr ⟨rfl, h5, h6, by simp [h5, h6]⟩
          · exact .inl ⟨rfl, h5, decide_eq_false h6, by simp [h6]⟩
        · exact .inl ⟨rfl, decide_eq_false h5, by simp [h5]⟩
set_option maxRecDepth 100000 in
set_option maxHeartbeats 4000000 in
theorem rule_w1 (nm l : ByteArray) (a b m k wd d t r s : Int) (A B S R : Bool) (w : World) (H1 : ∀ w, Rets Tryd.prog 105 #[.int .i64 a] w (.bool A)) (H2 : ∀ w, Rets Tryd.prog 105 #[.int .i64 b] w (.bool B)) (H3 : ∀ w, Rets Tryd.prog 56 #[spotA m k wd d t r] w (.bool S))
    (hA : A = false) (hR : R = false) : Rets Tryd.prog 98 #[.agg #[.string nm, .int .i64 a, .int .i64 b, .int .i64 m, .int .i64 k, .int .i64 wd, .int .i64 d, .int .i64 t, .int .i64 r, .int .i64 s, .string l]] w (.bool R) := by
  subst hA hR
  have H1 := fun w => Lib.hid (H1 w)
  have H2 := fun w => Lib.hid (H2 w)
  have H3 := fun w => Lib.hid (H3 w)
  unfold Rets
  go_enter Tryd.func98, Tryd.ntmps98
  go_wp2_with (first | (go_at_call_of 105 (Value.int .i64 a); refine Rets.use (H1 _).out ?_; intro _) | (go_at_call 105; refine Rets.use (H2 _).out ?_; intro _) | (go_at_call 56; refine Rets.use (H3 _).out ?_; intro _))
  go_ret
  exact ⟨rfl, done⟩
set_option maxRecDepth 100000 in
set_option maxHeartbeats 4000000 in
theorem rule_w2 (nm l : ByteArray) (a b m k wd d t r s : Int) (A B S R : Bool) (w : World) (H1 : ∀ w, Rets Tryd.prog 105 #[.int .i64 a] w (.bool A)) (H2 : ∀ w, Rets Tryd.prog 105 #[.int .i64 b] w (.bool B)) (H3 : ∀ w, Rets Tryd.prog 56 #[spotA m k wd d t r] w (.bool S))
    (hA : A = true) (hB : B = false) (c1 : (b == 1000000) = false) (hR : R = false) : Rets Tryd.prog 98 #[.agg #[.string nm, .int .i64 a, .int .i64 b, .int .i64 m, .int .i64 k, .int .i64 wd, .int .i64 d, .int .i64 t, .int .i64 r, .int .i64 s, .string l]] w (.bool R) := by
  subst hA hB hR
  have H1 := fun w => Lib.hid (H1 w)
  have H2 := fun w => Lib.hid (H2 w)
  have H3 := fun w => Lib.hid (H3 w)
  unfold Rets
  go_enter Tryd.func98, Tryd.ntmps98
  go_wp2_with (first | (go_at_call_of 105 (Value.int .i64 a); refine Rets.use (H1 _).out ?_; intro _) | (go_at_call 105; refine Rets.use (H2 _).out ?_; intro _) | (go_at_call 56; refine Rets.use (H3 _).out ?_; intro _))
  go_ret
  exact ⟨rfl, done⟩
set_option maxRecDepth 100000 in
set_option maxHeartbeats 4000000 in
theorem rule_w31 (nm l : ByteArray) (a b m k wd d t r s : Int) (A B S R : Bool) (w : World) (H1 : ∀ w, Rets Tryd.prog 105 #[.int .i64 a] w (.bool A)) (H2 : ∀ w, Rets Tryd.prog 105 #[.int .i64 b] w (.bool B)) (H3 : ∀ w, Rets Tryd.prog 56 #[spotA m k wd d t r] w (.bool S))
    (hA : A = true) (hB : B = true) (hS : S = false) (hR : R = false) : Rets Tryd.prog 98 #[.agg #[.string nm, .int .i64 a, .int .i64 b, .int .i64 m, .int .i64 k, .int .i64 wd, .int .i64 d, .int .i64 t, .int .i64 r, .int .i64 s, .string l]] w (.bool R) := by
  subst hA hB; subst hS hR
  have H1 := fun w => Lib.hid (H1 w)
  have H2 := fun w => Lib.hid (H2 w)
  have H3 := fun w => Lib.hid (H3 w)
  unfold Rets
  go_enter Tryd.func98, Tryd.ntmps98
  go_wp2_with (first | (go_at_call_of 105 (Value.int .i64 a); refine Rets.use (H1 _).out ?_; intro _) | (go_at_call 105; refine Rets.use (H2 _).out ?_; intro _) | (go_at_call 56; refine Rets.use (H3 _).out ?_; intro _))
  go_ret
  exact ⟨rfl, done⟩
set_option maxRecDepth 100000 in
set_option maxHeartbeats 4000000 in
theorem rule_w32 (nm l : ByteArray) (a b m k wd d t r s : Int) (A B S R : Bool) (w : World) (H1 : ∀ w, Rets Tryd.prog 105 #[.int .i64 a] w (.bool A)) (H2 : ∀ w, Rets Tryd.prog 105 #[.int .i64 b] w (.bool B)) (H3 : ∀ w, Rets Tryd.prog 56 #[spotA m k wd d t r] w (.bool S))
    (hA : A = true) (hB : B = true) (hS : S = true) (c1 : decide (-43200 ≤ s) = false) (hR : R = false) : Rets Tryd.prog 98 #[.agg #[.string nm, .int .i64 a, .int .i64 b, .int .i64 m, .int .i64 k, .int .i64 wd, .int .i64 d, .int .i64 t, .int .i64 r, .int .i64 s, .string l]] w (.bool R) := by
  subst hA hB; subst hS hR
  have H1 := fun w => Lib.hid (H1 w)
  have H2 := fun w => Lib.hid (H2 w)
  have H3 := fun w => Lib.hid (H3 w)
  unfold Rets
  go_enter Tryd.func98, Tryd.ntmps98
  go_wp2_with (first | (go_at_call_of 105 (Value.int .i64 a); refine Rets.use (H1 _).out ?_; intro _) | (go_at_call 105; refine Rets.use (H2 _).out ?_; intro _) | (go_at_call 56; refine Rets.use (H3 _).out ?_; intro _))
  go_ret
  exact ⟨rfl, done⟩
set_option maxRecDepth 100000 in
set_option maxHeartbeats 4000000 in
theorem rule_w33 (nm l : ByteArray) (a b m k wd d t r s : Int) (A B S R : Bool) (w : World) (H1 : ∀ w, Rets Tryd.prog 105 #[.int .i64 a] w (.bool A)) (H2 : ∀ w, Rets Tryd.prog 105 #[.int .i64 b] w (.bool B)) (H3 : ∀ w, Rets Tryd.prog 56 #[spotA m k wd d t r] w (.bool S))
    (hA : A = true) (hB : B = true) (hS : S = true) (c1 : -43200 ≤ s) (c2 : decide (s ≤ 43200) = false) (hR : R = false) : Rets Tryd.prog 98 #[.agg #[.string nm, .int .i64 a, .int .i64 b, .int .i64 m, .int .i64 k, .int .i64 wd, .int .i64 d, .int .i64 t, .int .i64 r, .int .i64 s, .string l]] w (.bool R) := by
  subst hA hB; subst hS hR
  have H1 := fun w => Lib.hid (H1 w)
  have H2 := fun w => Lib.hid (H2 w)
  have H3 := fun w => Lib.hid (H3 w)
  unfold Rets
  go_enter Tryd.func98, Tryd.ntmps98
  go_wp2_with (first | (go_at_call_of 105 (Value.int .i64 a); refine Rets.use (H1 _).out ?_; intro _) | (go_at_call 105; refine Rets.use (H2 _).out ?_; intro _) | (go_at_call 56; refine Rets.use (H3 _).out ?_; intro _))
  go_ret
  exact ⟨rfl, done⟩
set_option maxRecDepth 100000 in
set_option maxHeartbeats 4000000 in
theorem rule_w34 (nm l : ByteArray) (a b m k wd d t r s : Int) (A B S R : Bool) (w : World) (H1 : ∀ w, Rets Tryd.prog 105 #[.int .i64 a] w (.bool A)) (H2 : ∀ w, Rets Tryd.prog 105 #[.int .i64 b] w (.bool B)) (H3 : ∀ w, Rets Tryd.prog 56 #[spotA m k wd d t r] w (.bool S))
    (hA : A = true) (hB : B = true) (hS : S = true) (c1 : -43200 ≤ s) (c2 : s ≤ 43200) (hR : R = true) : Rets Tryd.prog 98 #[.agg #[.string nm, .int .i64 a, .int .i64 b, .int .i64 m, .int .i64 k, .int .i64 wd, .int .i64 d, .int .i64 t, .int .i64 r, .int .i64 s, .string l]] w (.bool R) := by
  subst hA hB; subst hS hR
  have H1 := fun w => Lib.hid (H1 w)
  have H2 := fun w => Lib.hid (H2 w)
  have H3 := fun w => Lib.hid (H3 w)
  unfold Rets
  go_enter Tryd.func98, Tryd.ntmps98
  go_wp2_with (first | (go_at_call_of 105 (Value.int .i64 a); refine Rets.use (H1 _).out ?_; intro _) | (go_at_call 105; refine Rets.use (H2 _).out ?_; intro _) | (go_at_call 56; refine Rets.use (H3 _).out ?_; intro _))
  go_ret
  exact ⟨rfl, done⟩
set_option maxRecDepth 100000 in
set_option maxHeartbeats 4000000 in
theorem rule_w41 (nm l : ByteArray) (a b m k wd d t r s : Int) (A B S R : Bool) (w : World) (H1 : ∀ w, Rets Tryd.prog 105 #[.int .i64 a] w (.bool A)) (H2 : ∀ w, Rets Tryd.prog 105 #[.int .i64 b] w (.bool B)) (H3 : ∀ w, Rets Tryd.prog 56 #[spotA m k wd d t r] w (.bool S))
    (hA : A = true) (hB : B = false) (hb : b = 1000000) (hS : S = false) (hR : R = false) : Rets Tryd.prog 98 #[.agg #[.string nm, .int .i64 a, .int .i64 b, .int .i64 m, .int .i64 k, .int .i64 wd, .int .i64 d, .int .i64 t, .int .i64 r, .int .i64 s, .string l]] w (.bool R) := by
  subst hA hB hb; subst hS hR
  have H1 := fun w => Lib.hid (H1 w)
  have H2 := fun w => Lib.hid (H2 w)
  have H3 := fun w => Lib.hid (H3 w)
  unfold Rets
  go_enter Tryd.func98, Tryd.ntmps98
  go_wp2_with (first | (go_at_call_of 105 (Value.int .i64 a); refine Rets.use (H1 _).out ?_; intro _) | (go_at_call 105; refine Rets.use (H2 _).out ?_; intro _) | (go_at_call 56; refine Rets.use (H3 _).out ?_; intro _))
  go_ret
  exact ⟨rfl, done⟩
set_option maxRecDepth 100000 in
set_option maxHeartbeats 4000000 in
theorem rule_w42 (nm l : ByteArray) (a b m k wd d t r s : Int) (A B S R : Bool) (w : World) (H1 : ∀ w, Rets Tryd.prog 105 #[.int .i64 a] w (.bool A)) (H2 : ∀ w, Rets Tryd.prog 105 #[.int .i64 b] w (.bool B)) (H3 : ∀ w, Rets Tryd.prog 56 #[spotA m k wd d t r] w (.bool S))
    (hA : A = true) (hB : B = false) (hb : b = 1000000) (hS : S = true) (c1 : decide (-43200 ≤ s) = false) (hR : R = false) : Rets Tryd.prog 98 #[.agg #[.string nm, .int .i64 a, .int .i64 b, .int .i64 m, .int .i64 k, .int .i64 wd, .int .i64 d, .int .i64 t, .int .i64 r, .int .i64 s, .string l]] w (.bool R) := by
  subst hA hB hb; subst hS hR
  have H1 := fun w => Lib.hid (H1 w)
  have H2 := fun w => Lib.hid (H2 w)
  have H3 := fun w => Lib.hid (H3 w)
  unfold Rets
  go_enter Tryd.func98, Tryd.ntmps98
  go_wp2_with (first | (go_at_call_of 105 (Value.int .i64 a); refine Rets.use (H1 _).out ?_; intro _) | (go_at_call 105; refine Rets.use (H2 _).out ?_; intro _) | (go_at_call 56; refine Rets.use (H3 _).out ?_; intro _))
  go_ret
  exact ⟨rfl, done⟩
set_option maxRecDepth 100000 in
set_option maxHeartbeats 4000000 in
theorem rule_w43 (nm l : ByteArray) (a b m k wd d t r s : Int) (A B S R : Bool) (w : World) (H1 : ∀ w, Rets Tryd.prog 105 #[.int .i64 a] w (.bool A)) (H2 : ∀ w, Rets Tryd.prog 105 #[.int .i64 b] w (.bool B)) (H3 : ∀ w, Rets Tryd.prog 56 #[spotA m k wd d t r] w (.bool S))
    (hA : A = true) (hB : B = false) (hb : b = 1000000) (hS : S = true) (c1 : -43200 ≤ s) (c2 : decide (s ≤ 43200) = false) (hR : R = false) : Rets Tryd.prog 98 #[.agg #[.string nm, .int .i64 a, .int .i64 b, .int .i64 m, .int .i64 k, .int .i64 wd, .int .i64 d, .int .i64 t, .int .i64 r, .int .i64 s, .string l]] w (.bool R) := by
  subst hA hB hb; subst hS hR
  have H1 := fun w => Lib.hid (H1 w)
  have H2 := fun w => Lib.hid (H2 w)
  have H3 := fun w => Lib.hid (H3 w)
  unfold Rets
  go_enter Tryd.func98, Tryd.ntmps98
  go_wp2_with (first | (go_at_call_of 105 (Value.int .i64 a); refine Rets.use (H1 _).out ?_; intro _) | (go_at_call 105; refine Rets.use (H2 _).out ?_; intro _) | (go_at_call 56; refine Rets.use (H3 _).out ?_; intro _))
  go_ret
  exact ⟨rfl, done⟩
set_option maxRecDepth 100000 in
set_option maxHeartbeats 4000000 in
theorem rule_w44 (nm l : ByteArray) (a b m k wd d t r s : Int) (A B S R : Bool) (w : World) (H1 : ∀ w, Rets Tryd.prog 105 #[.int .i64 a] w (.bool A)) (H2 : ∀ w, Rets Tryd.prog 105 #[.int .i64 b] w (.bool B)) (H3 : ∀ w, Rets Tryd.prog 56 #[spotA m k wd d t r] w (.bool S))
    (hA : A = true) (hB : B = false) (hb : b = 1000000) (hS : S = true) (c1 : -43200 ≤ s) (c2 : s ≤ 43200) (hR : R = true) : Rets Tryd.prog 98 #[.agg #[.string nm, .int .i64 a, .int .i64 b, .int .i64 m, .int .i64 k, .int .i64 wd, .int .i64 d, .int .i64 t, .int .i64 r, .int .i64 s, .string l]] w (.bool R) := by
  subst hA hB hb; subst hS hR
  have H1 := fun w => Lib.hid (H1 w)
  have H2 := fun w => Lib.hid (H2 w)
  have H3 := fun w => Lib.hid (H3 w)
  unfold Rets
  go_enter Tryd.func98, Tryd.ntmps98
  go_wp2_with (first | (go_at_call_of 105 (Value.int .i64 a); refine Rets.use (H1 _).out ?_; intro _) | (go_at_call 105; refine Rets.use (H2 _).out ?_; intro _) | (go_at_call 56; refine Rets.use (H3 _).out ?_; intro _))
  go_ret
  exact ⟨rfl, done⟩
theorem rule_any (x : Rule) (w : World) : Rets Tryd.prog 98 #[ruleV x] w (.bool (Rul.rightB x)) := by
  have hc := rule_cases x
  have H1 := fun w => yearfn_any x.a w
  have H2 := fun w => yearfn_any x.b w
  have H3 : ∀ w, Rets Tryd.prog 56 #[spotA x.m x.k x.wd x.d x.t x.r] w (.bool (Rul.spotB x)) := fun w => right_whole x.m x.k x.wd x.d x.t x.r w
  rcases hc with ⟨h1, h2⟩ | ⟨h1, h2, c1, h3⟩ | ⟨h1, hb | ⟨hb, hb2⟩, ⟨h2, h3⟩ | ⟨h2, c1, h3⟩ | ⟨h2, c1, c2, h3⟩ | ⟨h2, c1, c2, h3⟩⟩
  · exact rule_w1 _ _ _ _ _ _ _ _ _ _ _ _ _ _ _ w H1 H2 H3 h1 h2
  · exact rule_w2 _ _ _ _ _ _ _ _ _ _ _ _ _ _ _ w H1 H2 H3 h1 h2 c1 h3
  · exact rule_w31 _ _ _ _ _ _ _ _ _ _ _ _ _ _ _ w H1 H2 H3 h1 hb h2 h3
  · exact rule_w32 _ _ _ _ _ _ _ _ _ _ _ _ _ _ _ w H1 H2 H3 h1 hb h2 c1 h3
  · exact rule_w33 _ _ _ _ _ _ _ _ _ _ _ _ _ _ _ w H1 H2 H3 h1 hb h2 c1 c2 h3
  · exact rule_w34 _ _ _ _ _ _ _ _ _ _ _ _ _ _ _ w H1 H2 H3 h1 hb h2 c1 c2 h3
  · exact rule_w41 _ _ _ _ _ _ _ _ _ _ _ _ _ _ _ w H1 H2 H3 h1 hb hb2 h2 h3
  · exact rule_w42 _ _ _ _ _ _ _ _ _ _ _ _ _ _ _ w H1 H2 H3 h1 hb hb2 h2 c1 h3
  · exact rule_w43 _ _ _ _ _ _ _ _ _ _ _ _ _ _ _ w H1 H2 H3 h1 hb hb2 h2 c1 c2 h3
  · exact rule_w44 _ _ _ _ _ _ _ _ _ _ _ _ _ _ _ w H1 H2 H3 h1 hb hb2 h2 c1 c2 h3
end Go.Proofs.YtcjnficcggjeiaaDoor
set_option linter.unusedVariables false
set_option linter.unusedSimpArgs false
namespace Go.Proofs.YtcjnficcggjeiaaDoor
open Go.RowKit

/-- The cells of some rules. -/
def ruleRow : List Rule → List Value
  | [] => []
  | x :: l => ruleCells x ++ ruleRow l
theorem ruleRow_at (l : List Rule) : ∀ (i : Nat) (h : i < l.length) (c : Nat) (u : Value), (ruleCells l[i])[c]? = some u → (ruleRow l)[i * 11 + c]? = some u := by
  induction l with
  | nil => intro i h; simp at h
  | cons x l ih =>
    intro i h c u hu
    cases i with
    | zero =>
      have hc : c < (ruleCells x).length := (List.getElem?_eq_some_iff.1 hu).1
      simp only [Nat.zero_mul, Nat.zero_add, ruleRow]
      rw [List.getElem?_append_left hc]; exact hu
    | succ i =>
      have := ih i (by simpa using h) c u hu
      simp only [ruleRow]
      rw [List.getElem?_append_right (by simp; omega)]
      rw [show (i + 1) * 11 + c - (ruleCells x).length = i * 11 + c by simp; omega]
      exact this
/-- What a slice of rules holds at a place. -/
theorem rule_at {w : World} {b o : Nat} {l : List Rule} (hc : ∀ i u, (ruleRow l)[i]? = some u → w.cell? ⟨b, o + i, none⟩ = some u) (j : Nat) (h : j < l.length) :
    w.cell? ⟨b, o + j * 11, none⟩ = some (.string l[j].nm) ∧ w.cell? ⟨b, o + j * 11 + 1, none⟩ = some (.int .i64 l[j].a) ∧ w.cell? ⟨b, o + j * 11 + 2, none⟩ = some (.int .i64 l[j].b) ∧ w.cell? ⟨b, o + j * 11 + 3, none⟩ = some (.int .i64 l[j].m) ∧ w.cell? ⟨b, o + j * 11 + 4, none⟩ = some (.int .i64 l[j].k) ∧
    w.cell? ⟨b, o + j * 11 + 5, none⟩ = some (.int .i64 l[j].wd) ∧ w.cell? ⟨b, o + j * 11 + 6, none⟩ = some (.int .i64 l[j].d) ∧ w.cell? ⟨b, o + j * 11 + 7, none⟩ = some (.int .i64 l[j].t) ∧ w.cell? ⟨b, o + j * 11 + 8, none⟩ = some (.int .i64 l[j].r) ∧ w.cell? ⟨b, o + j * 11 + 9, none⟩ = some (.int .i64 l[j].s) ∧ w.cell? ⟨b, o + j * 11 + 10, none⟩ = some (.string l[j].l) := by
  have k := fun c u hu => hc _ _ (ruleRow_at l j h c u hu)
  simp only [← Nat.add_assoc] at k
  exact ⟨k 0 _ rfl, k 1 _ rfl, k 2 _ rfl, k 3 _ rfl, k 4 _ rfl, k 5 _ rfl, k 6 _ rfl, k 7 _ rfl, k 8 _ rfl, k 9 _ rfl, k 10 _ rfl⟩
set_option maxRecDepth 100000 in
set_option maxHeartbeats 2000000 in
theorem notright_any (x : Rule) (w : World) : Rets Tryd.prog 97 #[ruleV x] w (.bool (!Rul.rightB x)) := by
  have H := fun w => Lib.hid (rule_any x w)
  generalize Rul.rightB x = R at *
  obtain ⟨nm, a, b, m, k, wd, d, t, r, s, l⟩ := x
  unfold Rets
  go_enter Tryd.func97, Tryd.ntmps97
  go_wp2_with (go_at_call 98; refine Rets.use (H _).out ?_; intro _)
  go_ret
  exact ⟨rfl, done⟩
/-- Which one may not be: the first's place; -1: all may. -/
def badI : List Rule → Nat → Int
  | [], _ => -1
  | x :: l, k => if Rul.rightB x = true then badI l (k + 1) else k
theorem badI_all (l : List Rule) : ∀ k, decide (0 ≤ badI l k) = !Rul.allB l := by
  induction l with
  | nil => intro k; rfl
  | cons x l ih =>
    intro k
    unfold badI Rul.allB
    cases h : Rul.rightB x
    · simp [h]
    · simp only [if_true, List.all_cons, h, Bool.true_and]; exact ih (k + 1)
theorem badI_yes {x : Rule} {l : List Rule} {k : Nat} (h : Rul.rightB x = true) : badI (x :: l) k = badI l (k + 1) := if_pos h
theorem badI_no {x : Rule} {l : List Rule} {k : Nat} (h : Rul.rightB x = false) : badI (x :: l) k = k := if_neg (by rw [h]; simp)
theorem badI_bd (l : List Rule) : ∀ k : Nat, -1 ≤ badI l k ∧ badI l k < k + l.length + 1 := by
  induction l with
  | nil => intro k; simp [badI]; omega
  | cons x l ih =>
    intro k
    have := ih (k + 1)
    unfold badI
    split
    · simp; omega
    · simp; omega
set_option maxRecDepth 100000 in
set_option maxHeartbeats 4000000 in
theorem index_any (l : List Rule) (n : Nat) (hn : l.length = n) (v : Value) (w : World) (hr : Reads w v n (ruleRow l)) :
    Rets Tryd.prog 104 #[v, .func (.func 97) #[] #[]] w (.int .i64 (badI l 0)) := by
  by_cases h0 : n = 0
  · subst h0
    obtain rfl := List.eq_nil_of_length_eq_zero hn
    obtain ⟨a9, c9, rfl⟩ : ∃ a c, v = .slice a 0 c := by rcases hr with ⟨a, c, rfl, _⟩ | ⟨b, o, c, rfl, _⟩ <;> exact ⟨_, _, rfl⟩
    clear hr hn
    unfold Rets
    go_enter Tryd.func104, Tryd.ntmps104
    go_wp2
    refine wp_loop_rounds 1 ?_
    simp only [rounds_succ]
    go_wp2
    go_ret
    exact ⟨rfl, done⟩
  · rcases hr with ⟨_, _, rfl, h1, _⟩ | ⟨b, o, c, rfl, k1, k2, m1, hc⟩
    · exact absurd h1 h0
    haveI : InW b w := ⟨m1⟩
    have hl : n ≤ 9223372036854775807 := by unfold maxLen at k2; omega
    have HC := Lib.hid hc
    have Hn := Lib.hid hn
    clear hc hn
    unfold Rets
    go_enter Tryd.func104, Tryd.ntmps104
    go_wp2
    go_loopw [8] (fun i wr => ∃ j : Nat, j ≤ n ∧ i = .int .i64 j ∧ Hid (badI l 0 = badI (l.drop j) j) ∧ Ext w wr) (fun i _ => n - (intOf i).toNat)
    case atStart => exact ⟨0, by omega, rfl, rfl, isext⟩
    case round =>
      obtain ⟨j, j2, rfl, he, hx⟩ := hrel
      obtain ⟨yr, rfl⟩ := fin hx
      clear hx
      by_cases hlt : j < n
      · have hj : j < l.length := by rw [Hn.out]; exact hlt
        obtain ⟨c0, c1, c2, c3, c4, c5, c6, c7, c8, c9, c10⟩ := rule_at HC.out j hj
        have hd := Lib.hid (List.drop_eq_getElem_cons hj)
        have HR := fun w => Lib.hid (notright_any l[j] w)
        generalize l[j] = x at *
        obtain ⟨nm, a, b', m, k, wd, d, t, r, s, lt⟩ := x
        simp only at c0 c1 c2 c3 c4 c5 c6 c7 c8 c9 c10
        cases hb : Rul.rightB ⟨nm, a, b', m, k, wd, d, t, r, s, lt⟩
        · have E : Hid (badI l 0 = j) := he.out.trans (by rw [hd.out]; exact badI_no hb)
          rw [hb] at HR
          clear hb
          go_wp2_with (go_at_call 97; refine Rets.use (HR _).out ?_; intro _)
          go_ret
          exact ⟨by rw [E.out]; first | done | rfl, done⟩
        · have E : Hid (badI l 0 = badI (l.drop (j + 1)) (j + 1)) := he.out.trans (by rw [hd.out]; exact badI_yes hb)
          rw [hb] at HR
          clear hb
          go_wp2_with (go_at_call 97; refine Rets.use (HR _).out ?_; intro _)
          go_roundw
          case rel => exact ⟨j + 1, by omega, by go_num, E, isext⟩
          case measure => simp [intOf]; omega
      · have E : Hid (badI l 0 = -1) := he.out.trans (by rw [List.drop_eq_nil_of_le (by rw [Hn.out]; omega)]; rfl)
        go_wp2
        go_ret
        exact ⟨by rw [E.out]; first | done | rfl, done⟩
set_option maxRecDepth 100000 in
set_option maxHeartbeats 2000000 in
theorem sets_any (l : List Rule) (n : Nat) (hn : l.length = n) (v : Value) (w : World) (hr : Reads w v n (ruleRow l)) : Rets Tryd.prog 85 #[v] w (.bool (Rul.allB l)) := by
  have H : ∀ w, Reads w v n (ruleRow l) → Hid (Rets Tryd.prog 96 #[v, .func (.func 97) #[] #[]] w (.bool (!Rul.allB l))) := by
    intro w hr
    have HI := fun w hr => Lib.hid (index_any l n hn v w hr)
    have E := Lib.hid (badI_all l 0)
    generalize badI l 0 = I at *
    show Rets _ _ _ _ _
    unfold Rets
    go_enter Tryd.func96, Tryd.ntmps96
    go_wp2_with (go_at_call 104; refine Rets.use (HI _ (hr.ext isext)).out ?_; intro _)
    go_ret
    exact ⟨by rw [← E.out]; first | done | rfl, done⟩
  generalize Rul.allB l = A at *
  unfold Rets
  go_enter Tryd.func85, Tryd.ntmps85
  go_wp2_with (go_at_call 96; refine Rets.use (H _ (hr.ext isext)).out ?_; intro _)
  go_ret
  exact ⟨by simp, done⟩
end Go.Proofs.YtcjnficcggjeiaaDoor
set_option linter.unusedVariables false
set_option linter.unusedSimpArgs false
namespace Go.Proofs.YtcjnficcggjeiaaDoor
open Go.RowKit

theorem rrule_cases (x : Rule) : (Rul.rightB x = false ∧ (x.a < 1 ∨ (decide (x.a < 1) = false ∧ 9999 < x.a) ∨ (decide (x.a < 1) = false ∧ decide (9999 < x.a) = false ∧ x.b < 1) ∨
      (decide (x.a < 1) = false ∧ decide (9999 < x.a) = false ∧ decide (x.b < 1) = false ∧ 9999 < x.b ∧ (x.b != 1000000) = true))) ∨
    (decide (x.a < 1) = false ∧ decide (9999 < x.a) = false ∧ ((decide (x.b < 1) = false ∧ decide (9999 < x.b) = false) ∨ x.b = 1000000) ∧
      ((Rul.spotB x = false ∧ Rul.rightB x = false) ∨ (Rul.spotB x = true ∧ 43200 < x.s ∧ Rul.rightB x = false) ∨ (Rul.spotB x = true ∧ decide (43200 < x.s) = false ∧ x.s < -43200 ∧ Rul.rightB x = false) ∨
        (Rul.spotB x = true ∧ decide (43200 < x.s) = false ∧ decide (x.s < -43200) = false ∧ Rul.rightB x = true))) := by
  unfold Rul.rightB Rul.yearB
  by_cases h1 : x.a < 1
  · exact .inl ⟨by simp; omega, .inl h1⟩
  by_cases h2 : 9999 < x.a
  · exact .inl ⟨by simp; omega, .inr (.inl ⟨decide_eq_false h1, h2⟩)⟩
  by_cases h3 : x.b < 1
  · exact .inl ⟨by simp; omega, .inr (.inr (.inl ⟨decide_eq_false h1, decide_eq_false h2, h3⟩))⟩
  by_cases h4 : 9999 < x.b ∧ x.b ≠ 1000000
  · exact .inl ⟨by simp; omega, .inr (.inr (.inr ⟨decide_eq_false h1, decide_eq_false h2, decide_eq_false h3, h4.1, by simpa using h4.2⟩))⟩
  right
  refine ⟨decide_eq_false h1, decide_eq_false h2, ?_, ?_⟩
  · by_cases h5 : x.b = 1000000
    · exact .inr h5
    · exact .inl ⟨decide_eq_false h3, decide_eq_false (by omega)⟩
  · have e : (decide (1 ≤ x.a ∧ x.a ≤ 9999) && (decide (1 ≤ x.b ∧ x.b ≤ 9999) || x.b == 1000000)) = true := by simp; omega
    rw [e]
    cases h6 : Rul.spotB x
    · exact .inl ⟨rfl, rfl⟩
    · right
      by_cases h7 : 43200 < x.s
      · exact .inl ⟨rfl, h7, by simp; omega⟩
      · right
        by_cases h8 : x.s < -43200
        · exact .inl ⟨rfl, decide_eq_false h7, h8, by simp; omega⟩
        · exact .inr ⟨rfl, decide_eq_false h7, decide_eq_false h8, by simp; omega⟩
theorem allB_split (l : List Rule) (j : Nat) (h : j < l.length) (hp : Rul.allB (l.take j) = true) : (Rul.rightB l[j] = false → Rul.allB l = false) ∧ (Rul.rightB l[j] = true → Rul.allB (l.take (j + 1)) = true) := by
  unfold Rul.allB at *
  constructor
  · intro hb
    rw [Bool.eq_false_iff]; intro ha
    have := List.all_eq_true.1 ha _ (List.getElem_mem h)
    rw [hb] at this; cases this
  · intro hb
    rw [List.take_succ_eq_append_getElem h, List.all_append, hp]; simp [hb]
end Go.Proofs.YtcjnficcggjeiaaDoor
