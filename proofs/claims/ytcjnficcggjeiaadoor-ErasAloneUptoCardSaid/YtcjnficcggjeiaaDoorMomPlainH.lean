/- Plain laws of moments: clocks' times as texts. -/
set_option linter.unusedVariables false
set_option linter.unusedSimpArgs false
namespace Go.Proofs.YtcjnficcggjeiaaDoor
namespace Mom
def isD (c : UInt8) : Bool := decide (48 ≤ (c.toNat : Int) ∧ (c.toNat : Int) ≤ 57)
/-- How many digits stand ahead, so many at most. -/
def nD : Nat → List UInt8 → Nat
  | 0, _ => 0
  | _ + 1, [] => 0
  | k + 1, c :: l => if isD c = true then nD k l + 1 else 0
def stepD (n : Nat) (c : UInt8) : Nat := n * 10 + (c.toNat - 48)
def numOf (l : List UInt8) : Nat := l.foldl stepD 0
theorem nD_le : ∀ (m : Nat) (l : List UInt8), nD m l ≤ m ∧ nD m l ≤ l.length
  | 0, l => by simp [nD]
  | m + 1, [] => by simp [nD]
  | m + 1, c :: l => by
    have := nD_le m l
    unfold nD; split <;> simp <;> omega
theorem nD_at : ∀ (m : Nat) (l : List UInt8) (k : Nat) (h : k < l.length), k ≤ nD m l → k < m → (isD l[k] = true → k + 1 ≤ nD m l) ∧ (isD l[k] = false → nD m l = k)
  | 0, l, k, h, _, hm => by omega
  | m + 1, [], k, h, _, _ => by simp at h
  | m + 1, c :: l, 0, h, _, _ => by
    cases hc : isD c <;> simp [nD, hc]
  | m + 1, c :: l, k + 1, h, hk, hm => by
    cases hc : isD c
    · simp [nD, hc] at hk
    · simp only [nD, hc, if_true] at hk ⊢
      have := nD_at m l k (by simpa using h) (by omega) (by omega)
      simp only [List.getElem_cons_succ]
      constructor
      · intro hd; have := this.1 hd; omega
      · intro hd; have := this.2 hd; omega
theorem nD_all : ∀ (m : Nat) (l : List UInt8), ∀ c ∈ l.take (nD m l), isD c = true
  | 0, l => by simp [nD]
  | m + 1, [] => by simp [nD]
  | m + 1, c :: l => by
    cases hc : isD c
    · simp [nD, hc]
    · simp only [nD, hc, if_true, List.take_succ_cons, List.mem_cons]
      rintro x (rfl | hx)
      · exact hc
      · exact nD_all m l x hx
theorem nD_full : ∀ (m : Nat) (a r : List UInt8), (∀ c ∈ a, isD c = true) → a.length ≤ m → (∀ c r', r = c :: r' → isD c = false) → nD m (a ++ r) = a.length
  | m, [], r, _, _, hr => by
    cases m with
    | zero => rfl
    | succ m =>
      cases r with
      | nil => rfl
      | cons c r => simp [nD, hr c r rfl]
  | 0, c :: a, r, _, h, _ => by simp at h
  | m + 1, c :: a, r, ha, h, hr => by
    have := nD_full m a r (fun x hx => ha x (by simp [hx])) (by simpa using h) hr
    simp [nD, ha c (by simp), this]
theorem nD_app : ∀ (m : Nat) (a r : List UInt8), (∀ c r', r = c :: r' → isD c = false) → nD m (a ++ r) = nD m a
  | 0, a, r, _ => rfl
  | m + 1, [], r, hr => by
    cases r with
    | nil => rfl
    | cons c r => simp [nD, hr c r rfl]
  | m + 1, c :: a, r, hr => by simp [nD, nD_app m a r hr]
theorem numOf_snoc (l : List UInt8) (c : UInt8) : numOf (l ++ [c]) = numOf l * 10 + (c.toNat - 48) := by simp [numOf, stepD]
theorem numOf_bd : ∀ (l : List UInt8) (n : Nat), (∀ c ∈ l, isD c = true) → l.foldl stepD n + 1 ≤ (n + 1) * 10 ^ l.length
  | [], n, _ => by simp
  | c :: l, n, h => by
    have hc : c.toNat - 48 ≤ 9 := by have := h c (by simp); simp [isD] at this; omega
    have := numOf_bd l (stepD n c) (fun x hx => h x (by simp [hx]))
    simp only [List.foldl_cons, List.length_cons]
    refine Nat.le_trans this ?_
    rw [Nat.pow_succ, Nat.mul_comm (10 ^ l.length) 10, ← Nat.mul_assoc]
    refine Nat.mul_le_mul_right _ ?_
    unfold stepD; omega
theorem num_bd (m : Nat) (l : List UInt8) : numOf (l.take (nD m l)) + 1 ≤ 10 ^ nD m l := by
  have h := numOf_bd (l.take (nD m l)) 0 (nD_all m l)
  have h2 := (nD_le m l).2
  rw [List.length_take, Nat.min_eq_left h2] at h
  simpa [numOf] using h
theorem num_bd3 (l : List UInt8) (k : Nat) (hk : k ≤ nD 3 l) : numOf (l.take k) ≤ 999 := by
  have h := numOf_bd (l.take k) 0 (fun c hc => nD_all 3 l c (by
    have : l.take k = (l.take (nD 3 l)).take k := by rw [List.take_take, Nat.min_eq_left hk]
    rw [this] at hc; exact List.mem_of_mem_take hc))
  have h2 := (nD_le 3 l)
  rw [List.length_take, Nat.min_eq_left (by omega)] at h
  have h3 : (10 : Nat) ^ k ≤ 10 ^ 3 := Nat.pow_le_pow_right (by omega) (by omega)
  unfold numOf; omega

/-- What a time comes to: none (it is none), or the seconds and what is behind. -/
abbrev Res := Option (Int × List UInt8)
def unitOf : Nat → Int
  | 0 => 0
  | 1 => 1
  | _ => 60
def done (neg : Bool) (n : Int) (l : List UInt8) : Res := some (if neg = true then -n else n, l)
/-- Parts behind a sign of two dots, so many at most. -/
def more (neg : Bool) : Nat → Int → List UInt8 → Res
  | 0, n, l => done neg n l
  | u + 1, n, l => match l with
    | 58 :: r => if nD 2 r < 2 ∨ 59 < numOf (r.take (nD 2 r)) then none else more neg u (n + numOf (r.take (nD 2 r)) * unitOf (u + 1)) (r.drop (nD 2 r))
    | l => done neg n l
def bar (neg : Bool) (l : List UInt8) : Res := if nD 3 l < 1 ∨ 167 < numOf (l.take (nD 3 l)) then none else more neg 2 ((numOf (l.take (nD 3 l)) : Nat) * 3600) (l.drop (nD 3 l))
/-- A time at the beginning. -/
def span (l : List UInt8) : Res := match l with
  | 45 :: r => if r = [] then some (0, []) else bar true r
  | l => bar false l

/-! The document's side. -/
def numR (l : List UInt8) (least most : Nat) : Int := if l.length < least ∨ most < l.length then -1 else if l.all isD = true then (numOf l : Nat) else -1
def splitC : List UInt8 → List (List UInt8)
  | [] => [[]]
  | c :: l => if c = 58 then [] :: splitC l else match splitC l with
    | p :: ps => (c :: p) :: ps
    | [] => [[c]]
theorem splitC_ne (l : List UInt8) : splitC l ≠ [] := by
  cases l with
  | nil => simp [splitC]
  | cons c l => unfold splitC; split; · simp
                split <;> simp
/-- The rest of a document's time: its parts behind the hour. -/
def sumR : List (List UInt8) → Int → Int → Option Int
  | [], _, n => some n
  | p :: ps, u, n => if numR p 2 2 < 0 ∨ 59 < numR p 2 2 then none else sumR ps 1 (n + numR p 2 2 * u)
def bareR (l : List UInt8) : Option Int := match splitC l with
  | [] => none
  | p :: ps => if 3 < (p :: ps).length ∨ numR p 1 3 < 0 ∨ 167 < numR p 1 3 then none else sumR ps 60 (3600 * numR p 1 3)
def spanR (l : List UInt8) : Option Int := match l with
  | 45 :: r => if r = [] then some 0 else (bareR r).map (fun n => -n)
  | l => bareR l

theorem split_free : ∀ (a : List UInt8), (∀ c ∈ a, c ≠ 58) → splitC a = [a]
  | [], _ => rfl
  | c :: a, h => by
    simp [splitC, h c (by simp), split_free a (fun x hx => h x (by simp [hx]))]
theorem split_at : ∀ (a r : List UInt8), (∀ c ∈ a, c ≠ 58) → splitC (a ++ 58 :: r) = a :: splitC r
  | [], r, _ => by simp [splitC]
  | c :: a, r, h => by
    have := split_at a r (fun x hx => h x (by simp [hx]))
    simp [splitC, h c (by simp), this]
theorem parted : ∀ (l : List UInt8), (∀ c ∈ l, c ≠ 58) ∨ ∃ a r, l = a ++ 58 :: r ∧ ∀ c ∈ a, c ≠ 58
  | [] => .inl (by simp)
  | c :: l => by
    by_cases hc : c = 58
    · exact .inr ⟨[], l, by simp [hc], by simp⟩
    · rcases parted l with h | ⟨a, r, h1, h2⟩
      · exact .inl (by simpa [hc] using h)
      · exact .inr ⟨c :: a, r, by simp [h1], by simpa [hc] using h2⟩
theorem numR_yes {a : List UInt8} {least most : Nat} (h : 0 ≤ numR a least most) : least ≤ a.length ∧ a.length ≤ most ∧ (∀ c ∈ a, isD c = true) ∧ numR a least most = (numOf a : Nat) := by
  unfold numR at h ⊢
  by_cases c1 : a.length < least ∨ most < a.length
  · rw [if_pos c1] at h; omega
  · rw [if_neg c1] at h ⊢
    by_cases c2 : a.all isD = true
    · rw [if_pos c2] at h ⊢
      exact ⟨by omega, by omega, List.all_eq_true.1 c2, rfl⟩
    · rw [if_neg c2] at h; omega
theorem numR_mk {a : List UInt8} {least most : Nat} (h1 : least ≤ a.length) (h2 : a.length ≤ most) (h3 : ∀ c ∈ a, isD c = true) : numR a least most = (numOf a : Nat) := by
  unfold numR; rw [if_neg (by omega), if_pos (List.all_eq_true.2 h3)]
theorem numR_ge (a : List UInt8) (least most : Nat) : -1 ≤ numR a least most := by
  unfold numR; split
  · omega
  · split <;> omega
/-- Where a part ends the digits end. -/
theorem colon_not_digit : isD 58 = false := by decide
/-- The digits ahead are all of a part just where the part is a number. -/
theorem nD_part (m : Nat) (a r : List UInt8) (hr : r = [] ∨ ∃ r', r = 58 :: r') : nD m (a ++ r) = nD m a :=
  nD_app m a r (fun c r' e => by
    rcases hr with rfl | ⟨r2, rfl⟩
    · cases e
    · cases e; exact colon_not_digit)
theorem take_part (m : Nat) (a r : List UInt8) : (a ++ r).take (nD m a) = a.take (nD m a) := by
  rw [List.take_append_of_le_length (nD_le m a).2]
theorem drop_part (m : Nat) (a r : List UInt8) : (a ++ r).drop (nD m a) = a.drop (nD m a) ++ r := by
  rw [List.drop_append_of_le_length (nD_le m a).2]
theorem part_num {least most : Nat} {a : List UInt8} (h : least ≤ nD most a) (hd : a.drop (nD most a) = []) : numR a least most = (numOf (a.take (nD most a)) : Nat) := by
  have h1 := nD_le most a
  have h2 : a.length ≤ nD most a := by simpa using hd
  have h3 : a.take (nD most a) = a := List.take_of_length_le h2
  have h4 := nD_all most a
  rw [h3] at h4 ⊢
  exact numR_mk (by omega) (by omega) h4
theorem part_num' {least most : Nat} {a : List UInt8} (h : 0 ≤ numR a least most) : nD most a = a.length ∧ least ≤ a.length ∧ numR a least most = (numOf a : Nat) := by
  obtain ⟨h1, h2, h3, h4⟩ := numR_yes h
  have := nD_full most a [] h3 h2 (by simp)
  simp at this
  exact ⟨this, h1, h4⟩
theorem not_colon {a r : List UInt8} {k : Nat} (ha : ∀ c ∈ a, c ≠ 58) (hk : a.drop k ≠ []) : ∃ x y, a.drop k ++ r = x :: y ∧ x ≠ 58 := by
  cases hd : a.drop k with
  | nil => exact absurd hd hk
  | cons x y =>
    have hm : x ∈ a.drop k := by rw [hd]; simp
    exact ⟨x, y ++ r, rfl, ha x (List.mem_of_mem_drop hm)⟩
theorem more_stop (neg : Bool) (u : Nat) (n : Int) {l x y} (h : l = x :: y) (hx : x ≠ 58) : more neg u n l = done neg n l := by
  subst h
  cases u with
  | zero => rfl
  | succ u => unfold more; split
              · rename_i he; exact absurd (List.cons.inj he).1 hx
              · rfl
theorem more_nil (neg : Bool) (u : Nat) (n : Int) : more neg u n [] = done neg n [] := by cases u <;> rfl
theorem done_rest {neg : Bool} {n m : Int} {l : List UInt8} (h : done neg n l = some (m, [])) : l = [] := by simp [done] at h; exact h.2
/-- The parts behind, on both sides. -/
theorem more_eq (neg : Bool) : ∀ (u : Nat) (hu : u ≤ 2) (l : List UInt8) (n m : Int),
    (more neg u n (58 :: l) = some (m, []) ↔ u ≠ 0 ∧ (splitC l).length ≤ u ∧ ∃ k, sumR (splitC l) (unitOf u) n = some k ∧ m = if neg = true then -k else k)
  | 0, _, l, n, m => by
    simp only [more, ne_eq, not_true_eq_false, false_and, iff_false]
    intro h; cases done_rest h
  | u + 1, hu, l, n, m => by
    simp only [more]
    rcases parted l with hf | ⟨a, r, rfl, ha⟩
    · rw [split_free l hf]
      by_cases c : nD 2 l < 2 ∨ 59 < numOf (l.take (nD 2 l))
      · rw [if_pos c]
        constructor
        · intro h; cases h
        · rintro ⟨_, _, k, hk, _⟩
          simp only [sumR] at hk
          by_cases d : numR l 2 2 < 0 ∨ 59 < numR l 2 2
          · rw [if_pos d] at hk; cases hk
          · have hp := part_num' (a := l) (least := 2) (most := 2) (by omega)
            rw [hp.1, List.take_length] at c
            omega
      · rw [if_neg c]
        by_cases hd : l.drop (nD 2 l) = []
        · have hp := part_num (a := l) (least := 2) (most := 2) (by omega) hd
          rw [hd, more_nil]
          simp only [sumR, hp]
          rw [if_neg (by omega)]
          simp only [done, Option.some.injEq, Prod.mk.injEq, and_true, List.length_cons, List.length_nil]
          constructor
          · rintro rfl; exact ⟨by omega, by omega, _, rfl, rfl⟩
          · rintro ⟨_, _, k, rfl, rfl⟩; rfl
        · obtain ⟨x, y, e, hx⟩ := not_colon (r := []) (k := nD 2 l) hf hd
          rw [List.append_nil] at e
          rw [more_stop neg u _ e hx]
          constructor
          · intro h; exact absurd (done_rest h) hd
          · rintro ⟨_, _, k, hk, _⟩
            simp only [sumR] at hk
            by_cases d : numR l 2 2 < 0 ∨ 59 < numR l 2 2
            · rw [if_pos d] at hk; cases hk
            · have hp := part_num' (a := l) (least := 2) (most := 2) (by omega)
              rw [hp.1] at hd; exact absurd (List.drop_length ..) hd
    · rw [split_at a r ha]
      rw [nD_part 2 a _ (.inr ⟨r, rfl⟩), take_part, drop_part]
      by_cases c : nD 2 a < 2 ∨ 59 < numOf (a.take (nD 2 a))
      · rw [if_pos c]
        constructor
        · intro h; cases h
        · rintro ⟨_, _, k, hk, _⟩
          simp only [sumR] at hk
          by_cases d : numR a 2 2 < 0 ∨ 59 < numR a 2 2
          · rw [if_pos d] at hk; cases hk
          · have hp := part_num' (a := a) (least := 2) (most := 2) (by omega)
            rw [hp.1, List.take_length] at c
            omega
      · rw [if_neg c]
        by_cases hd : a.drop (nD 2 a) = []
        · have hp := part_num (a := a) (least := 2) (most := 2) (by omega) hd
          rw [hd, List.nil_append, more_eq neg u (by omega) r]
          simp only [sumR, hp]
          rw [if_neg (by omega)]
          have hlen : (splitC r).length ≠ 0 := by
            intro e; exact splitC_ne r (List.eq_nil_of_length_eq_zero e)
          have hu2 : u = 0 ∨ u = 1 := by omega
          rcases hu2 with rfl | rfl
          · simp; intro h; exact absurd h (splitC_ne r)
          · simp [unitOf]
        · obtain ⟨x, y, e, hx⟩ := not_colon (r := 58 :: r) (k := nD 2 a) ha hd
          rw [more_stop neg u _ e hx]
          constructor
          · intro h
            have := done_rest h
            rw [e] at this; cases this
          · rintro ⟨_, _, k, hk, _⟩
            simp only [sumR] at hk
            by_cases d : numR a 2 2 < 0 ∨ 59 < numR a 2 2
            · rw [if_pos d] at hk; cases hk
            · have hp := part_num' (a := a) (least := 2) (most := 2) (by omega)
              rw [hp.1] at hd; exact absurd (List.drop_length ..) hd
theorem bar_eq (neg : Bool) (l : List UInt8) (m : Int) : bar neg l = some (m, []) ↔ ∃ k, bareR l = some k ∧ m = if neg = true then -k else k := by
  unfold bar bareR
  rcases parted l with hf | ⟨a, r, rfl, ha⟩
  · rw [split_free l hf]
    simp only [List.length_cons, List.length_nil, sumR]
    by_cases c : nD 3 l < 1 ∨ 167 < numOf (l.take (nD 3 l))
    · rw [if_pos c]
      constructor
      · intro h; cases h
      · rintro ⟨k, hk, _⟩
        by_cases d : 3 < 0 + 1 ∨ numR l 1 3 < 0 ∨ 167 < numR l 1 3
        · rw [if_pos d] at hk; cases hk
        · have hp := part_num' (a := l) (least := 1) (most := 3) (by omega)
          rw [hp.1, List.take_length] at c
          omega
    · rw [if_neg c]
      by_cases hd : l.drop (nD 3 l) = []
      · have hp := part_num (a := l) (least := 1) (most := 3) (by omega) hd
        rw [hd, more_nil, if_neg (by omega), hp]
        simp only [done, Option.some.injEq, Prod.mk.injEq, and_true]
        constructor
        · rintro rfl; exact ⟨_, rfl, by rw [Int.mul_comm]⟩
        · rintro ⟨k, rfl, rfl⟩; rw [Int.mul_comm]
      · obtain ⟨x, y, e, hx⟩ := not_colon (r := []) (k := nD 3 l) hf hd
        rw [List.append_nil] at e
        rw [more_stop neg 2 _ e hx]
        constructor
        · intro h; exact absurd (done_rest h) hd
        · rintro ⟨k, hk, _⟩
          by_cases d : 3 < 0 + 1 ∨ numR l 1 3 < 0 ∨ 167 < numR l 1 3
          · rw [if_pos d] at hk; cases hk
          · have hp := part_num' (a := l) (least := 1) (most := 3) (by omega)
            rw [hp.1] at hd; exact absurd (List.drop_length ..) hd
  · rw [split_at a r ha]
    rw [nD_part 3 a _ (.inr ⟨r, rfl⟩), take_part, drop_part]
    simp only [List.length_cons]
    by_cases c : nD 3 a < 1 ∨ 167 < numOf (a.take (nD 3 a))
    · rw [if_pos c]
      constructor
      · intro h; cases h
      · rintro ⟨k, hk, _⟩
        by_cases d : 3 < (splitC r).length + 1 ∨ numR a 1 3 < 0 ∨ 167 < numR a 1 3
        · rw [if_pos d] at hk; cases hk
        · have hp := part_num' (a := a) (least := 1) (most := 3) (by omega)
          rw [hp.1, List.take_length] at c
          omega
    · rw [if_neg c]
      by_cases hd : a.drop (nD 3 a) = []
      · have hp := part_num (a := a) (least := 1) (most := 3) (by omega) hd
        rw [hd, List.nil_append, more_eq neg 2 (by omega) r, hp]
        by_cases h3 : (splitC r).length ≤ 2
        · rw [if_neg (by omega)]
          simp only [h3, unitOf, true_and, ne_eq, show ¬ (2 : Nat) = 0 by omega, not_false_eq_true]
          rw [Int.mul_comm]
        · rw [if_pos (by omega)]
          simp [h3]
      · obtain ⟨x, y, e, hx⟩ := not_colon (r := 58 :: r) (k := nD 3 a) ha hd
        rw [more_stop neg 2 _ e hx]
        constructor
        · intro h
          have := done_rest h
          rw [e] at this; cases this
        · rintro ⟨k, hk, _⟩
          by_cases d : 3 < (splitC r).length + 1 ∨ numR a 1 3 < 0 ∨ 167 < numR a 1 3
          · rw [if_pos d] at hk; cases hk
          · have hp := part_num' (a := a) (least := 1) (most := 3) (by omega)
            rw [hp.1] at hd; exact absurd (List.drop_length ..) hd
/-- The program's time with nothing behind is the document's. -/
theorem span_eq (l : List UInt8) (m : Int) : span l = some (m, []) ↔ spanR l = some m := by
  unfold span spanR
  split
  · split
    · simp
    · rw [bar_eq]
      simp only [if_true, Option.map_eq_some_iff]
      constructor
      · rintro ⟨k, h, rfl⟩; exact ⟨k, h, rfl⟩
      · rintro ⟨k, h, rfl⟩; exact ⟨k, h, rfl⟩
  · rw [bar_eq]; simp
end Mom
end Go.Proofs.YtcjnficcggjeiaaDoor
set_option linter.unusedVariables false
set_option linter.unusedSimpArgs false
namespace Go.Proofs.YtcjnficcggjeiaaDoor
namespace Mom
def dig (n : Nat) : UInt8 := UInt8.ofNat (48 + n % 10)
def dec (n : Nat) : List UInt8 := if n < 10 then [dig n] else dec (n / 10) ++ [dig n]
termination_by n
decreasing_by omega
theorem dec_small {n : Nat} (h : n < 10) : dec n = [dig n] := by rw [dec, if_pos h]
theorem dec_big {n : Nat} (h : ¬ n < 10) : dec n = dec (n / 10) ++ [dig n] := by rw [dec, if_neg h]
theorem dec_ne (n : Nat) : dec n ≠ [] := by
  by_cases h : n < 10
  · rw [dec_small h]; simp
  · rw [dec_big h]; simp
theorem dec_len : ∀ (k n : Nat), 1 ≤ k → n < 10 ^ k → (dec n).length ≤ k
  | 0, n, h, _ => by omega
  | k + 1, n, _, h => by
    by_cases h1 : n < 10
    · rw [dec_small h1]; simp
    · have hk : 1 ≤ k := by
        rcases k with _ | k
        · simp at h; omega
        · omega
      rw [dec_big h1, List.length_append]
      have := dec_len k (n / 10) hk (by rw [Nat.pow_succ] at h; omega)
      simp; omega
/-- The digits not yet written, ahead of those that are. -/
def undone (n : Nat) (s : List UInt8) : List UInt8 := if n = 0 ∧ s ≠ [] then s else dec n ++ s
theorem undone_start (n : Nat) : undone n [] = dec n := by unfold undone; rw [if_neg (by simp), List.append_nil]
theorem undone_step {n : Nat} {s : List UInt8} (h : ¬ (n = 0 ∧ s ≠ [])) : undone n s = undone (n / 10) (dig n :: s) := by
  unfold undone
  rw [if_neg h]
  by_cases h1 : n < 10
  · rw [dec_small h1, if_pos ⟨by omega, by simp⟩]; rfl
  · rw [dec_big h1, if_neg (by intro h2; omega)]; simp
theorem undone_end {s : List UInt8} (h : s ≠ []) : undone 0 s = s := if_pos ⟨rfl, h⟩
def twoD (n : Nat) : List UInt8 := [dig (n / 10), dig n]
theorem two_small {n : Nat} (h : n < 10) : twoD n = 48 :: dec n := by
  unfold twoD; rw [dec_small h, show n / 10 = 0 by omega]; rfl
theorem two_big {n : Nat} (h : ¬ n < 10) (h2 : n < 100) : twoD n = dec n := by
  unfold twoD; rw [dec_big h, dec_small (by omega)]; rfl
end Mom
end Go.Proofs.YtcjnficcggjeiaaDoor
