/- Plain laws of moments: clocks' times as texts. -/
import Derived.Test.YtdhbgelijjlifaaGreatDoorProg
import Derived.WalkKit
import Derived.WalkSpells
import Derived.WalkLawsBesides
import Derived.Test.YtdhbgelijjlifaaGreatDoorOwns
import Derived.Test.YtdhbgelijjlifaaGreatDoorShelf
import Derived.Carry
import Derived.MapKept
import Derived.RangeFuncRecord
import Derived.Laws.IdiomStrings
set_option linter.unusedVariables false
set_option linter.unusedSimpArgs false
namespace Go.Proofs.YtdhbgelijjlifaaGreatDoor
namespace Mom
def isD (c : UInt8) : Bool := decide (48 ≤ (c.toNat : Int) ∧ (c.toNat : Int) ≤ 57)
def nD : Nat → List UInt8 → Nat
 | 0, _ => 0
 | _ + 1, [] => 0
 | k + 1, c :: l => if isD c = true then nD k l + 1 else 0
def stepD (n : Nat) (c : UInt8) : Nat := n * 10 + (c.toNat - 48)
def numOf (l : List UInt8) : Nat := l.foldl stepD 0
theorem nD_le : ∀ (m : Nat) (l : List UInt8), nD m l ≤ m ∧ nD m l ≤ l.length
 | 0, l => by simp [nD]
 | m + 1, [] => by simp [nD]
 | m + 1, c :: l => by
   have := nD_le m l
   unfold nD; split <;> simp <;> omega
theorem nD_at : ∀ (m : Nat) (l : List UInt8) (k : Nat) (h : k < l.length), k ≤ nD m l → k < m → (isD l[k] = true → k + 1 ≤ nD m l) ∧ (isD l[k] = false → nD m l = k)
 | 0, l, k, h, _, hm => by omega
 | m + 1, [], k, h, _, _ => by simp at h
 | m + 1, c :: l, 0, h, _, _ => by
   cases hc : isD c <;> simp [nD, hc]
 | m + 1, c :: l, k + 1, h, hk, hm => by
   cases hc : isD c
   · simp [nD, hc] at hk
   · simp only [nD, hc, if_true] at hk ⊢
     have := nD_at m l k (by simpa using h) (by omega) (by omega)
     simp only [List.getElem_cons_succ]
     constructor
     · intro hd; have := this.1 hd; omega
     · intro hd; have := this.2 hd; omega
theorem nD_all : ∀ (m : Nat) (l : List UInt8), ∀ c ∈ l.take (nD m l), isD c = true
 | 0, l => by simp [nD]
 | m + 1, [] => by simp [nD]
 | m + 1, c :: l => by
   cases hc : isD c
   · simp [nD, hc]
   · simp only [nD, hc, if_true, List.take_succ_cons, List.mem_cons]
     rintro x (rfl | hx)
     · exact hc
     · exact nD_all m l x hx
theorem nD_full : ∀ (m : Nat) (a r : List UInt8), (∀ c ∈ a, isD c = true) → a.length ≤ m → (∀ c r', r = c :: r' → isD c = false) → nD m (a ++ r) = a.length
 | m, [], r, _, _, hr => by
   cases m with
   | zero => rfl
   | succ m =>
     cases r with
     | nil => rfl
     | cons c r => simp [nD, hr c r rfl]
 | 0, c :: a, r, _, h, _ => by simp at h
 | m + 1, c :: a, r, ha, h, hr => by
   have := nD_full m a r (fun x hx => ha x (by simp [hx])) (by simpa using h) hr
   simp [nD, ha c (by simp), this]
theorem nD_app : ∀ (m : Nat) (a r : List UInt8), (∀ c r', r = c :: r' → isD c = false) → nD m (a ++ r) = nD m a
 | 0, a, r, _ => rfl
 | m + 1, [], r, hr => by
   cases r with
   | nil => rfl
   | cons c r => simp [nD, hr c r rfl]
 | m + 1, c :: a, r, hr => by simp [nD, nD_app m a r hr]
theorem numOf_snoc (l : List UInt8) (c : UInt8) : numOf (l ++ [c]) = numOf l * 10 + (c.toNat - 48) := by simp [numOf, stepD]
theorem numOf_bd : ∀ (l : List UInt8) (n : Nat), (∀ c ∈ l, isD c = true) → l.foldl stepD n + 1 ≤ (n + 1) * 10 ^ l.length
 | [], n, _ => by simp
 | c :: l, n, h => by
   have hc : c.toNat - 48 ≤ 9 := by have := h c (by simp); simp [isD] at this; omega
   have := numOf_bd l (stepD n c) (fun x hx => h x (by simp [hx]))
   simp only [List.foldl_cons, List.length_cons]
   refine Nat.le_trans this ?_
   rw [Nat.pow_succ, Nat.mul_comm (10 ^ l.length) 10, ← Nat.mul_assoc]
   refine Nat.mul_le_mul_right _ ?_
   unfold stepD; omega
theorem num_bd (m : Nat) (l : List UInt8) : numOf (l.take (nD m l)) + 1 ≤ 10 ^ nD m l := by
 have h := numOf_bd (l.take (nD m l)) 0 (nD_all m l)
 have h2 := (nD_le m l).2
 rw [List.length_take, Nat.min_eq_left h2] at h
 simpa [numOf] using h
abbrev Res := Option (Int × List UInt8)
def unitOf : Nat → Int
 | 0 => 0
 | 1 => 1
 | _ => 60
def done (neg : Bool) (n : Int) (l : List UInt8) : Res := some (if neg = true then -n else n, l)
def more (neg : Bool) : Nat → Int → List UInt8 → Res
 | 0, n, l => done neg n l
 | u + 1, n, l => match l with
   | 58 :: r => if nD 2 r < 2 ∨ 59 < numOf (r.take (nD 2 r)) then none else more neg u (n + numOf (r.take (nD 2 r)) * unitOf (u + 1)) (r.drop (nD 2 r))
   | l => done neg n l
def bar (neg : Bool) (l : List UInt8) : Res := if nD 3 l < 1 ∨ 167 < numOf (l.take (nD 3 l)) then none else more neg 2 ((numOf (l.take (nD 3 l)) : Nat) * 3600) (l.drop (nD 3 l))
def span (l : List UInt8) : Res := match l with
 | 45 :: r => if r = [] then some (0, []) else bar true r
 | l => bar false l
/-! The document's side. -/
def numR (l : List UInt8) (least most : Nat) : Int := if l.length < least ∨ most < l.length then -1 else if l.all isD = true then (numOf l : Nat) else -1
def splitC : List UInt8 → List (List UInt8)
 | [] => [[]]
 | c :: l => if c = 58 then [] :: splitC l else match splitC l with
   | p :: ps => (c :: p) :: ps
   | [] => [[c]]
theorem splitC_ne (l : List UInt8) : splitC l ≠ [] := by
 cases l with
 | nil => simp [splitC]
 | cons c l => unfold splitC; split; · simp
               split <;> simp
def sumR : List (List UInt8) → Int → Int → Option Int
 | [], _, n => some n
 | p :: ps, u, n => if numR p 2 2 < 0 ∨ 59 < numR p 2 2 then none else sumR ps 1 (n + numR p 2 2 * u)
def bareR (l : List UInt8) : Option Int := match splitC l with
 | [] => none
 | p :: ps => if 3 < (p :: ps).length ∨ numR p 1 3 < 0 ∨ 167 < numR p 1 3 then none else sumR ps 60 (3600 * numR p 1 3)
def spanR (l : List UInt8) : Option Int := match l with
 | 45 :: r => if r = [] then some 0 else (bareR r).map (fun n => -n)
 | l => bareR l
theorem split_free : ∀ (a : List UInt8), (∀ c ∈ a, c ≠ 58) → splitC a = [a]
 | [], _ => rfl
 | c :: a, h => by
   simp [splitC, h c (by simp), split_free a (fun x hx => h x (by simp [hx]))]
theorem split_at : ∀ (a r : List UInt8), (∀ c ∈ a, c ≠ 58) → splitC (a ++ 58 :: r) = a :: splitC r
 | [], r, _ => by simp [splitC]
 | c :: a, r, h => by
   have := split_at a r (fun x hx => h x (by simp [hx]))
   simp [splitC, h c (by simp), this]
theorem parted : ∀ (l : List UInt8), (∀ c ∈ l, c ≠ 58) ∨ ∃ a r, l = a ++ 58 :: r ∧ ∀ c ∈ a, c ≠ 58
 | [] => .inl (by simp)
 | c :: l => by
   by_cases hc : c = 58
   · exact .inr ⟨[], l, by simp [hc], by simp⟩
   · rcases parted l with h | ⟨a, r, h1, h2⟩
     · exact .inl (by simpa [hc] using h)
     · exact .inr ⟨c :: a, r, by simp [h1], by simpa [hc] using h2⟩
theorem numR_yes {a : List UInt8} {least most : Nat} (h : 0 ≤ numR a least most) : least ≤ a.length ∧ a.length ≤ most ∧ (∀ c ∈ a, isD c = true) ∧ numR a least most = (numOf a : Nat) := by
 unfold numR at h ⊢
 by_cases c1 : a.length < least ∨ most < a.length
 · rw [if_pos c1] at h; omega
 · rw [if_neg c1] at h ⊢
   by_cases c2 : a.all isD = true
   · rw [if_pos c2] at h ⊢
     exact ⟨by omega, by omega, List.all_eq_true.1 c2, rfl⟩
   · rw [if_neg c2] at h; omega
theorem numR_mk {a : List UInt8} {least most : Nat} (h1 : least ≤ a.length) (h2 : a.length ≤ most) (h3 : ∀ c ∈ a, isD c = true) : numR a least most = (numOf a : Nat) := by
 unfold numR; rw [if_neg (by omega), if_pos (List.all_eq_true.2 h3)]
theorem numR_ge (a : List UInt8) (least most : Nat) : -1 ≤ numR a least most := by
 unfold numR; split
 · omega
 · split <;> omega
theorem colon_not_digit : isD 58 = false := by decide
theorem nD_part (m : Nat) (a r : List UInt8) (hr : r = [] ∨ ∃ r', r = 58 :: r') : nD m (a ++ r) = nD m a :=
 nD_app m a r (fun c r' e => by
  rcases hr with rfl | ⟨r2, rfl⟩
  · cases e
  · cases e; exact colon_not_digit)
theorem take_part (m : Nat) (a r : List UInt8) : (a ++ r).take (nD m a) = a.take (nD m a) := by
 rw [List.take_append_of_le_length (nD_le m a).2]
theorem drop_part (m : Nat) (a r : List UInt8) : (a ++ r).drop (nD m a) = a.drop (nD m a) ++ r := by
 rw [List.drop_append_of_le_length (nD_le m a).2]
theorem part_num {least most : Nat} {a : List UInt8} (h : least ≤ nD most a) (hd : a.drop (nD most a) = []) : numR a least most = (numOf (a.take (nD most a)) : Nat) := by
 have h1 := nD_le most a
 have h2 : a.length ≤ nD most a := by simpa using hd
 have h3 : a.take (nD most a) = a := List.take_of_length_le h2
 have h4 := nD_all most a
 rw [h3] at h4 ⊢
 exact numR_mk (by omega) (by omega) h4
theorem part_num' {least most : Nat} {a : List UInt8} (h : 0 ≤ numR a least most) : nD most a = a.length ∧ least ≤ a.length ∧ numR a least most = (numOf a : Nat) := by
 obtain ⟨h1, h2, h3, h4⟩ := numR_yes h
 have := nD_full most a [] h3 h2 (by simp)
 simp at this
 exact ⟨this, h1, h4⟩
theorem not_colon {a r : List UInt8} {k : Nat} (ha : ∀ c ∈ a, c ≠ 58) (hk : a.drop k ≠ []) : ∃ x y, a.drop k ++ r = x :: y ∧ x ≠ 58 := by
 cases hd : a.drop k with
 | nil => exact absurd hd hk
 | cons x y =>
   have hm : x ∈ a.drop k := by rw [hd]; simp
   exact ⟨x, y ++ r, rfl, ha x (List.mem_of_mem_drop hm)⟩
theorem more_stop (neg : Bool) (u : Nat) (n : Int) {l x y} (h : l = x :: y) (hx : x ≠ 58) : more neg u n l = done neg n l := by
 subst h
 cases u with
 | zero => rfl
 | succ u => unfold more; split
             · rename_i he; exact absurd (List.cons.inj he).1 hx
             · rfl
theorem more_nil (neg : Bool) (u : Nat) (n : Int) : more neg u n [] = done neg n [] := by cases u <;> rfl
theorem done_rest {neg : Bool} {n m : Int} {l : List UInt8} (h : done neg n l = some (m, [])) : l = [] := by simp [done] at h; exact h.2
theorem more_eq (neg : Bool) : ∀ (u : Nat) (hu : u ≤ 2) (l : List UInt8) (n m : Int),
 (more neg u n (58 :: l) = some (m, []) ↔ u ≠ 0 ∧ (splitC l).length ≤ u ∧ ∃ k, sumR (splitC l) (unitOf u) n = some k ∧ m = if neg = true then -k else k)
 | 0, _, l, n, m => by
   simp only [more, ne_eq, not_true_eq_false, false_and, iff_false]
   intro h; cases done_rest h
 | u + 1, hu, l, n, m => by
   simp only [more]
   rcases parted l with hf | ⟨a, r, rfl, ha⟩
   · rw [split_free l hf]
     by_cases c : nD 2 l < 2 ∨ 59 < numOf (l.take (nD 2 l))
     · rw [if_pos c]
       constructor
       · intro h; cases h
       · rintro ⟨_, _, k, hk, _⟩
         simp only [sumR] at hk
         by_cases d : numR l 2 2 < 0 ∨ 59 < numR l 2 2
         · rw [if_pos d] at hk; cases hk
         · have hp := part_num' (a := l) (least := 2) (most := 2) (by omega)
           rw [hp.1, List.take_length] at c
           omega
     · rw [if_neg c]
       by_cases hd : l.drop (nD 2 l) = []
       · have hp := part_num (a := l) (least := 2) (most := 2) (by omega) hd
         rw [hd, more_nil]
         simp only [sumR, hp]
         rw [if_neg (by omega)]
         simp only [done, Option.some.injEq, Prod.mk.injEq, and_true, List.length_cons, List.length_nil]
         constructor
         · rintro rfl; exact ⟨by omega, by omega, _, rfl, rfl⟩
         · rintro ⟨_, _, k, rfl, rfl⟩; rfl
       · obtain ⟨x, y, e, hx⟩ := not_colon (r := []) (k := nD 2 l) hf hd
         rw [List.append_nil] at e
         rw [more_stop neg u _ e hx]
         constructor
         · intro h; exact absurd (done_rest h) hd
         · rintro ⟨_, _, k, hk, _⟩
           simp only [sumR] at hk
           by_cases d : numR l 2 2 < 0 ∨ 59 < numR l 2 2
           · rw [if_pos d] at hk; cases hk
           · have hp := part_num' (a := l) (least := 2) (most := 2) (by omega)
             rw [hp.1] at hd; exact absurd (List.drop_length ..) hd
   · rw [split_at a r ha]
     rw [nD_part 2 a _ (.inr ⟨r, rfl⟩), take_part, drop_part]
     by_cases c : nD 2 a < 2 ∨ 59 < numOf (a.take (nD 2 a))
     · rw [if_pos c]
       constructor
       · intro h; cases h
       · rintro ⟨_, _, k, hk, _⟩
         simp only [sumR] at hk
         by_cases d : numR a 2 2 < 0 ∨ 59 < numR a 2 2
         · rw [if_pos d] at hk; cases hk
         · have hp := part_num' (a := a) (least := 2) (most := 2) (by omega)
           rw [hp.1, List.take_length] at c
           omega
     · rw [if_neg c]
       by_cases hd : a.drop (nD 2 a) = []
       · have hp := part_num (a := a) (least := 2) (most := 2) (by omega) hd
         rw [hd, List.nil_append, more_eq neg u (by omega) r]
         simp only [sumR, hp]
         rw [if_neg (by omega)]
         have hlen : (splitC r).length ≠ 0 := by
          intro e; exact splitC_ne r (List.eq_nil_of_length_eq_zero e)
         have hu2 : u = 0 ∨ u = 1 := by omega
         rcases hu2 with rfl | rfl
         · simp; intro h; exact absurd h (splitC_ne r)
         · simp [unitOf]
       · obtain ⟨x, y, e, hx⟩ := not_colon (r := 58 :: r) (k := nD 2 a) ha hd
         rw [more_stop neg u _ e hx]
         constructor
         · intro h
           have := done_rest h
           rw [e] at this; cases this
         · rintro ⟨_, _, k, hk, _⟩
           simp only [sumR] at hk
           by_cases d : numR a 2 2 < 0 ∨ 59 < numR a 2 2
           · rw [if_pos d] at hk; cases hk
           · have hp := part_num' (a := a) (least := 2) (most := 2) (by omega)
             rw [hp.1] at hd; exact absurd (List.drop_length ..) hd
theorem bar_eq (neg : Bool) (l : List UInt8) (m : Int) : bar neg l = some (m, []) ↔ ∃ k, bareR l = some k ∧ m = if neg = true then -k else k := by
 unfold bar bareR
 rcases parted l with hf | ⟨a, r, rfl, ha⟩
 · rw [split_free l hf]
   simp only [List.length_cons, List.length_nil, sumR]
   by_cases c : nD 3 l < 1 ∨ 167 < numOf (l.take (nD 3 l))
   · rw [if_pos c]
     constructor
     · intro h; cases h
     · rintro ⟨k, hk, _⟩
       by_cases d : 3 < 0 + 1 ∨ numR l 1 3 < 0 ∨ 167 < numR l 1 3
       · rw [if_pos d] at hk; cases hk
       · have hp := part_num' (a := l) (least := 1) (most := 3) (by omega)
         rw [hp.1, List.take_length] at c
         omega
   · rw [if_neg c]
     by_cases hd : l.drop (nD 3 l) = []
     · have hp := part_num (a := l) (least := 1) (most := 3) (by omega) hd
       rw [hd, more_nil, if_neg (by omega), hp]
       simp only [done, Option.some.injEq, Prod.mk.injEq, and_true]
       constructor
       · rintro rfl; exact ⟨_, rfl, by rw [Int.mul_comm]⟩
       · rintro ⟨k, rfl, rfl⟩; rw [Int.mul_comm]
     · obtain ⟨x, y, e, hx⟩ := not_colon (r := []) (k := nD 3 l) hf hd
       rw [List.append_nil] at e
       rw [more_stop neg 2 _ e hx]
       constructor
       · intro h; exact absurd (done_rest h) hd
       · rintro ⟨k, hk, _⟩
         by_cases d : 3 < 0 + 1 ∨ numR l 1 3 < 0 ∨ 167 < numR l 1 3
         · rw [if_pos d] at hk; cases hk
         · have hp := part_num' (a := l) (least := 1) (most := 3) (by omega)
           rw [hp.1] at hd; exact absurd (List.drop_length ..) hd
 · rw [split_at a r ha]
   rw [nD_part 3 a _ (.inr ⟨r, rfl⟩), take_part, drop_part]
   simp only [List.length_cons]
   by_cases c : nD 3 a < 1 ∨ 167 < numOf (a.take (nD 3 a))
   · rw [if_pos c]
     constructor
     · intro h; cases h
     · rintro ⟨k, hk, _⟩
       by_cases d : 3 < (splitC r).length + 1 ∨ numR a 1 3 < 0 ∨ 167 < numR a 1 3
       · rw [if_pos d] at hk; cases hk
       · have hp := part_num' (a := a) (least := 1) (most := 3) (by omega)
         rw [hp.1, List.take_length] at c
         omega
   · rw [if_neg c]
     by_cases hd : a.drop (nD 3 a) = []
     · have hp := part_num (a := a) (least := 1) (most := 3) (by omega) hd
       rw [hd, List.nil_append, more_eq neg 2 (by omega) r, hp]
       by_cases h3 : (splitC r).length ≤ 2
       · rw [if_neg (by omega)]
         simp only [h3, unitOf, true_and, ne_eq, show ¬ (2 : Nat) = 0 by omega, not_false_eq_true]
         rw [Int.mul_comm]
       · rw [if_pos (by omega)]
         simp [h3]
     · obtain ⟨x, y, e, hx⟩ := not_colon (r := 58 :: r) (k := nD 3 a) ha hd
       rw [more_stop neg 2 _ e hx]
       constructor
       · intro h
         have := done_rest h
         rw [e] at this; cases this
       · rintro ⟨k, hk, _⟩
         by_cases d : 3 < (splitC r).length + 1 ∨ numR a 1 3 < 0 ∨ 167 < numR a 1 3
         · rw [if_pos d] at hk; cases hk
         · have hp := part_num' (a := a) (least := 1) (most := 3) (by omega)
           rw [hp.1] at hd; exact absurd (List.drop_length ..) hd
theorem span_eq (l : List UInt8) (m : Int) : span l = some (m, []) ↔ spanR l = some m := by
 unfold span spanR
 split
 · split
   · simp
   · rw [bar_eq]
     simp only [if_true, Option.map_eq_some_iff]
     constructor
     · rintro ⟨k, h, rfl⟩; exact ⟨k, h, rfl⟩
     · rintro ⟨k, h, rfl⟩; exact ⟨k, h, rfl⟩
 · rw [bar_eq]; simp
end Mom
end Go.Proofs.YtdhbgelijjlifaaGreatDoor
namespace Go.Proofs.YtdhbgelijjlifaaGreatDoor
namespace Mom
end Mom
end Go.Proofs.YtdhbgelijjlifaaGreatDoor
namespace Go.Proofs.YtdhbgelijjlifaaGreatDoor
namespace Mom
def refOf (r : List UInt8) : Option Int := if r = [] then some 0 else if r = [119] then some 0 else if r = [115] then some 1 else if r = [117] then some 2 else if r = [103] then some 2 else if r = [122] then some 2 else none
def letterRef (c : UInt8) : Option Int := if c = 119 then some 0 else if c = 115 then some 1 else if c = 117 then some 2 else if c = 103 then some 2 else if c = 122 then some 2 else none
def clockP (l : List UInt8) : Option (Int × Int) := match span l with
 | none => none
 | some (n, rest) => (refOf rest).map (fun r => (n, r))
def clockR (l : List UInt8) : Option (Int × Int) := if l = [] then none else match letterRef (l.getLastD 0) with
 | none => (spanR l).map (fun k => (k, 0))
 | some r => if l.dropLast = [45] then none else (spanR l.dropLast).map (fun k => (k, r))
theorem refOf_one (c : UInt8) : refOf [c] = letterRef c := by simp [refOf, letterRef]
theorem refOf_two (a : List UInt8) (c : UInt8) (h : a ≠ []) : refOf (a ++ [c]) = none := by
 cases a with
 | nil => exact absurd rfl h
 | cons x a => simp [refOf]
theorem letter_plain {c : UInt8} {r : Int} (h : letterRef c = some r) : isD c = false ∧ c ≠ 58 ∧ c ≠ 45 := by
 unfold letterRef at h
 repeat' split at h
 all_goals first
  | (subst_vars; decide)
  | cases h
theorem more_app (neg : Bool) (c : UInt8) (hd : isD c = false) (hc : c ≠ 58) : ∀ (u : Nat) (n : Int) (l : List UInt8), more neg u n (l ++ [c]) = (more neg u n l).map (fun x => (x.1, x.2 ++ [c]))
 | 0, n, l => by simp [more, done]
 | u + 1, n, [] => by
   rw [more_nil, List.nil_append, more_stop neg (u + 1) n rfl hc]; simp [done]
 | u + 1, n, x :: l => by
   by_cases hx : x = 58
   · subst hx
     simp only [more, List.cons_append]
     have e1 : nD 2 (l ++ [c]) = nD 2 l := nD_app 2 l [c] (by intro a b e; cases e; exact hd)
     rw [e1, take_part, drop_part]
     split
     · rfl
     · rw [more_app neg c hd hc u]
   · rw [more_stop neg (u + 1) n (l := x :: l ++ [c]) rfl hx, more_stop neg (u + 1) n rfl hx]
     simp [done]
theorem bar_app (neg : Bool) (c : UInt8) (hd : isD c = false) (hc : c ≠ 58) (l : List UInt8) : bar neg (l ++ [c]) = (bar neg l).map (fun x => (x.1, x.2 ++ [c])) := by
 unfold bar
 have e1 : nD 3 (l ++ [c]) = nD 3 l := nD_app 3 l [c] (by intro a b e; cases e; exact hd)
 rw [e1, take_part, drop_part]
 split
 · rfl
 · rw [more_app neg c hd hc 2]
theorem span_app (c : UInt8) (hd : isD c = false) (hc : c ≠ 58) (h45 : c ≠ 45) (l : List UInt8) (hl : l ≠ [45]) : span (l ++ [c]) = (span l).map (fun x => (x.1, x.2 ++ [c])) := by
 cases l with
 | nil =>
   unfold span
   simp only [List.nil_append]
   split
   · rename_i e; cases e; exact absurd rfl h45
   · exact bar_app false c hd hc []
 | cons x l =>
   by_cases hx : x = 45
   · subst hx
     have hn : l ≠ [] := by intro e; exact hl (by rw [e])
     simp only [span, List.cons_append]
     rw [if_neg (by simp), if_neg hn, bar_app true c hd hc]
   · have e : ∀ r, span (x :: r) = bar false (x :: r) := by
      intro r; unfold span; split
      · rename_i e; exact absurd (List.cons.inj e).1 hx
      · rfl
     rw [List.cons_append, e, e, ← List.cons_append, bar_app false c hd hc]
theorem more_suffix (neg : Bool) : ∀ (u : Nat) (n : Int) (l : List UInt8) (m : Int) (r : List UInt8), more neg u n l = some (m, r) → ∃ p, l = p ++ r
 | 0, n, l, m, r, h => by simp [more, done] at h; exact ⟨[], by simp [h.2]⟩
 | u + 1, n, l, m, r, h => by
   unfold more at h
   split at h
   · rename_i l' 
     split at h
     · cases h
     · rename_i k _
       obtain ⟨p, hp⟩ := more_suffix neg u _ _ m r h
       exact ⟨58 :: l'.take (nD 2 l') ++ p, by simp [← hp]⟩
   · simp [done] at h; exact ⟨[], by simp [h.2]⟩
theorem span_suffix (l : List UInt8) (m : Int) (r : List UInt8) (h : span l = some (m, r)) : ∃ p, l = p ++ r := by
 have hb : ∀ neg l, bar neg l = some (m, r) → ∃ p, l = p ++ r := by
  intro neg l h
  unfold bar at h
  split at h
  · cases h
  · obtain ⟨p, hp⟩ := more_suffix neg 2 _ _ m r h
    exact ⟨l.take (nD 3 l) ++ p, by rw [List.append_assoc, ← hp, List.take_append_drop]⟩
 unfold span at h
 split at h
 · rename_i l'
   split at h
   · simp at h; exact ⟨45 :: l', by simp [h.2]⟩
   · obtain ⟨p, hp⟩ := hb _ _ h
     exact ⟨45 :: p, by rw [hp]; rfl⟩
 · exact hb _ _ h
theorem clock_eq (l : List UInt8) : clockP l = clockR l := by
 rcases List.eq_nil_or_concat l with rfl | ⟨l', c, rfl⟩
 · rfl
 · rw [List.concat_eq_append]
   have hne : l' ++ [c] ≠ [] := by simp
   unfold clockP clockR
   rw [if_neg hne]
   have e1 : (l' ++ [c]).getLastD 0 = c := by simp
   have e2 : (l' ++ [c]).dropLast = l' := by simp
   rw [e1, e2]
   cases hc : letterRef c with
   | none =>
     simp only
     cases hs : span (l' ++ [c]) with
     | none =>
       cases hr : spanR (l' ++ [c]) with
       | none => rfl
       | some k => rw [(span_eq _ _).2 hr] at hs; cases hs
     | some x =>
       obtain ⟨n, rest⟩ := x
       simp only
       obtain ⟨p, hp⟩ := span_suffix _ _ _ hs
       by_cases h0 : rest = []
       · subst h0
         rw [(span_eq _ _).1 hs]; rfl
       · have hR : spanR (l' ++ [c]) = none := by
          cases hr : spanR (l' ++ [c]) with
          | none => rfl
          | some k =>
            rw [(span_eq _ _).2 hr] at hs
            exact absurd (by have := (Option.some.inj hs); exact (Prod.mk.inj this).2.symm) h0
         rw [hR]
         rcases List.eq_nil_or_concat rest with e | ⟨q, d, rfl⟩
         · exact absurd e h0
         · rw [List.concat_eq_append] at hp ⊢
           have hdc : c = d := by
            have := congrArg (fun x => x.getLastD 0) hp
            simpa [← List.append_assoc] using this
           subst hdc
           by_cases hq : q = []
           · subst hq
             rw [List.nil_append, refOf_one, hc]; rfl
           · rw [refOf_two q c hq]; rfl
   | some ref =>
     obtain ⟨h1, h2, h3⟩ := letter_plain hc
     simp only
     by_cases h45 : l' = [45]
     · subst h45
       rw [if_pos rfl]
       have : span ([45] ++ [c]) = none := by
        simp [span, bar, nD, h1]
       rw [this]
     · rw [if_neg h45, span_app c h1 h2 h3 l' h45]
       cases hs : span l' with
       | none =>
         cases hr : spanR l' with
         | none => rfl
         | some k => rw [(span_eq _ _).2 hr] at hs; cases hs
       | some x =>
         obtain ⟨n, rest⟩ := x
         simp only [Option.map_some]
         by_cases h0 : rest = []
         · subst h0
           rw [(span_eq _ _).1 hs, List.nil_append, refOf_one, hc]; rfl
         · rw [refOf_two rest c h0]
           cases hr : spanR l' with
           | none => rfl
           | some k =>
             rw [(span_eq _ _).2 hr] at hs
             exact absurd (by have := (Option.some.inj hs); exact (Prod.mk.inj this).2.symm) h0
/-! Names. -/
def lowC (c : UInt8) : UInt8 := if 65 ≤ c.toNat ∧ c.toNat ≤ 90 then c + 32 else c
def low (l : List UInt8) : List UInt8 := l.map lowC
def nameB (s w : List UInt8) : Bool := decide (3 ≤ s.length) && (low s).isPrefixOf w
def whichP (s : List UInt8) : List (List UInt8) → Nat → Nat
 | [], _ => 0
 | w :: ws, k => if nameB s w = true then k else whichP s ws (k + 1)
def small (w : List UInt8) : Bool := w.all (fun c => decide (97 ≤ c.toNat ∧ c.toNat ≤ 122))
theorem low_is {c w : UInt8} (hw : 97 ≤ w.toNat ∧ w.toNat ≤ 122) : lowC c = w ↔ (c.toNat = w.toNat ∨ c.toNat + 32 = w.toNat) := by
 unfold lowC
 by_cases h : 65 ≤ c.toNat ∧ c.toNat ≤ 90
 · rw [if_pos h]
   have e : (c + 32).toNat = c.toNat + 32 := by
    rw [UInt8.toNat_add]; show (c.toNat + 32) % 256 = _; omega
   constructor
   · rintro rfl; right; omega
   · intro h2; apply UInt8.toNat_inj.1; omega
 · rw [if_neg h]
   constructor
   · rintro rfl; left; rfl
   · intro h2; apply UInt8.toNat_inj.1; omega
end Mom
end Go.Proofs.YtdhbgelijjlifaaGreatDoor
namespace Go.Proofs.YtdhbgelijjlifaaGreatDoor
open Go.RowKit
theorem isD_yes {c : UInt8} (h : Mom.isD c = true) : 48 ≤ (c.toNat : Int) ∧ (c.toNat : Int) ≤ 57 := of_decide_eq_true h
theorem isD_no {c : UInt8} (h : Mom.isD c = false) : decide (48 ≤ (c.toNat : Int)) = false ∨ (48 ≤ (c.toNat : Int) ∧ decide ((c.toNat : Int) ≤ 57) = false) := by
 have := of_decide_eq_false h
 by_cases g : 48 ≤ (c.toNat : Int)
 · exact .inr ⟨g, decide_eq_false (fun g2 => this ⟨g, g2⟩)⟩
 · exact .inl (decide_eq_false g)
theorem take_byte (s : ByteArray) (k : Nat) (h : k < s.size) : s.data.toList.take (k + 1) = s.data.toList.take k ++ [s[k]] := by
 rw [List.take_succ_eq_append_getElem (by simpa using h)]; rfl
theorem ba_list {a : ByteArray} {l : List UInt8} (h : a.data.toList = l) : a = ⟨l.toArray⟩ := by
 cases a; congr 1; simp at h; rw [← h]
theorem ext_drop (s : ByteArray) (k : Nat) : s.extract k s.size = ⟨(s.data.toList.drop k).toArray⟩ := by
 apply ba_list
 rw [Lib.extract_data, List.take_of_length_le (by simp)]
theorem ext_take (s : ByteArray) (k : Nat) : s.extract 0 k = ⟨(s.data.toList.take k).toArray⟩ := by
 apply ba_list
 rw [Lib.extract_data, List.drop_zero, Nat.sub_zero]
def digV (l : List UInt8) (least k : Nat) : Value := .tuple #[.int .i64 (Mom.numOf (l.take k) : Nat), .string ⟨(l.drop k).toArray⟩, .bool (decide (least ≤ k))]
set_option maxRecDepth 100000 in
set_option maxHeartbeats 2000000 in
theorem digits_any (s : ByteArray) (least most k : Nat) (w : World) (hl : least ≤ 3) (hm : most ≤ 3) (hs : s.size ≤ maxLen) (hk : Mom.nD most s.data.toList = k) :
 Rets Tryz.prog 151 #[.string s, .int .i64 least, .int .i64 most] w (digV s.data.toList least k) := by
 unfold maxLen at hs
 have hle := Mom.nD_le most s.data.toList
 have hbd : ∀ j, j ≤ k → Mom.numOf (s.data.toList.take j) ≤ 999 := fun j hj => by
  have h := Mom.numOf_bd (s.data.toList.take j) 0 (fun c hc => Mom.nD_all most s.data.toList c (by
   have e : s.data.toList.take j = (s.data.toList.take (Mom.nD most s.data.toList)).take j := by rw [List.take_take, Nat.min_eq_left (by omega)]
   rw [e] at hc; exact List.mem_of_mem_take hc))
  have h2 : (s.data.toList.take j).length ≤ 3 := by rw [List.length_take]; omega
  have h3 : (10 : Nat) ^ (s.data.toList.take j).length ≤ 10 ^ 3 := Nat.pow_le_pow_right (by omega) h2
  unfold Mom.numOf; omega
 have hat : Hid (∀ j (h : j < s.size), j ≤ k → j < most → (Mom.isD s[j] = true → j + 1 ≤ k) ∧ (Mom.isD s[j] = false → k = j)) := fun j h h1 h2 => by
  have := Mom.nD_at most s.data.toList j (by simpa using h) (by omega) h2
  rw [hk] at this; exact this
 have HB := Lib.hid hbd
 rw [hk] at hle
 have hks : k ≤ s.size := by simpa using hle.2
 have hkm := hle.1
 clear hbd hk hle
 unfold Rets
 go_enter Tryz.func151, Tryz.ntmps151
 go_wp2
 go_loopw [9, 10] (fun n i wr => ∃ j : Nat, j ≤ k ∧ i = .int .i64 j ∧ n = .int .i64 (Mom.numOf (s.data.toList.take j) : Nat) ∧ Ext w wr) (fun _ i _ => s.size - (intOf i).toNat)
 case atStart => exact ⟨0, by omega, rfl, rfl, isext⟩
 case round =>
  obtain ⟨j, j1, rfl, rfl, hx⟩ := hrel
  obtain ⟨yr, rfl⟩ := fin hx
  clear hx
  have hnb := HB.out j j1
  by_cases c0 : j < s.size
  · by_cases c1 : j < most
    · cases c2 : Mom.isD s[j]
      · have e := (hat.out j c0 j1 c1).2 c2
        have E : Hid (digV s.data.toList least k = .tuple #[.int .i64 (Mom.numOf (s.data.toList.take j) : Nat), .string (s.extract j s.size), .bool (decide (least ≤ j))]) := by
         show _ = _; rw [e, ext_drop]; rfl
        have c3 := isD_no c2
        generalize Mom.numOf (s.data.toList.take j) = nn at *
        clear c2 e
        rcases c3 with c3 | ⟨c3, c4⟩
        all_goals
         go_wp2
         refine wp_region_past1 (by kernel_rfl) (by kernel_rfl) ?_
         repeat (go_big_quiet_step (fail))
         refine wpQuiet_nil ?_
         intro _
         go_wp2
         go_ret3
         exact ⟨by rw [E.out]; simp, done⟩
      · have e := (hat.out j c0 j1 c1).1 c2
        obtain ⟨c3, c4⟩ := isD_yes c2
        have E : Hid (((Mom.numOf (s.data.toList.take (j + 1)) : Nat) : Int) = (Mom.numOf (s.data.toList.take j) : Nat) * 10 + ((s[j].toNat : Int) - 48)) := by
         show _ = _
         rw [take_byte s j c0, Mom.numOf_snoc]; omega
        generalize Mom.numOf (s.data.toList.take j) = nn at *
        clear c2
        go_wp2
        go_roundw
        case rel => exact ⟨j + 1, by omega, by go_num, by rw [E.out], isext⟩
        case measure => simp [intOf]; omega
    · have e : k = j := by omega
      have E : Hid (digV s.data.toList least k = .tuple #[.int .i64 (Mom.numOf (s.data.toList.take j) : Nat), .string (s.extract j s.size), .bool (decide (least ≤ j))]) := by
       show _ = _; rw [e, ext_drop]; rfl
      generalize Mom.numOf (s.data.toList.take j) = nn at *
      clear e
      have c3 : decide ((j : Int) < most) = false := decide_eq_false (by omega)
      have c4 : decide (j < most) = false := decide_eq_false (by omega)
      go_wp2
      refine wp_region_past1 (by kernel_rfl) (by kernel_rfl) ?_
      repeat (go_big_quiet_step (fail))
      refine wpQuiet_nil ?_
      intro _
      go_wp2
      go_ret3
      exact ⟨by rw [E.out]; simp, done⟩
  · have e : k = j := by omega
    have E : Hid (digV s.data.toList least k = .tuple #[.int .i64 (Mom.numOf (s.data.toList.take j) : Nat), .string (s.extract j s.size), .bool (decide (least ≤ j))]) := by
     show _ = _; rw [e, ext_drop]; rfl
    generalize Mom.numOf (s.data.toList.take j) = nn at *
    clear e
    have c4 : decide (j < s.size) = false := decide_eq_false c0
    go_wp2
    refine wp_region_past1 (by kernel_rfl) (by kernel_rfl) ?_
    repeat (go_big_quiet_step (fail))
    refine wpQuiet_nil ?_
    intro _
    go_wp2
    go_ret3
    exact ⟨by rw [E.out]; simp, done⟩
end Go.Proofs.YtdhbgelijjlifaaGreatDoor
namespace Go.Proofs.YtdhbgelijjlifaaGreatDoor
open Go.RowKit
theorem lsz (l : List UInt8) : (⟨l.toArray⟩ : ByteArray).size = l.length := by show l.toArray.size = _; simp
theorem digits_list (l : List UInt8) (least most k : Nat) (w : World) (hl : least ≤ 3) (hm : most ≤ 3) (hs : l.length ≤ maxLen) (hk : Mom.nD most l = k) :
 Rets Tryz.prog 151 #[.string ⟨l.toArray⟩, .int .i64 least, .int .i64 most] w (digV l least k) :=
 digits_any ⟨l.toArray⟩ least most k w hl hm (by rw [lsz]; exact hs) hk
theorem cutpre_yes (c : UInt8) (r : List UInt8) (w : World) : Rets Tryz.prog 148 #[.string ⟨(c :: r).toArray⟩, .string ⟨#[c]⟩] w (.tuple #[.string ⟨r.toArray⟩, .bool true]) := by
 refine Calls.mono (Tryz.strings_CutPrefix ⟨(c :: r).toArray⟩ ⟨#[c]⟩ w) ?_
 rintro _ _ ⟨rfl, rfl⟩
 refine ⟨?_, done⟩
 simp [Lib.trimPrefix, Lib.hasPrefix]
theorem cutpre_no (c : UInt8) (l : List UInt8) (w : World) (h : ∀ r, l ≠ c :: r) : Rets Tryz.prog 148 #[.string ⟨l.toArray⟩, .string ⟨#[c]⟩] w (.tuple #[.string ⟨l.toArray⟩, .bool false]) := by
 refine Calls.mono (Tryz.strings_CutPrefix ⟨l.toArray⟩ ⟨#[c]⟩ w) ?_
 rintro _ _ ⟨rfl, rfl⟩
 refine ⟨?_, done⟩
 have hp : Lib.hasPrefix l [c] = false := by
  cases l with
  | nil => rfl
  | cons x l =>
    have hx : x ≠ c := fun e => h l (by rw [e])
    simp [Lib.hasPrefix, List.isPrefixOf, Ne.symm hx]
 simp [Lib.trimPrefix, hp]
def resV : Mom.Res → Value
 | none => .tuple #[.int .i64 0, .string ⟨#[]⟩, .bool false]
 | some (n, r) => .tuple #[.int .i64 n, .string ⟨r.toArray⟩, .bool true]
theorem num_2 (l : List UInt8) : Mom.numOf (l.take (Mom.nD 2 l)) ≤ 99 := by
 have h := Mom.num_bd 2 l
 have h2 : (10 : Nat) ^ Mom.nD 2 l ≤ 10 ^ 2 := Nat.pow_le_pow_right (by omega) (Mom.nD_le 2 l).1
 omega
theorem num_3 (l : List UInt8) : Mom.numOf (l.take (Mom.nD 3 l)) ≤ 999 := by
 have h := Mom.num_bd 3 l
 have h2 : (10 : Nat) ^ Mom.nD 3 l ≤ 10 ^ 3 := Nat.pow_le_pow_right (by omega) (Mom.nD_le 3 l).1
 omega
theorem more_no (neg : Bool) (u : Nat) (n : Int) (l : List UInt8) (h : ∀ r, l ≠ 58 :: r) : Mom.more neg u n l = Mom.done neg n l := by
 cases l with
 | nil => exact Mom.more_nil neg u n
 | cons x l => exact Mom.more_stop neg u n rfl (fun e => h l (by rw [e]))
set_option maxRecDepth 100000 in
set_option maxHeartbeats 4000000 in
theorem span_core (s : ByteArray) (neg : Bool) (l1 : List UInt8) (w : World) (hs : l1.length ≤ maxLen) (hcp : ∀ w, Rets Tryz.prog 148 #[.string s, .string ⟨#[45]⟩] w (.tuple #[.string ⟨l1.toArray⟩, .bool neg]))
 (hne : neg = true → l1 ≠ []) : Rets Tryz.prog 127 #[.string s] w (resV (Mom.bar neg l1)) := by
 have HC := fun w => Lib.hid (hcp w)
 have hbl : neg = true → ((⟨l1.toArray⟩ : ByteArray).toList.isEmpty = false ∧ ¬ (⟨l1.toArray⟩ : ByteArray).toList = []) := fun h => by
  have := hne h
  rw [ByteArray.toList_eq]; simp [this]
 have hbl2 : neg = true → l1.isEmpty = false ∧ ¬ l1 = [] := fun h => by
  have := hne h; simp [this]
 obtain ⟨k, hk⟩ : ∃ k, Mom.nD 3 l1 = k := ⟨_, rfl⟩
 have HD := fun w => Lib.hid (digits_list l1 1 3 k w (by omega) (by omega) hs hk)
 have hB : Hid (Mom.bar neg l1 = if k < 1 ∨ 167 < Mom.numOf (l1.take k) then none else Mom.more neg 2 ((Mom.numOf (l1.take k) : Nat) * 3600) (l1.drop k)) := by
  show _ = _; unfold Mom.bar; rw [hk]
 have hn3 : Mom.numOf (l1.take k) ≤ 999 := by rw [← hk]; exact num_3 l1
 have hlen : (l1.drop k).length ≤ maxLen := by rw [List.length_drop]; omega
 unfold digV at HD
 generalize Mom.numOf (l1.take k) = nn at *
 generalize l1.drop k = l2 at *
 clear hcp hk hs hne
 unfold Rets
 by_cases c0 : k < 1 ∨ 167 < nn
 · have E : Hid (resV (Mom.bar neg l1) = .tuple #[.int .i64 0, .string ⟨#[]⟩, .bool false]) := by show _ = _; rw [hB.out, if_pos c0]; rfl
   have c1 : decide (1 ≤ k) = false ∨ decide (1 ≤ k) = true ∧ 167 < nn := by
    by_cases d : k < 1
    · exact .inl (decide_eq_false (by omega))
    · exact .inr ⟨decide_eq_true (by omega), by omega⟩
   clear c0 hB
   cases neg
   · rcases c1 with c1 | ⟨c1, c2⟩
     all_goals
      go_enter Tryz.func127, Tryz.ntmps127
      go_wp2_with (first | (go_at_call 148; refine Rets.use (HC _).out ?_; intro _) | (go_at_call 151; refine Rets.use (HD _).out ?_; intro _))
      go_ret3
      exact ⟨by rw [E.out]; first | done | rfl, done⟩
   · obtain ⟨g1, g2⟩ := hbl rfl
     obtain ⟨g3, g4⟩ := hbl2 rfl
     rcases c1 with c1 | ⟨c1, c2⟩
     all_goals
      go_enter Tryz.func127, Tryz.ntmps127
      go_wp2_with (first | (go_at_call 148; refine Rets.use (HC _).out ?_; intro _) | (go_at_call 151; refine Rets.use (HD _).out ?_; intro _))
      go_ret3
      exact ⟨by rw [E.out]; first | done | rfl, done⟩
 · have B : Hid (Mom.bar neg l1 = Mom.more neg 2 ((nn : Int) * 3600) l2) := by show _ = _; rw [hB.out, if_neg c0]
   have c1 : decide (1 ≤ k) = true := decide_eq_true (by omega)
   have c2 : decide ((167 : Int) < nn) = false := decide_eq_false (by omega)
   have c3 : nn ≤ 167 := by omega
   clear c0 hB
   have hneg : neg = false ∨ (neg = true ∧ ((⟨l1.toArray⟩ : ByteArray).toList.isEmpty = false ∧ ¬ (⟨l1.toArray⟩ : ByteArray).toList = []) ∧ (l1.isEmpty = false ∧ ¬ l1 = [])) := by
    cases neg
    · exact .inl rfl
    · exact .inr ⟨rfl, hbl rfl, hbl2 rfl⟩
   clear hbl hbl2
   rcases hneg with rfl | ⟨rfl, ⟨g1, g2⟩, g3, g4⟩
   all_goals
    go_enter Tryz.func127, Tryz.ntmps127
    go_wp2_with (first | (go_at_call 148; refine Rets.use (HC _).out ?_; intro _) | (go_at_call 151; refine Rets.use (HD _).out ?_; intro _))
    go_loopw [0, 6, 8] (fun sv nv uv wr => ∃ (u : Nat) (U n : Int) (l : List UInt8), (u = 2 ∧ U = 60 ∨ u = 1 ∧ U = 1 ∨ u = 0 ∧ U = 0) ∧ uv = .int .i64 U ∧ nv = .int .i64 n ∧ sv = .string ⟨l.toArray⟩ ∧ 0 ≤ n ∧ n ≤ 601200 + 6000 * (2 - (u : Int)) ∧ l.length ≤ maxLen ∧ Hid (∀ neg, Mom.bar neg l1 = Mom.more neg 2 ((nn : Int) * 3600) l2 → Mom.bar neg l1 = Mom.more neg u n l) ∧ Ext w wr) (fun _ _ uv _ => (intOf uv).toNat)
    case atStart => exact ⟨2, 60, _, _, .inl ⟨rfl, rfl⟩, rfl, rfl, rfl, by omega, by omega, hlen, fun _ h => h, isext⟩
    case round =>
     obtain ⟨u, U, n, l, hu, rfl, rfl, rfl, n0, n1, hl, HM, hx⟩ := hrel
     obtain ⟨yr, rfl⟩ := fin hx
     clear hx
     have M := Lib.hid (HM.out _ B.out)
     by_cases hs : ∃ r, l = 58 :: r
     · obtain ⟨r, rfl⟩ := hs
       obtain ⟨k2, hk2⟩ : ∃ k2, Mom.nD 2 r = k2 := ⟨_, rfl⟩
       have hr : r.length ≤ maxLen := by simp at hl; omega
       have HC2 := fun w => Lib.hid (cutpre_yes 58 r w)
       have HD2 := fun w => Lib.hid (digits_list r 2 2 k2 w (by omega) (by omega) hr hk2)
       have hn2 := num_2 r
       have hl3 : (r.drop k2).length ≤ maxLen := by rw [List.length_drop]; omega
       have MM : Hid (∀ neg v, Mom.more neg (v + 1) n (58 :: r) = if k2 < 2 ∨ 59 < Mom.numOf (r.take k2) then none else Mom.more neg v (n + (Mom.numOf (r.take k2) : Nat) * Mom.unitOf (v + 1)) (r.drop k2)) := fun neg v => by
        simp only [Mom.more]; rw [hk2]
       unfold digV at HD2
       rw [hk2] at hn2
       generalize Mom.numOf (r.take k2) = m2 at *
       generalize r.drop k2 = r2 at *
       clear hk2
       by_cases c9 : k2 < 2 ∨ 59 < m2
       · have c8 : decide (2 ≤ k2) = false ∨ decide (2 ≤ k2) = true ∧ 59 < m2 := by
          by_cases d : k2 < 2
          · exact .inl (decide_eq_false (by omega))
          · exact .inr ⟨decide_eq_true (by omega), by omega⟩
         rcases hu with ⟨rfl, rfl⟩ | ⟨rfl, rfl⟩ | ⟨rfl, rfl⟩
         · have E := Lib.hid (M.out.trans ((MM.out _ 1).trans (if_pos c9)))
           clear c9
           rcases c8 with c8 | ⟨c8, c7⟩
           all_goals
            go_wp2_with (first | (go_at_call 148; refine Rets.use (HC2 _).out ?_; intro _) | (go_at_call 151; refine Rets.use (HD2 _).out ?_; intro _))
            go_ret3
            exact ⟨by rw [E.out]; first | done | rfl, done⟩
         · have E := Lib.hid (M.out.trans ((MM.out _ 0).trans (if_pos c9)))
           clear c9
           rcases c8 with c8 | ⟨c8, c7⟩
           all_goals
            go_wp2_with (first | (go_at_call 148; refine Rets.use (HC2 _).out ?_; intro _) | (go_at_call 151; refine Rets.use (HD2 _).out ?_; intro _))
            go_ret3
            exact ⟨by rw [E.out]; first | done | rfl, done⟩
         · have E := Lib.hid (M.out.trans (rfl : Mom.more _ 0 n (58 :: r) = Mom.done _ n (58 :: r)))
           clear c9 c8
           go_wp2
           go_ret3
           exact ⟨by rw [E.out]; first | done | rfl, done⟩
       · have c8 : decide (2 ≤ k2) = true := decide_eq_true (by omega)
         have c7 : decide ((59 : Int) < m2) = false := decide_eq_false (by omega)
         rcases hu with ⟨rfl, rfl⟩ | ⟨rfl, rfl⟩ | ⟨rfl, rfl⟩
         · have E : Hid (∀ neg, Mom.bar neg l1 = Mom.more neg 2 ((nn : Int) * 3600) l2 → Mom.bar neg l1 = Mom.more neg 1 (n + (m2 : Int) * 60) r2) := fun neg h => (HM.out neg h).trans ((MM.out neg 1).trans (if_neg c9))
           clear c9
           go_wp2_with (first | (go_at_call 148; refine Rets.use (HC2 _).out ?_; intro _) | (go_at_call 151; refine Rets.use (HD2 _).out ?_; intro _))
           go_roundw
           case rel => exact ⟨1, 1, _, r2, .inr (.inl ⟨rfl, rfl⟩), by first | rfl | go_num, rfl, rfl, by omega, by omega, hl3, E, isext⟩
           case measure => simp [intOf]
         · have E : Hid (∀ neg, Mom.bar neg l1 = Mom.more neg 2 ((nn : Int) * 3600) l2 → Mom.bar neg l1 = Mom.more neg 0 (n + (m2 : Int)) r2) := fun neg h => (HM.out neg h).trans ((MM.out neg 0).trans ((if_neg c9).trans (by rw [show Mom.unitOf (0 + 1) = 1 from rfl, Int.mul_one])))
           clear c9
           go_wp2_with (first | (go_at_call 148; refine Rets.use (HC2 _).out ?_; intro _) | (go_at_call 151; refine Rets.use (HD2 _).out ?_; intro _))
           go_roundw
           case rel => exact ⟨0, 0, _, r2, .inr (.inr ⟨rfl, rfl⟩), by first | rfl | go_num, rfl, rfl, by omega, by omega, hl3, E, isext⟩
           case measure => simp [intOf]
         · have E := Lib.hid (M.out.trans (rfl : Mom.more _ 0 n (58 :: r) = Mom.done _ n (58 :: r)))
           clear c9
           go_wp2
           go_ret3
           exact ⟨by rw [E.out]; first | done | rfl, done⟩
     · have hs' : ∀ r, l ≠ 58 :: r := fun r e => hs ⟨r, e⟩
       have HC2 := fun w => Lib.hid (cutpre_no 58 l w hs')
       have E := Lib.hid (M.out.trans (more_no _ u n l hs'))
       clear hs hs'
       rcases hu with ⟨rfl, rfl⟩ | ⟨rfl, rfl⟩ | ⟨rfl, rfl⟩
       all_goals
        go_wp2_with (first | (go_at_call 148; refine Rets.use (HC2 _).out ?_; intro _))
        go_ret3
        exact ⟨by rw [E.out]; first | done | rfl, done⟩
end Go.Proofs.YtdhbgelijjlifaaGreatDoor
namespace Go.Proofs.YtdhbgelijjlifaaGreatDoor
open Go Go.RowKit
section
variable {P : Program} {t k e : TypeId}
theorem heap_new_get (w0 : World) (o : Obj) : (w0.alloc o).heap[w0.heap.size]? = some o := World.alloc_heap_new w0 o
theorem heap_new_set (w0 : World) (o o' : Obj) : ({ (w0.alloc o) with heap := (w0.alloc o).heap.setIfInBounds w0.heap.size o' } : World) = w0.alloc o' := by
 have h : (w0.heap.push o).setIfInBounds w0.heap.size o' = w0.heap.push o' := by
  apply Array.ext_getElem?
  intro i
  rw [Array.getElem?_setIfInBounds, Array.getElem?_push, Array.getElem?_push]
  by_cases c : w0.heap.size = i
  · rw [if_pos c, if_pos (by rw [Array.size_push]; omega), if_pos c.symm]
  · rw [if_neg c, if_neg (Ne.symm c), if_neg (Ne.symm c)]
 show ({ w0 with heap := (w0.heap.push o).setIfInBounds w0.heap.size o' } : World) = { w0 with heap := w0.heap.push o' }
 rw [h]
theorem find_run (hk : P.underlying k = some .string) (w : World) (key : Value) (es : List MapEntry) (r : Option (Nat × Value)) (hf : Instr.findNow .string key es 0 = some r) :
 (Instr.findKey k key es).run P w = .ok r w := by
 simp [Instr.findKey, run_underlying hk, hf, Result.andThen]
theorem check_run (hk : P.underlying k = some .string) (w : World) (b : Bool) (s : ByteArray) : (Instr.checkKey b 10000 k (.string s)).run P w = .ok () w :=
 MapKept.run_checkKey hk (by trivial) b 9999
theorem put_new (ht : P.underlying t = some (.map k e)) (hk : P.underlying k = some .string) (w0 : World) (es : Array MapEntry) (clock : Nat) (key : ByteArray) (v : Value)
 (hf : Instr.findNow .string (.string key) es.toList 0 = some none) :
 (Instr.mapUpdate t (.map (some w0.heap.size)) (.string key) v).run P (w0.alloc (.map es clock)) = .ok () (w0.alloc (.map (es.push ⟨.string key, v, clock⟩) (clock + 1))) := by
 have h1 := heap_new_get w0 (.map es clock)
 have h2 := fun w => find_run (P := P) hk w (.string key) es.toList none hf
 simp [Instr.mapUpdate, run_underlying ht, MapKept.run_getObj_map h1, check_run hk, h2, MapKept.run_setObj_map _ h1, Result.andThen]
 exact heap_new_set w0 _ _
def foundV (z : Value) : Option (Nat × Value) → Value
 | some (_, v) => v
 | none => z
theorem look_new (ht : P.underlying t = some (.map k e)) (hk : P.underlying k = some .string) (w0 : World) (es : Array MapEntry) (clock : Nat) (key : ByteArray) (z : Value) (hz : ∀ w, (zeroValue e).run P w = .ok z w) (r : Option (Nat × Value))
 (hf : Instr.findNow .string (.string key) es.toList 0 = some r) :
 (Instr.lookup t (.map (some w0.heap.size)) (.string key) true).run P (w0.alloc (.map es clock)) = .ok (.tuple #[foundV z r, .bool r.isSome]) (w0.alloc (.map es clock)) := by
 have h1 := heap_new_get w0 (.map es clock)
 have h2 := fun w => find_run (P := P) hk w (.string key) es.toList r hf
 cases r with
 | none => simp [Instr.lookup, run_underlying ht, MapKept.run_getObj_map h1, check_run hk, h2, hz, Result.andThen, foundV]
 | some r => simp [Instr.lookup, run_underlying ht, MapKept.run_getObj_map h1, check_run hk, h2, hz, Result.andThen, foundV]
end
end Go.Proofs.YtdhbgelijjlifaaGreatDoor
namespace Go.Proofs.YtdhbgelijjlifaaGreatDoor
open Go.RowKit
theorem span_any (l : List UInt8) (w : World) (hs : l.length ≤ maxLen) : Rets Tryz.prog 127 #[.string ⟨l.toArray⟩] w (resV (Mom.span l)) := by
 by_cases h : ∃ r, l = 45 :: r
 · obtain ⟨r, rfl⟩ := h
   have hr : r.length ≤ maxLen := by simp at hs; omega
   by_cases h0 : r = []
   · subst h0
     have HC := fun w => Lib.hid (cutpre_yes 45 [] w)
     have E : Hid (resV (Mom.span [45]) = .tuple #[.int .i64 0, .string ⟨#[]⟩, .bool true]) := rfl
     unfold Rets
     go_enter Tryz.func127, Tryz.ntmps127
     go_wp2_with (first | (go_at_call 148; refine Rets.use (HC _).out ?_; intro _))
     go_ret3
     exact ⟨by rw [E.out]; first | done | rfl, done⟩
   · have e : Mom.span (45 :: r) = Mom.bar true r := by show (if r = [] then _ else _) = _; rw [if_neg h0]
     rw [e]
     exact span_core _ true r w hr (fun w => cutpre_yes 45 r w) (fun _ => h0)
 · have h' : ∀ r, l ≠ 45 :: r := fun r e => h ⟨r, e⟩
   have e : Mom.span l = Mom.bar false l := by
    unfold Mom.span; split
    · rename_i r; exact absurd rfl (h' r)
    · rfl
   rw [e]
   exact span_core _ false l w hs (fun w => cutpre_no 45 l w h') (fun h => by cases h)
abbrev refEs : Array MapEntry := #[⟨.string ⟨#[]⟩, .int .i64 0, 0⟩, ⟨.string ⟨#[119]⟩, .int .i64 0, 1⟩, ⟨.string ⟨#[115]⟩, .int .i64 1, 2⟩, ⟨.string ⟨#[117]⟩, .int .i64 2, 3⟩, ⟨.string ⟨#[103]⟩, .int .i64 2, 4⟩, ⟨.string ⟨#[122]⟩, .int .i64 2, 5⟩]
theorem list_beq (l m : List UInt8) : ((⟨l.toArray⟩ : ByteArray) == ⟨m.toArray⟩) = decide (l = m) := by
 rw [beq_toListBytes, Lib.toList_data, Lib.toList_data, Bool.eq_iff_iff, beq_iff_eq, decide_eq_true_eq]
theorem find_ref (l : List UInt8) : ∃ r, Instr.findNow .string (.string ⟨l.toArray⟩) refEs.toList 0 = some r ∧ foundV (.int .i64 0) r = .int .i64 ((Mom.refOf l).getD 0) ∧ r.isSome = (Mom.refOf l).isSome := by
 have e : ∀ m : List UInt8, ((⟨l.toArray⟩ : ByteArray) == ⟨m.toArray⟩) = decide (l = m) := list_beq l
 by_cases h0 : l = []
 · subst h0; exact ⟨_, rfl, rfl, rfl⟩
 by_cases h1 : l = [119]
 · subst h1; exact ⟨_, rfl, rfl, rfl⟩
 by_cases h2 : l = [115]
 · subst h2; exact ⟨_, rfl, rfl, rfl⟩
 by_cases h3 : l = [117]
 · subst h3; exact ⟨_, rfl, rfl, rfl⟩
 by_cases h4 : l = [103]
 · subst h4; exact ⟨_, rfl, rfl, rfl⟩
 by_cases h5 : l = [122]
 · subst h5; exact ⟨_, rfl, rfl, rfl⟩
 have hr : Mom.refOf l = none := by simp [Mom.refOf, h0, h1, h2, h3, h4, h5]
 refine ⟨none, ?_, by rw [hr]; rfl, by rw [hr]; rfl⟩
 have f0 := e []; have f1 := e [119]; have f2 := e [115]; have f3 := e [117]; have f4 := e [103]; have f5 := e [122]
 rw [decide_eq_false h0] at f0; rw [decide_eq_false h1] at f1; rw [decide_eq_false h2] at f2; rw [decide_eq_false h3] at f3; rw [decide_eq_false h4] at f4; rw [decide_eq_false h5] at f5
 simp only [Instr.findNow, Instr.sameNow, refEs]
 simp only [f0, f1, f2, f3, f4, f5]
def clockV : Option (Int × Int) → Value
 | none => .tuple #[.int .i64 0, .int .i64 0, .int .i64 6]
 | some (n, r) => .tuple #[.int .i64 n, .int .i64 r, .int .i64 0]
set_option maxRecDepth 100000 in
set_option maxHeartbeats 2000000 in
theorem clock_any (l : List UInt8) (w : World) (hs : l.length ≤ maxLen) : Rets Tryz.prog 126 #[.string ⟨l.toArray⟩] w (clockV (Mom.clockP l)) := by
 have p0 := fun w0 : World => put_new (P := Tryz.prog) Tryz.underlying178 Tryz.underlying9 w0 #[] 0 ⟨#[]⟩ (.int .i64 0) rfl
 have p1 := fun w0 : World => put_new (P := Tryz.prog) Tryz.underlying178 Tryz.underlying9 w0 #[⟨.string ⟨#[]⟩, .int .i64 0, 0⟩] 1 ⟨#[119]⟩ (.int .i64 0) rfl
 have p2 := fun w0 : World => put_new (P := Tryz.prog) Tryz.underlying178 Tryz.underlying9 w0 #[⟨.string ⟨#[]⟩, .int .i64 0, 0⟩, ⟨.string ⟨#[119]⟩, .int .i64 0, 1⟩] 2 ⟨#[115]⟩ (.int .i64 1) rfl
 have p3 := fun w0 : World => put_new (P := Tryz.prog) Tryz.underlying178 Tryz.underlying9 w0 #[⟨.string ⟨#[]⟩, .int .i64 0, 0⟩, ⟨.string ⟨#[119]⟩, .int .i64 0, 1⟩, ⟨.string ⟨#[115]⟩, .int .i64 1, 2⟩] 3 ⟨#[117]⟩ (.int .i64 2) rfl
 have p4 := fun w0 : World => put_new (P := Tryz.prog) Tryz.underlying178 Tryz.underlying9 w0 #[⟨.string ⟨#[]⟩, .int .i64 0, 0⟩, ⟨.string ⟨#[119]⟩, .int .i64 0, 1⟩, ⟨.string ⟨#[115]⟩, .int .i64 1, 2⟩, ⟨.string ⟨#[117]⟩, .int .i64 2, 3⟩] 4 ⟨#[103]⟩ (.int .i64 2) rfl
 have p5 := fun w0 : World => put_new (P := Tryz.prog) Tryz.underlying178 Tryz.underlying9 w0 #[⟨.string ⟨#[]⟩, .int .i64 0, 0⟩, ⟨.string ⟨#[119]⟩, .int .i64 0, 1⟩, ⟨.string ⟨#[115]⟩, .int .i64 1, 2⟩, ⟨.string ⟨#[117]⟩, .int .i64 2, 3⟩, ⟨.string ⟨#[103]⟩, .int .i64 2, 4⟩] 5 ⟨#[122]⟩ (.int .i64 2) rfl
 simp only [List.push_toArray, List.nil_append, List.cons_append, Nat.reduceAdd] at p0 p1 p2 p3 p4 p5
 have hmm := @run_makeMap Tryz.prog
 have HS := fun w => Lib.hid (span_any l w hs)
 cases hr : Mom.span l with
 | none =>
   have E : Hid (clockV (Mom.clockP l) = .tuple #[.int .i64 0, .int .i64 0, .int .i64 6]) := by show _ = _; unfold Mom.clockP; rw [hr]; rfl
   rw [hr] at HS
   unfold resV at HS
   obtain ⟨r, hf, hv, hb⟩ := find_ref []
   have lk := fun w0 : World => look_new (P := Tryz.prog) Tryz.underlying178 Tryz.underlying9 w0 refEs 6 ⟨#[]⟩ (.int .i64 0) (fun w => Tryz.zeroValue3 w) r hf
   rw [hv, hb] at lk
   have e2 : Mom.refOf [] = some 0 := rfl
   rw [e2] at lk
   simp only [Option.getD_some, Option.isSome_some] at lk
   clear hr hs hv hb hf e2
   unfold Rets
   go_enter Tryz.func126, Tryz.ntmps126
   go_wp2_with (first | (go_at_call 127; refine Rets.use (HS _).out ?_; intro _))
   go_ret3
   exact ⟨by rw [E.out]; first | done | rfl, done⟩
 | some x =>
   obtain ⟨n, rest⟩ := x
   rw [hr] at HS
   unfold resV at HS
   obtain ⟨r, hf, hv, hb⟩ := find_ref rest
   have lk := fun w0 : World => look_new (P := Tryz.prog) Tryz.underlying178 Tryz.underlying9 w0 refEs 6 ⟨rest.toArray⟩ (.int .i64 0) (fun w => Tryz.zeroValue3 w) r hf
   rw [hv, hb] at lk
   clear hv hb hf
   cases hx : Mom.refOf rest with
   | none =>
     have E : Hid (clockV (Mom.clockP l) = .tuple #[.int .i64 0, .int .i64 0, .int .i64 6]) := by show _ = _; unfold Mom.clockP; rw [hr]; simp only [hx]; rfl
     rw [hx] at lk
     simp only [Option.getD_none, Option.isSome_none] at lk
     clear hr hs hx
     unfold Rets
     go_enter Tryz.func126, Tryz.ntmps126
     go_wp2_with (first | (go_at_call 127; refine Rets.use (HS _).out ?_; intro _))
     go_ret3
     exact ⟨by rw [E.out]; first | done | rfl, done⟩
   | some ref =>
     have E : Hid (clockV (Mom.clockP l) = .tuple #[.int .i64 n, .int .i64 ref, .int .i64 0]) := by show _ = _; unfold Mom.clockP; rw [hr]; simp only [hx]; rfl
     rw [hx] at lk
     simp only [Option.getD_some, Option.isSome_some] at lk
     clear hr hs hx
     unfold Rets
     go_enter Tryz.func126, Tryz.ntmps126
     go_wp2_with (first | (go_at_call 127; refine Rets.use (HS _).out ?_; intro _))
     go_ret3
     exact ⟨by rw [E.out]; first | done | rfl, done⟩
def offR (o : Option Int) : Int × Int := match o with
 | none => (0, 6)
 | some n => if n ≤ -86400 ∨ 86400 ≤ n then (0, 11) else (n, 0)
set_option maxHeartbeats 2000000 in
theorem offset_any (l : List UInt8) (w : World) (hs : l.length ≤ maxLen) : Rets Tryz.prog 112 #[.string ⟨l.toArray⟩] w (.tuple #[.int .i64 (offR (Mom.spanR l)).1, .int .i64 (offR (Mom.spanR l)).2]) := by
 have HS := fun w => Lib.hid (span_any l w hs)
 cases hr : Mom.span l with
 | none =>
   have e : Mom.spanR l = none := by
    cases he : Mom.spanR l with
    | none => rfl
    | some k => rw [(Mom.span_eq _ _).2 he] at hr; cases hr
   rw [hr] at HS; rw [e]
   unfold resV at HS
   clear hr hs e
   unfold Rets
   go_enter Tryz.func112, Tryz.ntmps112
   go_wp2_with (first | (go_at_call 127; refine Rets.use (HS _).out ?_; intro _))
   go_ret2
   exact ⟨rfl, done⟩
 | some x =>
   obtain ⟨n, rest⟩ := x
   rw [hr] at HS
   unfold resV at HS
   by_cases h0 : rest = []
   · subst h0
     have e : Mom.spanR l = some n := (Mom.span_eq _ _).1 hr
     rw [e]
     clear hr hs e
     by_cases c : n ≤ -86400 ∨ 86400 ≤ n
     · have E : Hid (offR (some n) = (0, 11)) := if_pos c
       unfold Rets
       rcases c with c | c
       · go_enter Tryz.func112, Tryz.ntmps112
         go_wp2_with (first | (go_at_call 127; refine Rets.use (HS _).out ?_; intro _))
         go_ret2
         exact ⟨by rw [E.out]; first | done | rfl, done⟩
       · have c' : decide (n ≤ -86400) = false := decide_eq_false (by omega)
         go_enter Tryz.func112, Tryz.ntmps112
         go_wp2_with (first | (go_at_call 127; refine Rets.use (HS _).out ?_; intro _))
         go_ret2
         exact ⟨by rw [E.out]; first | done | rfl, done⟩
     · have E : Hid (offR (some n) = (n, 0)) := if_neg c
       have c' : decide (n ≤ -86400) = false := decide_eq_false (by omega)
       have c2 : decide (86400 ≤ n) = false := decide_eq_false (by omega)
       clear c
       unfold Rets
       go_enter Tryz.func112, Tryz.ntmps112
       go_wp2_with (first | (go_at_call 127; refine Rets.use (HS _).out ?_; intro _))
       go_ret2
       exact ⟨by rw [E.out]; first | done | rfl, done⟩
   · have e : Mom.spanR l = none := by
      cases he : Mom.spanR l with
      | none => rfl
      | some k => rw [(Mom.span_eq _ _).2 he] at hr; cases hr; exact absurd rfl h0
     rw [e]
     have g1 : (⟨rest.toArray⟩ : ByteArray).toList.isEmpty = false ∧ ¬ (⟨rest.toArray⟩ : ByteArray).toList = [] := by rw [ByteArray.toList_eq]; simp [h0]
     have g2 : rest.isEmpty = false := by simp [h0]
     obtain ⟨g3, g4⟩ := g1
     clear hr hs e
     unfold Rets
     go_enter Tryz.func112, Tryz.ntmps112
     go_wp2_with (first | (go_at_call 127; refine Rets.use (HS _).out ?_; intro _))
     go_ret2
     exact ⟨rfl, done⟩
end Go.Proofs.YtdhbgelijjlifaaGreatDoor
namespace Go.Proofs.YtdhbgelijjlifaaGreatDoor
open Go.RowKit
def turned (l : List UInt8) (j i : Nat) : UInt8 := if i < j then Mom.lowC (l.getD i 0) else l.getD i 0
theorem turned_at (l : List UInt8) (j : Nat) : turned l j j = l.getD j 0 := by unfold turned; rw [if_neg (by omega)]
theorem turned_next (l : List UInt8) (j i : Nat) : turned l (j + 1) i = if i = j then Mom.lowC (l.getD j 0) else turned l j i := by
 unfold turned
 by_cases h : i = j
 · subst h; rw [if_pos (by omega), if_pos rfl]
 · rw [if_neg h]
   by_cases h2 : i < j
   · rw [if_pos (by omega), if_pos h2]
   · rw [if_neg (by omega), if_neg h2]
theorem lowC_nat (c : UInt8) : ((Mom.lowC c).toNat : Int) = if 65 ≤ (c.toNat : Int) ∧ (c.toNat : Int) ≤ 90 then (c.toNat : Int) + 32 else c.toNat := by
 unfold Mom.lowC
 by_cases h : 65 ≤ c.toNat ∧ c.toNat ≤ 90
 · rw [if_pos h, if_pos (by omega)]
   have : (c + 32).toNat = c.toNat + 32 := by
    rw [UInt8.toNat_add]; show (c.toNat + 32) % 256 = _; omega
   omega
 · rw [if_neg h, if_neg (by omega)]
def RowIs (W : World) (B : Nat) (l : List UInt8) (j : Nat) : Prop := ∀ i, i < l.length → W.cell? ⟨B, i, none⟩ = some (.int .u8 (turned l j i).toNat) ∧ W.frozen? ⟨B, i, none⟩ = false
theorem RowIs.past {W : World} {B : Nat} {l : List UInt8} {j : Nat} (h : RowIs W B l j) (hB : B < W.heap.size) (y : Past W) : RowIs y.x B l j := fun i hi => by
 haveI : InW B W := ⟨hB⟩
 have := h i hi
 exact ⟨by rw [Past.cell?]; exact this.1, by rw [Past.frozen?]; exact this.2⟩
theorem RowIs.next {W : World} {B : Nat} {l : List UInt8} {j : Nat} (h : RowIs W B l j) (hj : j < l.length) (v : Int) (hv : v = ((Mom.lowC (l.getD j 0)).toNat : Int)) : RowIs (W.setCell ⟨B, j, none⟩ (.int .u8 v)) B l (j + 1) := fun i hi => by
 subst hv
 refine ⟨?_, by rw [World.frozen?_setCell]; exact (h i hi).2⟩
 rw [turned_next]
 by_cases e : i = j
 · subst e
   rw [if_pos rfl]
   exact World.cell?_setCell_same W _ _ (h i hi).1
 · rw [if_neg e, World.cell?_setCell_other (w := W) (a := ⟨B, j, none⟩) (b := ⟨B, i, none⟩) _ (by intro e2; injection e2 with _ e3; exact e e3.symm)]
   exact (h i hi).1
theorem RowIs.keep {W : World} {B : Nat} {l : List UInt8} {j : Nat} (h : RowIs W B l j) (hj : Mom.lowC (l.getD j 0) = l.getD j 0) : RowIs W B l (j + 1) := fun i hi => by
 have := h i hi
 rw [turned_next]
 by_cases e : i = j
 · subst e; rw [if_pos rfl, hj, ← turned_at l i]; exact this
 · rw [if_neg e]; exact this
theorem low_all (l : List UInt8) (i : Nat) (h : i < (Mom.low l).length) : (Mom.low l)[i] = turned l l.length i := by
 have h2 : i < l.length := by simpa [Mom.low] using h
 unfold turned
 rw [if_pos h2]
 simp [Mom.low, h2]
set_option maxRecDepth 100000 in
set_option maxHeartbeats 2000000 in
theorem lower_any (l : List UInt8) (w : World) (hs : l.length ≤ maxLen) : Rets Tryz.prog 167 #[.string ⟨l.toArray⟩] w (.string ⟨(Mom.low l).toArray⟩) := by
 obtain ⟨n, hn⟩ : ∃ n, l.length = n := ⟨_, rfl⟩
 obtain ⟨cap, hcap⟩ : ∃ c, grownCap w (⟨l.toArray⟩ : ByteArray).size 0 5 = c := ⟨_, rfl⟩
 have hconv := run_bytes_of_string (P := Tryz.prog) w 9 71 5 ⟨l.toArray⟩ Tryz.underlying9 Tryz.underlying71 Tryz.underlying5
 have hge := grownCap_ge w (⟨l.toArray⟩ : ByteArray).size 0 5
 rw [hcap] at hconv hge
 rw [lsz, hn] at hconv hge
 obtain ⟨fz, hfz⟩ : ∃ f, (bytesRow ⟨l.toArray⟩ cap).size = f := ⟨_, rfl⟩
 have hfn : n ≤ fz := by rw [← hfz]; unfold bytesRow; simp; omega
 rw [hfz] at hconv
 have hrow : ∀ j, j < n → (bytesRow ⟨l.toArray⟩ cap)[j]? = some (.int .u8 (l.getD j 0).toNat) := fun j hj => by
  rw [bytesRow_at _ _ _ (by simp; omega)]
  simp [List.getD, List.getElem?_eq_getElem (show j < l.length by omega)]
 generalize bytesRow ⟨l.toArray⟩ cap = C at *
 have R0 : Hid (RowIs (w.drew.alloc (.cells C 5 (fz, fz + 1))) w.heap.size l 0) := fun i hi => by
  have c1 := World.cell?_alloc_mark w.drew C 5 (fz, fz + 1) i
  have c2 := World.frozen?_alloc_mark w.drew C 5 fz (fz + 1) i
  refine ⟨?_, ?_⟩
  · refine c1.trans ?_
    rw [hrow i (by omega)]
    unfold turned; rw [if_neg (by omega)]
  · refine c2.trans ?_
    rw [show decide (fz ≤ i) = false from decide_eq_false (by omega)]; rfl
 have hback : Hid (∀ W : World, RowIs W w.heap.size l n → (convert 71 9 (.slice (some ⟨w.heap.size, 0, none⟩) n cap)).run Tryz.prog W = .ok (.string ⟨(Mom.low l).toArray⟩) W) := fun W hW => by
  have hlen : (Mom.low l).length = n := by simp [Mom.low, hn]
  have := run_convert_bytes_back (P := Tryz.prog) W 71 9 5 ⟨w.heap.size, 0, none⟩ cap (Mom.low l) Tryz.underlying71 Tryz.underlying5 Tryz.underlying9 (fun j hj => by
   have hadd : (⟨w.heap.size, 0, none⟩ : Addr).add j = ⟨w.heap.size, j, none⟩ := by unfold Addr.add; split <;> simp_all
   rw [hadd, (hW j (by omega)).1, low_all l j hj, hn])
  rw [hlen] at this; exact this
 have HN := Lib.hid hn
 have hs' : n ≤ 9223372036854775807 := by unfold maxLen at hs; omega
 clear hcap hfz hrow hn hs
 unfold Rets
 go_enter Tryz.func167, Tryz.ntmps167
 go_wp2
 go_loopw [10] (fun i wr => ∃ j : Nat, j ≤ n ∧ i = .int .i64 j ∧ Hid (RowIs wr w.heap.size l j) ∧ w.heap.size < wr.heap.size ∧ Ext w wr) (fun i _ => n - (intOf i).toNat)
 case atStart => exact ⟨0, by omega, rfl, R0, by simp, isext⟩
 case round =>
  obtain ⟨j, j1, rfl, hr, hB, hx⟩ := hrel
  obtain ⟨yr, rfl⟩ := fin hx
  clear hx
  by_cases c0 : j < n
  · have hjl : j < l.length := by rw [HN.out]; exact c0
    obtain ⟨f1, f2⟩ := hr.out j hjl
    rw [turned_at] at f1
    have K := Lib.hid (fun v hv => hr.out.next hjl v hv)
    have K2 := Lib.hid (fun hv => hr.out.keep hv)
    have LC := Lib.hid (lowC_nat (l.getD j 0))
    generalize l.getD j 0 = c at *
    have hc9 : c.toNat < 256 := c.toNat_lt
    by_cases d1 : 65 ≤ (c.toNat : Int)
    · by_cases d2 : (c.toNat : Int) ≤ 90
      · go_wp2
        go_roundw
        case rel => exact ⟨j + 1, by omega, by go_num, K.out _ (by rw [LC.out, if_pos ⟨d1, d2⟩]), by simpa using hB, isext⟩
        case measure => simp [intOf]; omega
      · have d3 : decide ((c.toNat : Int) ≤ 90) = false := decide_eq_false d2
        go_wp2
        go_roundw
        case rel => exact ⟨j + 1, by omega, by go_num, K2.out (UInt8.toNat_inj.1 (by have := LC.out; rw [if_neg (fun h => d2 h.2)] at this; omega)), hB, isext⟩
        case measure => simp [intOf]; omega
    · have d3 : decide (65 ≤ (c.toNat : Int)) = false := decide_eq_false d1
      go_wp2
      go_roundw
      case rel => exact ⟨j + 1, by omega, by go_num, K2.out (UInt8.toNat_inj.1 (by have := LC.out; rw [if_neg (fun h => d1 h.1)] at this; omega)), hB, isext⟩
      case measure => simp [intOf]; omega
  · obtain rfl : j = n := by omega
    have hb2 := hback.out _ hr.out
    go_wp2
    go_ret
    exact ⟨rfl, done⟩
end Go.Proofs.YtdhbgelijjlifaaGreatDoor
namespace Go.Proofs.YtdhbgelijjlifaaGreatDoor
namespace Mom
theorem low_len (s : List UInt8) : (low s).length = s.length := by simp [low]
theorem low_at (s : List UInt8) (j : Nat) (h : j < s.length) : (low s)[j]'(by rw [low_len]; exact h) = lowC s[j] := by simp [low]
theorem prefix_iff (a w : List UInt8) : a.isPrefixOf w = true ↔ a = w.take a.length := by
 rw [List.isPrefixOf_iff_prefix, List.prefix_iff_eq_take]
theorem name_short {s w : List UInt8} (h : s.length < 3) : nameB s w = false := by unfold nameB; rw [decide_eq_false (by omega)]; rfl
theorem name_long {s w : List UInt8} (h : w.length < s.length) : nameB s w = false := by
 unfold nameB
 rw [Bool.and_eq_false_iff]; right
 rw [Bool.eq_false_iff]; intro hp
 have := congrArg List.length ((prefix_iff _ _).1 hp)
 rw [List.length_take, low_len] at this; omega
theorem name_no {s w : List UInt8} (j : Nat) (h1 : j < s.length) (h2 : j < w.length) (h : lowC s[j] ≠ w[j]) : nameB s w = false := by
 unfold nameB
 rw [Bool.and_eq_false_iff]; right
 rw [Bool.eq_false_iff]; intro hp
 have e := (prefix_iff _ _).1 hp
 have e2 : (low s)[j]? = (w.take (low s).length)[j]? := by rw [← e]
 rw [List.getElem?_eq_getElem (by rw [low_len]; exact h1), low_at s j h1, low_len, List.getElem?_take, if_pos h1, List.getElem?_eq_getElem h2] at e2
 exact h (Option.some.inj e2)
theorem name_yes {s w : List UInt8} (h1 : 3 ≤ s.length) (h : (low s).take s.length = w.take s.length) : nameB s w = true := by
 unfold nameB
 rw [decide_eq_true h1, Bool.true_and, prefix_iff, low_len, ← h, List.take_of_length_le (by rw [low_len]; omega)]
theorem take_next {s w : List UInt8} (j : Nat) (h1 : j < s.length) (h2 : j < w.length) (h : (low s).take j = w.take j) (he : lowC s[j] = w[j]) : (low s).take (j + 1) = w.take (j + 1) := by
 rw [List.take_succ_eq_append_getElem (by rw [low_len]; exact h1), List.take_succ_eq_append_getElem h2, h, low_at s j h1, he]
theorem small_at {w : List UInt8} (h : small w = true) (j : Nat) (hj : j < w.length) : 97 ≤ w[j].toNat ∧ w[j].toNat ≤ 122 := by
 have := List.all_eq_true.1 h _ (List.getElem_mem hj)
 exact of_decide_eq_true this
theorem which_yes {s w : List UInt8} {ws : List (List UInt8)} {k : Nat} (h : nameB s w = true) : whichP s (w :: ws) k = k := by simp [whichP, h]
theorem which_no {s w : List UInt8} {ws : List (List UInt8)} {k : Nat} (h : nameB s w = false) : whichP s (w :: ws) k = whichP s ws (k + 1) := by simp [whichP, h]
theorem which_bd (s : List UInt8) : ∀ (ws : List (List UInt8)) (k : Nat), 0 < k → whichP s ws k = 0 ∨ (k ≤ whichP s ws k ∧ whichP s ws k < k + ws.length)
 | [], k, _ => .inl rfl
 | w :: ws, k, hk => by
   cases h : nameB s w
   · rw [which_no h]
     rcases which_bd s ws (k + 1) (by omega) with h2 | h2
     · exact .inl h2
     · right; simp; omega
   · rw [which_yes h]; right; simp
def monthsL : List (List UInt8) := [[106, 97, 110, 117, 97, 114, 121], [102, 101, 98, 114, 117, 97, 114, 121], [109, 97, 114, 99, 104], [97, 112, 114, 105, 108], [109, 97, 121], [106, 117, 110, 101], [106, 117, 108, 121], [97, 117, 103, 117, 115, 116], [115, 101, 112, 116, 101, 109, 98, 101, 114], [111, 99, 116, 111, 98, 101, 114], [110, 111, 118, 101, 109, 98, 101, 114], [100, 101, 99, 101, 109, 98, 101, 114]]
def daysL : List (List UInt8) := [[109, 111, 110, 100, 97, 121], [116, 117, 101, 115, 100, 97, 121], [119, 101, 100, 110, 101, 115, 100, 97, 121], [116, 104, 117, 114, 115, 100, 97, 121], [102, 114, 105, 100, 97, 121], [115, 97, 116, 117, 114, 100, 97, 121], [115, 117, 110, 100, 97, 121]]
def great (w : List UInt8) : List UInt8 := match w with | [] => [] | c :: r => (c - 32) :: r
def monthI (s : List UInt8) : Nat := whichP s monthsL 1
def dayI (s : List UInt8) : Nat := whichP s daysL 1
end Mom
end Go.Proofs.YtdhbgelijjlifaaGreatDoor
namespace Go.Proofs.YtdhbgelijjlifaaGreatDoor
open Go.RowKit
def strs (ws : List (List UInt8)) : List Value := ws.map fun w => Value.string ⟨w.toArray⟩
theorem strs_at {w : World} {b o : Nat} {ws : List (List UInt8)} (hc : ∀ i u, (strs ws)[i]? = some u → w.cell? ⟨b, o + i, none⟩ = some u) (j : Nat) (h : j < ws.length) :
 w.cell? ⟨b, o + j, none⟩ = some (.string ⟨ws[j].toArray⟩) := hc j _ (by simp [strs, h])
set_option maxRecDepth 100000 in
set_option maxHeartbeats 2000000 in
theorem name_any (s v : List UInt8) (w : World) (hs : s.length ≤ maxLen) (hv : v.length ≤ maxLen) (hsm : Mom.small v = true) : Rets Tryz.prog 169 #[.string ⟨s.toArray⟩, .string ⟨v.toArray⟩] w (.bool (Mom.nameB s v)) := by
 obtain ⟨S, hS⟩ : ∃ S : ByteArray, S = ⟨s.toArray⟩ := ⟨_, rfl⟩
 obtain ⟨V, hV⟩ : ∃ V : ByteArray, V = ⟨v.toArray⟩ := ⟨_, rfl⟩
 have zs : S.size = s.length := by rw [hS, lsz]
 have zv : V.size = v.length := by rw [hV, lsz]
 have hS1 : S.size ≤ 9223372036854775807 := by unfold maxLen at hs; omega
 have hV1 : V.size ≤ 9223372036854775807 := by unfold maxLen at hv; omega
 have at_s : ∀ j (h : j < S.size), S[j] = s[j]'(by omega) := fun j h => by subst hS; simp [ByteArray.getElem_eq_getElem_data]
 have at_v : ∀ j (h : j < V.size), V[j] = v[j]'(by omega) := fun j h => by subst hV; simp [ByteArray.getElem_eq_getElem_data]
 have NO : Hid (∀ j (h1 : j < S.size) (h2 : j < V.size), ((S[j].toNat : Int) ≠ V[j].toNat) → ((S[j].toNat : Int) ≠ V[j].toNat - 32) → Mom.nameB s v = false) := fun j h1 h2 h3 h4 => by
  refine Mom.name_no j (by omega) (by omega) (fun e => ?_)
  have hw := Mom.small_at hsm j (by omega)
  rw [at_s, at_v] at h3 h4
  rcases (Mom.low_is hw).1 e with e | e <;> omega
 have YES : Hid (∀ j (h1 : j < S.size) (h2 : j < V.size), (Mom.low s).take j = v.take j → ((S[j].toNat : Int) = V[j].toNat ∨ (S[j].toNat : Int) = V[j].toNat - 32) → (Mom.low s).take (j + 1) = v.take (j + 1)) := fun j h1 h2 h3 h4 => by
  refine Mom.take_next j (by omega) (by omega) h3 ?_
  have hw := Mom.small_at hsm j (by omega)
  rw [at_s, at_v] at h4
  exact (Mom.low_is hw).2 (by omega)
 have SM : Hid (∀ j (h : j < V.size), 97 ≤ V[j].toNat ∧ V[j].toNat ≤ 122) := fun j h => by
  rw [at_v j h]; exact Mom.small_at hsm j (by omega)
 have ZS := Lib.hid zs
 have ZV := Lib.hid zv
 rw [← hS, ← hV]
 clear hS hV at_s at_v zs zv hs hv hsm
 unfold Rets
 by_cases c0 : S.size < 3
 · have E : Hid (Mom.nameB s v = false) := Mom.name_short (by rw [← ZS.out]; exact c0)
   go_enter Tryz.func169, Tryz.ntmps169
   go_wp2
   go_ret
   exact ⟨by rw [E.out]; first | done | rfl, done⟩
 by_cases c1 : V.size < S.size
 · have E : Hid (Mom.nameB s v = false) := Mom.name_long (by rw [← ZS.out, ← ZV.out]; exact c1)
   have c2 : decide ((S.size : Int) < 3) = false := decide_eq_false (by omega)
   have c3 : decide (S.size < 3) = false := decide_eq_false (by omega)
   go_enter Tryz.func169, Tryz.ntmps169
   go_wp2
   go_ret
   exact ⟨by rw [E.out]; first | done | rfl, done⟩
 have c2 : decide ((S.size : Int) < 3) = false := decide_eq_false (by omega)
 have c3 : decide (S.size < 3) = false := decide_eq_false (by omega)
 have c4 : decide ((V.size : Int) < S.size) = false := decide_eq_false (by omega)
 have c5 : decide (V.size < S.size) = false := decide_eq_false (by omega)
 go_enter Tryz.func169, Tryz.ntmps169
 go_wp2
 go_loopw [5] (fun i wr => ∃ j : Nat, j ≤ S.size ∧ i = .int .i64 j ∧ Hid ((Mom.low s).take j = v.take j) ∧ Ext w wr) (fun i _ => S.size - (intOf i).toNat)
 case atStart => exact ⟨0, by omega, rfl, rfl, isext⟩
 case round =>
  obtain ⟨j, j1, rfl, ht, hx⟩ := hrel
  obtain ⟨yr, rfl⟩ := fin hx
  clear hx
  by_cases hlt : j < S.size
  · have hlv : j < V.size := by omega
    obtain ⟨w1, w2⟩ := SM.out j hlv
    by_cases e1 : (S[j].toNat : Int) = V[j].toNat
    · have g1 : ((S[j].toNat : Int) != V[j].toNat) = false := by rw [e1]; simp
      have N := Lib.hid (YES.out j hlt hlv ht.out (.inl e1))
      clear e1
      go_wp2
      refine wp_region_past1 (by kernel_rfl) (by kernel_rfl) ?_
      repeat (go_big_quiet_step (fail))
      refine wpQuiet_nil ?_
      intro _
      go_wp2
      go_roundw
      case rel => exact ⟨j + 1, by omega, by go_num, N, isext⟩
      case measure => simp [intOf]; omega
    · have g1 : ((S[j].toNat : Int) != V[j].toNat) = true := by rw [bne_iff_ne]; exact e1
      have hwr : IntKind.u8.wrap ((V[j].toNat : Int) - 32) = (V[j].toNat : Int) - 32 := by
       rw [IntKind.wrap_u8]; omega
      by_cases e2 : (S[j].toNat : Int) = V[j].toNat - 32
      · have g2 : ((S[j].toNat : Int) != (V[j].toNat : Int) - 32) = false := by rw [e2]; simp
        have N := Lib.hid (YES.out j hlt hlv ht.out (.inr e2))
        clear e1 e2
        go_wp2
        refine wp_region_past1 (by kernel_rfl) (by kernel_rfl) ?_
        repeat (go_big_quiet_step (fail))
        refine wpQuiet_nil ?_
        intro _
        go_wp2
        go_roundw
        case rel => exact ⟨j + 1, by omega, by go_num, N, isext⟩
        case measure => simp [intOf]; omega
      · have g2 : ((S[j].toNat : Int) != (V[j].toNat : Int) - 32) = true := by rw [bne_iff_ne]; exact e2
        have E := Lib.hid (NO.out j hlt hlv e1 e2)
        clear e1 e2
        go_wp2
        refine wp_region_past1 (by kernel_rfl) (by kernel_rfl) ?_
        repeat (go_big_quiet_step (fail))
        refine wpQuiet_nil ?_
        intro _
        go_wp2
        go_ret
        exact ⟨by rw [E.out]; first | done | rfl, done⟩
  · obtain rfl : j = S.size := by omega
    have E : Hid (Mom.nameB s v = true) := Mom.name_yes (by rw [← ZS.out]; omega) (by rw [← ZS.out]; exact ht.out)
    go_wp2
    go_ret
    exact ⟨by rw [E.out]; first | done | rfl, done⟩
end Go.Proofs.YtdhbgelijjlifaaGreatDoor
