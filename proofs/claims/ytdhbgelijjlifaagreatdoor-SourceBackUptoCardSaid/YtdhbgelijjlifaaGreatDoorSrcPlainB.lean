/- Plain laws of the calendar: no program in sight. -/
import Derived.Lib.SplitLaws
import Derived.Lib.IndexBytes
import Derived.Lib.IndexMore
import Derived.Lib.CutLaws
set_option linter.unusedVariables false
set_option linter.unusedSimpArgs false
namespace Go.Proofs.YtdhbgelijjlifaaGreatDoor
namespace Civ
def leapB (y : Int) : Bool := decide (y % 4 = 0 ∧ (y % 100 ≠ 0 ∨ y % 400 = 0))
def lp (y : Int) : Int := if leapB y then 1 else 0
theorem lp_01 (y : Int) : 0 ≤ lp y ∧ lp y ≤ 1 := by unfold lp; split <;> omega
def jan (y : Int) : Int := 365 * y + (y + 3) / 4 - (y + 99) / 100 + (y + 399) / 400 - 719528
def cum (y m : Int) : Int := if m ≤ 1 then 0 else if m = 2 then 31 else (if m = 3 then 59 else if m = 4 then 90 else if m = 5 then 120 else if m = 6 then 151 else if m = 7 then 181 else if m = 8 then 212 else if m = 9 then 243 else if m = 10 then 273 else if m = 11 then 304 else if m = 12 then 334 else 365) + lp y
def mlen (y m : Int) : Int := if m < 1 ∨ 12 < m then 0 else if m = 2 then 28 + lp y else if m = 4 ∨ m = 6 ∨ m = 9 ∨ m = 11 then 30 else 31
theorem m12 (m : Int) (h : 1 ≤ m) (k : m ≤ 12) : m = 1 ∨ m = 2 ∨ m = 3 ∨ m = 4 ∨ m = 5 ∨ m = 6 ∨ m = 7 ∨ m = 8 ∨ m = 9 ∨ m = 10 ∨ m = 11 ∨ m = 12 := by omega
theorem cum_13 (y : Int) : cum y 13 = 365 + lp y := by simp [cum]
theorem cum_bd (y m : Int) (h : 1 ≤ m) (k : m ≤ 13) : 0 ≤ cum y m ∧ cum y m ≤ 365 + lp y ∧ 28 * (m - 1) ≤ cum y m := by
 have := lp_01 y
 by_cases c : m = 13
 · subst c; rw [cum_13]; omega
 · rcases m12 m h (by omega) with rfl | rfl | rfl | rfl | rfl | rfl | rfl | rfl | rfl | rfl | rfl | rfl <;> simp [cum] <;> omega
def num (y m d : Int) : Int := jan y + cum y m + d - 1
def fits (y m d : Int) : Prop := 1 ≤ m ∧ m ≤ 12 ∧ 1 ≤ d ∧ d ≤ mlen y m
def okD (y m d : Int) : Bool := decide (1 ≤ m ∧ m ≤ 12 ∧ 1 ≤ d ∧ d ≤ mlen y m ∧ -100000001 ≤ num y m d ∧ num y m d ≤ 100000000)
theorem okD_yes (y m d : Int) (h : okD y m d = true) : fits y m d ∧ -100000001 ≤ num y m d ∧ num y m d ≤ 100000000 := by
 have := of_decide_eq_true h; exact ⟨⟨this.1, this.2.1, this.2.2.1, this.2.2.2.1⟩, this.2.2.2.2.1, this.2.2.2.2.2⟩
def ofDay (n : Int) : Int := (n + 719468) % 146097
def ofY (n : Int) : Int := (ofDay n - ofDay n / 1460 + ofDay n / 36524 - ofDay n / 146096) / 365
def ofR (n : Int) : Int := ofDay n - (365 * ofY n + ofY n / 4 - ofY n / 100)
def ofM (n : Int) : Int := (5 * ofR n + 2) / 153
def dd (n : Int) : Int := ofR n - (153 * ofM n + 2) / 5 + 1
end Civ
end Go.Proofs.YtdhbgelijjlifaaGreatDoor
namespace Go.Proofs.YtdhbgelijjlifaaGreatDoor
namespace Mom
def headOk (m k t r : Int) : Prop := 1 ≤ m ∧ m ≤ 12 ∧ 0 ≤ k ∧ k ≤ 3 ∧ -604799 ≤ t ∧ t ≤ 604799 ∧ 0 ≤ r ∧ r ≤ 2
instance (m k t r : Int) : Decidable (headOk m k t r) := by unfold headOk; infer_instance
end Mom
end Go.Proofs.YtdhbgelijjlifaaGreatDoor
namespace Go.Proofs.YtdhbgelijjlifaaGreatDoor
namespace Mom
end Mom
end Go.Proofs.YtdhbgelijjlifaaGreatDoor
namespace Go.Proofs.YtdhbgelijjlifaaGreatDoor
structure Rule where
 nm : ByteArray
 a : Int
 b : Int
 m : Int
 k : Int
 wd : Int
 d : Int
 t : Int
 r : Int
 s : Int
 l : ByteArray
deriving Inhabited
namespace Rul
end Rul
end Go.Proofs.YtdhbgelijjlifaaGreatDoor
namespace Go.Proofs.YtdhbgelijjlifaaGreatDoor
namespace Rul
end Rul
end Go.Proofs.YtdhbgelijjlifaaGreatDoor
namespace Go.Proofs.YtdhbgelijjlifaaGreatDoor
namespace Src
def letB (c : UInt8) : Bool := decide (97 ≤ (c.toNat : Int) ∧ (c.toNat : Int) ≤ 122 ∨ 65 ≤ (c.toNat : Int) ∧ (c.toNat : Int) ≤ 90)
def digB (c : UInt8) : Bool := decide (48 ≤ (c.toNat : Int) ∧ (c.toNat : Int) ≤ 57)
def okB (others : List UInt8) (c : UInt8) : Bool := letB c || digB c || others.contains c
def madeB (l : List UInt8) (most : Int) (others : List UInt8) : Bool := l.all (okB others) && !l.isEmpty && decide ((l.length : Int) ≤ most)
def opensB : List UInt8 → Bool
 | [] => false
 | c :: _ => letB c || c == 95
def setB (l : List UInt8) : Bool := madeB l 20 [95, 45] && opensB l
def headB : List UInt8 → Bool
 | [] => false
 | c :: _ => !digB c && !(c == 45)
def rsetB (l : List UInt8) : Bool := decide (l.length ≤ 20) && headB l && l.all (fun c => letB c || digB c || c == 95 || c == 45)
theorem ok_set (c : UInt8) : okB [95, 45] c = (letB c || digB c || c == 95 || c == 45) := by
 unfold okB; simp [List.contains, List.elem, Bool.or_assoc]
 cases c == 95 <;> cases c == 45 <;> simp
theorem let_95 : letB 95 = false := by decide
theorem let_45 : letB 45 = false := by decide
theorem dig_let {c : UInt8} (h : letB c = true) : digB c = false := by
 unfold letB at h; unfold digB; simp at h ⊢; omega
theorem dig_95 : digB 95 = false := by decide
theorem set_same (l : List UInt8) : rsetB l = setB l := by
 unfold rsetB setB madeB
 rw [show (fun c => letB c || digB c || c == 95 || c == 45) = okB [95, 45] from funext fun c => (ok_set c).symm]
 cases l with
 | nil => simp [headB, opensB]
 | cons c r =>
   simp only [List.all_cons, List.isEmpty_cons, Bool.not_false, Bool.and_true, headB, opensB]
   by_cases h1 : letB c = true
   · have h2 := dig_let h1
     have h3 : (c == 45) = false := by
      cases h : c == 45
      · rfl
      · rw [beq_iff_eq] at h; subst h; rw [let_45] at h1; cases h1
     have hk : okB [95, 45] c = true := by rw [ok_set, h1]; rfl
     rw [h1, h2, h3, hk]
     have : decide ((c :: r).length ≤ 20) = decide (((c :: r).length : Int) ≤ 20) := by congr 1; apply propext; omega
     rw [this]
     cases decide (((c :: r).length : Int) ≤ 20) <;> simp
   · have h1' : letB c = false := by simpa using h1
     by_cases h4 : c = 95
     · subst h4
       have : decide ((95 :: r).length ≤ 20) = decide (((95 :: r).length : Int) ≤ 20) := by congr 1; apply propext; omega
       rw [this]
       have hk : okB [95, 45] 95 = true := by decide
       rw [let_95, dig_95, hk]
       cases decide (((95 :: r).length : Int) ≤ 20) <;> simp
     · have h5 : (c == 95) = false := by simpa using h4
       rw [h1', h5]
       by_cases h6 : digB c = true
       · rw [h6]; simp
       · have h6' : digB c = false := by simpa using h6
         by_cases h7 : (c == 45) = true
         · rw [h7]; simp
         · have h7' : (c == 45) = false := by simpa using h7
           have hk : okB [95, 45] c = false := by rw [ok_set, h1', h6', h5, h7']; rfl
           rw [hk]; simp
/-! Places. -/
def okP (c : UInt8) : Bool := okB [95, 43, 45] c
def splitC (x : UInt8) : List UInt8 → List (List UInt8)
 | [] => [[]]
 | c :: l => if c = x then [] :: splitC x l else match splitC x l with
   | p :: ps => (c :: p) :: ps
   | [] => [[c]]
theorem splitC_ne (x : UInt8) (l : List UInt8) : splitC x l ≠ [] := by
 cases l with
 | nil => simp [splitC]
 | cons c l => unfold splitC; split; · simp
               split <;> simp
def placeB (l : List UInt8) : Bool := (splitC 47 l).all (fun p => madeB p 40 [95, 43, 45]) && decide ((l.length : Int) ≤ 40)
def placeD : Nat → List UInt8 → Bool
 | k, [] => decide (0 < k)
 | k, c :: l => if c = 47 then (if k = 0 then false else placeD 0 l) else if okP c = true then placeD (k + 1) l else false
def rplaceB (l : List UInt8) : Bool := placeD 0 l && decide (l.length ≤ 40)
theorem madeP (p : List UInt8) : madeB p 40 [95, 43, 45] = (p.all okP && !p.isEmpty && decide (p.length ≤ 40)) := by
 unfold madeB okP
 congr 1; congr 1; apply propext; omega
theorem parts_le (x : UInt8) : ∀ (l : List UInt8), ∀ p ∈ splitC x l, p.length ≤ l.length := by
 intro l
 induction l with
 | nil => intro p hp; simp [splitC] at hp; subst hp; simp
 | cons c l ih =>
   intro p hp
   unfold splitC at hp
   split at hp
   · rcases List.mem_cons.1 hp with rfl | hp
     · simp
     · have := ih p hp; simp; omega
   · cases hs : splitC x l with
     | nil => exact absurd hs (splitC_ne x l)
     | cons q qs =>
       rw [hs] at hp ih
       rcases List.mem_cons.1 hp with rfl | hp
       · have := ih q (by simp); simp; omega
       · have := ih p (by simp [hp]); simp; omega
def headK (k : Nat) : List (List UInt8) → Bool
 | [] => false
 | p :: ps => p.all okP && decide (0 < k + p.length) && ps.all (fun q => q.all okP && !q.isEmpty)
theorem place_head : ∀ (l : List UInt8) (k : Nat), placeD k l = headK k (splitC 47 l) := by
 intro l
 induction l with
 | nil => intro k; simp [placeD, splitC, headK]
 | cons c l ih =>
   intro k
   unfold placeD splitC
   by_cases h : c = 47
   · rw [if_pos h, if_pos h]
     cases hs : splitC 47 l with
     | nil => exact absurd hs (splitC_ne 47 l)
     | cons q qs =>
       rw [hs] at ih
       by_cases hk : k = 0
       · rw [if_pos hk]; subst hk; simp [headK]
       · rw [if_neg hk, ih 0]
         simp only [headK, List.all_nil, List.length_nil, List.all_cons, Bool.true_and]
         rw [show decide (0 < k + 0) = true from decide_eq_true (by omega)]
         cases q with
         | nil => simp
         | cons x q => simp
   · rw [if_neg h, if_neg h]
     cases hs : splitC 47 l with
     | nil => exact absurd hs (splitC_ne 47 l)
     | cons q qs =>
       rw [hs] at ih
       simp only [headK, List.all_cons, List.length_cons]
       rw [show decide (0 < k + (q.length + 1)) = true from decide_eq_true (by omega)]
       by_cases ho : okP c = true
       · rw [if_pos ho, ih (k + 1), ho]
         simp only [headK]
         rw [show decide (0 < k + 1 + q.length) = true from decide_eq_true (by omega)]
         simp
       · rw [if_neg ho]
         have : okP c = false := by simpa using ho
         rw [this]; simp
theorem place_same (l : List UInt8) : rplaceB l = placeB l := by
 unfold rplaceB placeB
 rw [place_head, show decide ((l.length : Int) ≤ 40) = decide (l.length ≤ 40) by congr 1; apply propext; omega]
 by_cases h : l.length ≤ 40
 · rw [decide_eq_true h, Bool.and_true, Bool.and_true]
   have hp := parts_le 47 l
   have : (splitC 47 l).all (fun p => madeB p 40 [95, 43, 45]) = (splitC 47 l).all (fun q => q.all okP && !q.isEmpty) := by
    rw [Bool.eq_iff_iff, List.all_eq_true, List.all_eq_true]
    constructor
    · intro g p hm; have := g p hm; rw [madeP] at this; simp at this ⊢; exact this.1
    · intro g p hm; have := g p hm; rw [madeP]; simp at this ⊢; have := hp p hm; exact ⟨by assumption, by omega⟩
   rw [this]
   cases hs : splitC 47 l with
   | nil => exact absurd hs (splitC_ne 47 l)
   | cons q qs =>
     simp only [headK, List.all_cons, Nat.zero_add]
     cases q <;> simp
 · rw [decide_eq_false h, Bool.and_false, Bool.and_false]
/-! Formats. -/
def cutC (x : UInt8) : List UInt8 → List UInt8 × List UInt8 × Bool
 | [] => ([], [], false)
 | c :: l => if c = x then ([], l, true) else (c :: (cutC x l).1, (cutC x l).2.1, (cutC x l).2.2)
theorem cutC_no {x : UInt8} : ∀ {l : List UInt8}, x ∉ l → cutC x l = (l, [], false)
 | [], _ => rfl
 | c :: l, h => by
   rw [List.mem_cons, not_or] at h
   unfold cutC
   rw [if_neg (fun e => h.1 e.symm), cutC_no h.2]
theorem cutC_yes {x : UInt8} : ∀ {a : List UInt8} (r : List UInt8), x ∉ a → cutC x (a ++ x :: r) = (a, r, true)
 | [], r, _ => by simp [cutC]
 | c :: a, r, h => by
   rw [List.mem_cons, not_or] at h
   rw [List.cons_append]
   unfold cutC
   rw [if_neg (fun e => h.1 e.symm), cutC_yes r h.2]
def szB : List UInt8 → Bool
 | [] => false
 | c :: _ => c == 115 || c == 122
def ok4 (c : UInt8) : Bool := okB [43, 45, 37, 47] c
def plainB (c : UInt8) : Bool := letB c || digB c || c == 43 || c == 45
def tailB (l : List UInt8) : Bool := if (cutC 37 l).2.2 = true then !l.contains 47 && !(cutC 37 l).2.1.contains 37 && szB (cutC 37 l).2.1 else
 !(cutC 47 (cutC 37 l).1).2.2 || (!(cutC 47 (cutC 37 l).1).1.isEmpty && !(cutC 47 (cutC 37 l).1).2.1.isEmpty && !(cutC 47 (cutC 37 l).1).2.1.contains 47)
def fmtB (l : List UInt8) : Bool := madeB l 20 [43, 45, 37, 47] && tailB l
def fmtD : Bool → Nat → List UInt8 → Bool
 | _, k, [] => decide (k ≤ 1)
 | f, k, c :: r => if c = 37 then szB r && fmtD false (k + 1) r else if c = 47 then !f && !r.isEmpty && fmtD false (k + 1) r else plainB c && fmtD false k r
def rfmtB (l : List UInt8) : Bool := fmtD true 0 l && !l.isEmpty && decide (l.length ≤ 20)
theorem fmt_two : ∀ (l : List UInt8) (f : Bool) (k : Nat), 2 ≤ k → fmtD f k l = false
 | [], f, k, h => decide_eq_false (by omega)
 | c :: r, f, k, h => by
   unfold fmtD
   rw [fmt_two r false (k + 1) (by omega), fmt_two r false k h]
   simp
theorem plain_37 : plainB 37 = false := by decide
theorem plain_47 : plainB 47 = false := by decide
theorem fmt_one : ∀ (l : List UInt8) (f : Bool), fmtD f 1 l = l.all plainB
 | [], f => rfl
 | c :: r, f => by
   unfold fmtD
   rw [fmt_two r false (1 + 1) (by omega), fmt_one r false, List.all_cons]
   by_cases h : c = 37
   · subst h; rw [plain_37]; simp
   · by_cases h2 : c = 47
     · subst h2; rw [plain_47]; simp
     · simp [h, h2]
theorem ok4_eq (c : UInt8) : ok4 c = (plainB c || c == 37 || c == 47) := by
 unfold ok4 okB plainB; simp [List.contains, List.elem, Bool.or_assoc]
 cases c == 43 <;> cases c == 45 <;> cases c == 37 <;> cases c == 47 <;> simp
theorem ok4_plain {c : UInt8} (h1 : c ≠ 37) (h2 : c ≠ 47) : ok4 c = plainB c := by
 rw [ok4_eq, beq_eq_false_iff_ne.2 h1, beq_eq_false_iff_ne.2 h2]; simp
theorem all_plain : ∀ {l : List UInt8}, 37 ∉ l → 47 ∉ l → l.all ok4 = l.all plainB
 | [], _, _ => rfl
 | c :: l, h1, h2 => by
   rw [List.mem_cons, not_or] at h1 h2
   rw [List.all_cons, List.all_cons, ok4_plain (fun e => h1.1 e.symm) (fun e => h2.1 e.symm), all_plain h1.2 h2.2]
theorem plain_all (l : List UInt8) : l.all plainB = (l.all ok4 && !l.contains 37 && !l.contains 47) := by
 by_cases h1 : 37 ∈ l
 · have : l.all plainB = false := by
    rw [List.all_eq_false]; exact ⟨37, h1, by rw [plain_37]; simp⟩
   rw [this, show l.contains 37 = true by simpa using h1]; simp
 · by_cases h2 : 47 ∈ l
   · have : l.all plainB = false := by
      rw [List.all_eq_false]; exact ⟨47, h2, by rw [plain_47]; simp⟩
     rw [this, show l.contains 47 = true by simpa using h2]; simp
   · rw [← all_plain h1 h2, show l.contains 37 = false by simpa using h1, show l.contains 47 = false by simpa using h2]; simp
theorem fmt_skip : ∀ (a r : List UInt8) (f : Bool), 37 ∉ a → 47 ∉ a → fmtD f 0 (a ++ r) = (a.all plainB && fmtD (f && a.isEmpty) 0 r)
 | [], r, f, _, _ => by simp
 | c :: a, r, f, h1, h2 => by
   rw [List.mem_cons, not_or] at h1 h2
   rw [List.cons_append, fmtD, if_neg (fun e => h1.1 e.symm), if_neg (fun e => h2.1 e.symm), fmt_skip a r false h1.2 h2.2]
   simp [Bool.and_assoc]
theorem parted (l : List UInt8) : (37 ∉ l ∧ 47 ∉ l) ∨ ∃ a c r, l = a ++ c :: r ∧ (37 ∉ a ∧ 47 ∉ a) ∧ (c = 37 ∨ c = 47) := by
 induction l with
 | nil => left; simp
 | cons c l ih =>
   by_cases h : c = 37 ∨ c = 47
   · right; exact ⟨[], c, l, rfl, by simp, h⟩
   · have hc1 : ¬ 37 = c := fun e => h (.inl e.symm)
     have hc2 : ¬ 47 = c := fun e => h (.inr e.symm)
     rcases ih with ⟨h1, h2⟩ | ⟨a, x, r, rfl, ⟨h1, h2⟩, h3⟩
     · left; simp [h1, h2, hc1, hc2]
     · right; exact ⟨c :: a, x, r, rfl, by simp [h1, h2, hc1, hc2], h3⟩
theorem first_at {x : UInt8} : ∀ {l : List UInt8}, x ∈ l → ∃ b d, l = b ++ x :: d ∧ x ∉ b
 | [], h => by cases h
 | c :: l, h => by
   by_cases hx : c = x
   · exact ⟨[], l, by rw [hx]; rfl, by simp⟩
   · have hm : x ∈ l := by
      rcases List.mem_cons.1 h with h | h
      · exact absurd h.symm hx
      · exact h
     obtain ⟨b, d, g1, g2⟩ := first_at hm
     exact ⟨c :: b, d, by rw [g1]; rfl, by simp [g2]; exact fun e => hx e.symm⟩
theorem fmt_core (l : List UInt8) : fmtD true 0 l = (l.all ok4 && tailB l) := by
 rcases parted l with ⟨h1, h2⟩ | ⟨a, c, r, rfl, ⟨h1, h2⟩, rfl | rfl⟩
 · have := fmt_skip l [] true h1 h2
   rw [List.append_nil] at this
   rw [this, all_plain h1 h2]
   unfold tailB
   rw [cutC_no h1, cutC_no h2]
   simp [fmtD]
 · rw [fmt_skip a _ true h1 h2]
   unfold tailB
   rw [cutC_yes r h1, if_pos rfl, fmtD, if_pos rfl, fmt_one, plain_all r, List.all_append, List.all_cons, ← all_plain h1 h2]
   have e1 : (a ++ 37 :: r).contains 47 = r.contains 47 := by simp [h2]
   have e2 : ok4 37 = true := by decide
   rw [e1, e2]
   cases a.all ok4 <;> cases szB r <;> cases r.all ok4 <;> cases r.contains 37 <;> cases r.contains 47 <;> rfl
 · rw [fmt_skip a _ true h1 h2, fmtD, if_neg (by decide), if_pos rfl, fmt_one, plain_all r, List.all_append, List.all_cons, ← all_plain h1 h2]
   have e2 : ok4 47 = true := by decide
   rw [e2]
   unfold tailB
   by_cases h3 : 37 ∈ r
   · have e3 : r.contains 37 = true := by simpa using h3
     obtain ⟨b, d, rfl, hb⟩ := first_at h3
     have e4 : 37 ∉ a ++ 47 :: b := by simp [h1, hb]
     rw [show a ++ 47 :: (b ++ 37 :: d) = (a ++ 47 :: b) ++ 37 :: d by simp, cutC_yes d e4, if_pos rfl, e3]
     have : (a ++ 47 :: b ++ 37 :: d).contains 47 = true := by simp
     rw [this]; simp
   · have e3 : r.contains 37 = false := by simpa using h3
     have e4 : 37 ∉ a ++ 47 :: r := by simp [h1, h3]
     rw [cutC_no e4, if_neg (by simp), cutC_yes r h2, e3]
     cases a.all ok4 <;> cases r.all ok4 <;> cases r.contains 47 <;> cases a.isEmpty <;> cases r.isEmpty <;> rfl
theorem fmt_same (l : List UInt8) : rfmtB l = fmtB l := by
 unfold rfmtB fmtB madeB
 rw [fmt_core, show decide ((l.length : Int) ≤ 20) = decide (l.length ≤ 20) by congr 1; apply propext; omega]
 show _ = (l.all ok4 && _ && _ && _)
 cases l.all ok4 <;> cases tailB l <;> cases l.isEmpty <;> cases decide (l.length ≤ 20) <;> rfl
/-! Letters. -/
def rlettersB (l : List UInt8) : Bool := l.all plainB && decide (1 ≤ l.length) && decide (l.length ≤ 8)
theorem letters_same (l : List UInt8) : rlettersB l = madeB l 8 [43, 45] := by
 unfold rlettersB madeB
 have : okB [43, 45] = plainB := by
  funext c
  unfold okB plainB; simp [List.contains, List.elem, Bool.or_assoc]
  cases c == 43 <;> cases c == 45 <;> simp
 rw [this, show decide ((l.length : Int) ≤ 8) = decide (l.length ≤ 8) by congr 1; apply propext; omega]
 cases l <;> simp
end Src
end Go.Proofs.YtdhbgelijjlifaaGreatDoor
namespace Go.Proofs.YtdhbgelijjlifaaGreatDoor
namespace Src
theorem byte_no {x : UInt8} : ∀ {l : List UInt8}, x ∉ l → Lib.indexByte l x = -1
 | [], _ => rfl
 | c :: l, h => by
   rw [List.mem_cons, not_or] at h
   unfold Lib.indexByte
   rw [if_neg (by rw [beq_iff_eq]; exact fun e => h.1 e.symm), byte_no h.2]; rfl
theorem byte_yes {x : UInt8} : ∀ {a : List UInt8} (r : List UInt8), x ∉ a → Lib.indexByte (a ++ x :: r) x = a.length
 | [], r, _ => by simp [Lib.indexByte]
 | c :: a, r, h => by
   rw [List.mem_cons, not_or] at h
   rw [List.cons_append]
   unfold Lib.indexByte
   rw [if_neg (by rw [beq_iff_eq]; exact fun e => h.1 e.symm), byte_yes r h.2, if_neg (by rw [beq_iff_eq]; omega)]
   simp
theorem index_no {x : UInt8} {l : List UInt8} (h : x ∉ l) : Lib.index l [x] = -1 := by rw [Lib.index_one, byte_no h]
theorem index_yes {x : UInt8} {a : List UInt8} (r : List UInt8) (h : x ∉ a) : Lib.index (a ++ x :: r) [x] = a.length := by rw [Lib.index_one, byte_yes r h]
theorem contains_one (l : List UInt8) (x : UInt8) : decide (0 ≤ Lib.indexByte l x) = l.contains x := by
 by_cases h : x ∈ l
 · obtain ⟨a, r, rfl, ha⟩ := first_at h
   rw [byte_yes r ha, decide_eq_true (by omega)]; simp
 · rw [byte_no h, show l.contains x = false by simpa using h]; rfl
theorem cut_one (l : List UInt8) (x : UInt8) : Lib.cut l [x] = cutC x l := by
 unfold Lib.cut
 by_cases h : x ∈ l
 · obtain ⟨a, r, rfl, ha⟩ := first_at h
   rw [index_yes r ha, if_pos (by omega), cutC_yes r ha]
   simp
 · rw [index_no h, if_neg (by omega), cutC_no h]
theorem splitC_no {x : UInt8} : ∀ {l : List UInt8}, x ∉ l → splitC x l = [l]
 | [], _ => rfl
 | c :: l, h => by
   rw [List.mem_cons, not_or] at h
   unfold splitC
   rw [if_neg (fun e => h.1 e.symm), splitC_no h.2]
theorem splitC_yes {x : UInt8} : ∀ {a : List UInt8} (r : List UInt8), x ∉ a → splitC x (a ++ x :: r) = a :: splitC x r
 | [], r, _ => by simp [splitC]
 | c :: a, r, h => by
   rw [List.mem_cons, not_or] at h
   rw [List.cons_append]
   conv => lhs; unfold splitC
   rw [if_neg (fun e => h.1 e.symm), splitC_yes r h.2]
theorem split_one (x : UInt8) : ∀ (n : Nat) (l : List UInt8), l.length ≤ n → Lib.splitK [x] 0 (Lib.count l [x]) l = splitC x l
 | n, l, hn => by
   by_cases h : x ∈ l
   · obtain ⟨a, r, rfl, ha⟩ := first_at h
     cases n with
     | zero => simp at hn
     | succ n =>
       have e := index_yes r ha
       have e2 : List.drop (a.length + [x].length) (a ++ x :: r) = r := by simp
       rw [Lib.count_hit (by simp) e, e2, Nat.add_comm]
       unfold Lib.splitK
       rw [e, if_neg (by rw [beq_iff_eq]; omega), Int.toNat_natCast, e2, splitC_yes r ha, split_one x n r (by simp at hn; omega)]
       simp
   · rw [Lib.count_miss (index_no h), splitC_no h]; rfl
theorem pieces_one (s : ByteArray) (x : UInt8) : (Lib.splitB ⟨#[x]⟩ 0 (Lib.countB s ⟨#[x]⟩) s).map (·.data.toList) = splitC x s.data.toList := by
 rw [Lib.splitB_data]
 exact split_one x _ _ (Nat.le_refl _)
theorem pieces_len (s : ByteArray) (x : UInt8) : (Lib.splitB ⟨#[x]⟩ 0 (Lib.countB s ⟨#[x]⟩) s).length = Lib.countB s ⟨#[x]⟩ + 1 := Lib.splitB_all (⟨#[x]⟩ : ByteArray) (Nat.le_refl 1) 0 _ s rfl
end Src
end Go.Proofs.YtdhbgelijjlifaaGreatDoor
namespace Go.Proofs.YtdhbgelijjlifaaGreatDoor
structure Era where
 off : Int
 kd : Int
 s : Int
 rs : ByteArray
 fm : ByteArray
 til : Bool
 y : Int
 m : Int
 k : Int
 wd : Int
 d : Int
 t : Int
 r : Int
deriving Inhabited
structure Zone where
 nm : ByteArray
 es : List Era
deriving Inhabited
structure Link where
 tg : ByteArray
 nm : ByteArray
deriving Inhabited
structure Source where
 rules : List Rule
 zones : List Zone
 links : List Link
namespace Src
end Src
end Go.Proofs.YtdhbgelijjlifaaGreatDoor
