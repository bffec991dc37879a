/- Plain laws of sources: names, formats, letters. -/
import Derived.Lib.SplitLaws
import Derived.Lib.IndexBytes
import Derived.Lib.IndexMore
import Derived.Lib.CutLaws
import Derived.Test.YtcjnficcggjeiaaDoorRulPlainB
set_option linter.unusedVariables false
set_option linter.unusedSimpArgs false
namespace Go.Proofs.YtcjnficcggjeiaaDoor
namespace Src
def letB (c : UInt8) : Bool := decide (97 ≤ (c.toNat : Int) ∧ (c.toNat : Int) ≤ 122 ∨ 65 ≤ (c.toNat : Int) ∧ (c.toNat : Int) ≤ 90)
def digB (c : UInt8) : Bool := decide (48 ≤ (c.toNat : Int) ∧ (c.toNat : Int) ≤ 57)
def okB (others : List UInt8) (c : UInt8) : Bool := letB c || digB c || others.contains c
def madeB (l : List UInt8) (most : Int) (others : List UInt8) : Bool := l.all (okB others) && !l.isEmpty && decide ((l.length : Int) ≤ most)
def opensB : List UInt8 → Bool
  | [] => false
  | c :: _ => letB c || c == 95
def setB (l : List UInt8) : Bool := madeB l 20 [95, 45] && opensB l
/-- The document's. -/
def headB : List UInt8 → Bool
  | [] => false
  | c :: _ => !digB c && !(c == 45)
def rsetB (l : List UInt8) : Bool := decide (l.length ≤ 20) && headB l && l.all (fun c => letB c || digB c || c == 95 || c == 45)
theorem ok_set (c : UInt8) : okB [95, 45] c = (letB c || digB c || c == 95 || c == 45) := by
  unfold okB; simp [List.contains, List.elem, Bool.or_assoc]
  cases c == 95 <;> cases c == 45 <;> simp
theorem let_95 : letB 95 = false := by decide
theorem let_45 : letB 45 = false := by decide
theorem dig_let {c : UInt8} (h : letB c = true) : digB c = false := by
  unfold letB at h; unfold digB; simp at h ⊢; omega
theorem dig_95 : digB 95 = false := by decide
theorem set_same (l : List UInt8) : rsetB l = setB l := by
  unfold rsetB setB madeB
  rw [show (fun c => letB c || digB c || c == 95 || c == 45) = okB [95, 45] from funext fun c => (ok_set c).symm]
  cases l with
  | nil => simp [headB, opensB]
  | cons c r =>
    simp only [List.all_cons, List.isEmpty_cons, Bool.not_false, Bool.and_true, headB, opensB]
    by_cases h1 : letB c = true
    · have h2 := dig_let h1
      have h3 : (c == 45) = false := by
        cases h : c == 45
        · rfl
        · rw [beq_iff_eq] at h; subst h; rw [let_45] at h1; cases h1
      have hk : okB [95, 45] c = true := by rw [ok_set, h1]; rfl
      rw [h1, h2, h3, hk]
      have : decide ((c :: r).length ≤ 20) = decide (((c :: r).length : Int) ≤ 20) := by congr 1; apply propext; omega
      rw [this]
      cases decide (((c :: r).length : Int) ≤ 20) <;> simp
    · have h1' : letB c = false := by simpa using h1
      by_cases h4 : c = 95
      · subst h4
        have : decide ((95 :: r).length ≤ 20) = decide (((95 :: r).length : Int) ≤ 20) := by congr 1; apply propext; omega
        rw [this]
        have hk : okB [95, 45] 95 = true := by decide
        rw [let_95, dig_95, hk]
        cases decide (((95 :: r).length : Int) ≤ 20) <;> simp
      · have h5 : (c == 95) = false := by simpa using h4
        rw [h1', h5]
        by_cases h6 : digB c = true
        · rw [h6]; simp
        · have h6' : digB c = false := by simpa using h6
          by_cases h7 : (c == 45) = true
          · rw [h7]; simp
          · have h7' : (c == 45) = false := by simpa using h7
            have hk : okB [95, 45] c = false := by rw [ok_set, h1', h6', h5, h7']; rfl
            rw [hk]; simp

/-! Places. -/
def okP (c : UInt8) : Bool := okB [95, 43, 45] c
/-- Parts between bytes of one kind. -/
def splitC (x : UInt8) : List UInt8 → List (List UInt8)
  | [] => [[]]
  | c :: l => if c = x then [] :: splitC x l else match splitC x l with
    | p :: ps => (c :: p) :: ps
    | [] => [[c]]
theorem splitC_ne (x : UInt8) (l : List UInt8) : splitC x l ≠ [] := by
  cases l with
  | nil => simp [splitC]
  | cons c l => unfold splitC; split; · simp
                split <;> simp
def placeB (l : List UInt8) : Bool := (splitC 47 l).all (fun p => madeB p 40 [95, 43, 45]) && decide ((l.length : Int) ≤ 40)
/-- The document's: how long is the part at hand? -/
def placeD : Nat → List UInt8 → Bool
  | k, [] => decide (0 < k)
  | k, c :: l => if c = 47 then (if k = 0 then false else placeD 0 l) else if okP c = true then placeD (k + 1) l else false
def rplaceB (l : List UInt8) : Bool := placeD 0 l && decide (l.length ≤ 40)
theorem madeP (p : List UInt8) : madeB p 40 [95, 43, 45] = (p.all okP && !p.isEmpty && decide (p.length ≤ 40)) := by
  unfold madeB okP
  congr 1; congr 1; apply propext; omega
theorem parts_le (x : UInt8) : ∀ (l : List UInt8), ∀ p ∈ splitC x l, p.length ≤ l.length := by
  intro l
  induction l with
  | nil => intro p hp; simp [splitC] at hp; subst hp; simp
  | cons c l ih =>
    intro p hp
    unfold splitC at hp
    split at hp
    · rcases List.mem_cons.1 hp with rfl | hp
      · simp
      · have := ih p hp; simp; omega
    · cases hs : splitC x l with
      | nil => exact absurd hs (splitC_ne x l)
      | cons q qs =>
        rw [hs] at hp ih
        rcases List.mem_cons.1 hp with rfl | hp
        · have := ih q (by simp); simp; omega
        · have := ih p (by simp [hp]); simp; omega
/-- The first part has k bytes more. -/
def headK (k : Nat) : List (List UInt8) → Bool
  | [] => false
  | p :: ps => p.all okP && decide (0 < k + p.length) && ps.all (fun q => q.all okP && !q.isEmpty)
theorem place_head : ∀ (l : List UInt8) (k : Nat), placeD k l = headK k (splitC 47 l) := by
  intro l
  induction l with
  | nil => intro k; simp [placeD, splitC, headK]
  | cons c l ih =>
    intro k
    unfold placeD splitC
    by_cases h : c = 47
    · rw [if_pos h, if_pos h]
      cases hs : splitC 47 l with
      | nil => exact absurd hs (splitC_ne 47 l)
      | cons q qs =>
        rw [hs] at ih
        by_cases hk : k = 0
        · rw [if_pos hk]; subst hk; simp [headK]
        · rw [if_neg hk, ih 0]
          simp only [headK, List.all_nil, List.length_nil, List.all_cons, Bool.true_and]
          rw [show decide (0 < k + 0) = true from decide_eq_true (by omega)]
          cases q with
          | nil => simp
          | cons x q => simp
    · rw [if_neg h, if_neg h]
      cases hs : splitC 47 l with
      | nil => exact absurd hs (splitC_ne 47 l)
      | cons q qs =>
        rw [hs] at ih
        simp only [headK, List.all_cons, List.length_cons]
        rw [show decide (0 < k + (q.length + 1)) = true from decide_eq_true (by omega)]
        by_cases ho : okP c = true
        · rw [if_pos ho, ih (k + 1), ho]
          simp only [headK]
          rw [show decide (0 < k + 1 + q.length) = true from decide_eq_true (by omega)]
          simp
        · rw [if_neg ho]
          have : okP c = false := by simpa using ho
          rw [this]; simp
theorem place_same (l : List UInt8) : rplaceB l = placeB l := by
  unfold rplaceB placeB
  rw [place_head, show decide ((l.length : Int) ≤ 40) = decide (l.length ≤ 40) by congr 1; apply propext; omega]
  by_cases h : l.length ≤ 40
  · rw [decide_eq_true h, Bool.and_true, Bool.and_true]
    have hp := parts_le 47 l
    have : (splitC 47 l).all (fun p => madeB p 40 [95, 43, 45]) = (splitC 47 l).all (fun q => q.all okP && !q.isEmpty) := by
      rw [Bool.eq_iff_iff, List.all_eq_true, List.all_eq_true]
      constructor
      · intro g p hm; have := g p hm; rw [madeP] at this; simp at this ⊢; exact this.1
      · intro g p hm; have := g p hm; rw [madeP]; simp at this ⊢; have := hp p hm; exact ⟨by assumption, by omega⟩
    rw [this]
    cases hs : splitC 47 l with
    | nil => exact absurd hs (splitC_ne 47 l)
    | cons q qs =>
      simp only [headK, List.all_cons, Nat.zero_add]
      cases q <;> simp
  · rw [decide_eq_false h, Bool.and_false, Bool.and_false]

/-! Formats. -/
/-- What is ahead of the first such byte, what is behind; is there one? -/
def cutC (x : UInt8) : List UInt8 → List UInt8 × List UInt8 × Bool
  | [] => ([], [], false)
  | c :: l => if c = x then ([], l, true) else (c :: (cutC x l).1, (cutC x l).2.1, (cutC x l).2.2)
theorem cutC_no {x : UInt8} : ∀ {l : List UInt8}, x ∉ l → cutC x l = (l, [], false)
  | [], _ => rfl
  | c :: l, h => by
    rw [List.mem_cons, not_or] at h
    unfold cutC
    rw [if_neg (fun e => h.1 e.symm), cutC_no h.2]
theorem cutC_yes {x : UInt8} : ∀ {a : List UInt8} (r : List UInt8), x ∉ a → cutC x (a ++ x :: r) = (a, r, true)
  | [], r, _ => by simp [cutC]
  | c :: a, r, h => by
    rw [List.mem_cons, not_or] at h
    rw [List.cons_append]
    unfold cutC
    rw [if_neg (fun e => h.1 e.symm), cutC_yes r h.2]
def szB : List UInt8 → Bool
  | [] => false
  | c :: _ => c == 115 || c == 122
def ok4 (c : UInt8) : Bool := okB [43, 45, 37, 47] c
def plainB (c : UInt8) : Bool := letB c || digB c || c == 43 || c == 45
def tailB (l : List UInt8) : Bool := if (cutC 37 l).2.2 = true then !l.contains 47 && !(cutC 37 l).2.1.contains 37 && szB (cutC 37 l).2.1 else
  !(cutC 47 (cutC 37 l).1).2.2 || (!(cutC 47 (cutC 37 l).1).1.isEmpty && !(cutC 47 (cutC 37 l).1).2.1.isEmpty && !(cutC 47 (cutC 37 l).1).2.1.contains 47)
def fmtB (l : List UInt8) : Bool := madeB l 20 [43, 45, 37, 47] && tailB l
/-- The document's: how many marks have stood? -/
def fmtD : Bool → Nat → List UInt8 → Bool
  | _, k, [] => decide (k ≤ 1)
  | f, k, c :: r => if c = 37 then szB r && fmtD false (k + 1) r else if c = 47 then !f && !r.isEmpty && fmtD false (k + 1) r else plainB c && fmtD false k r
def rfmtB (l : List UInt8) : Bool := fmtD true 0 l && !l.isEmpty && decide (l.length ≤ 20)
theorem fmt_two : ∀ (l : List UInt8) (f : Bool) (k : Nat), 2 ≤ k → fmtD f k l = false
  | [], f, k, h => decide_eq_false (by omega)
  | c :: r, f, k, h => by
    unfold fmtD
    rw [fmt_two r false (k + 1) (by omega), fmt_two r false k h]
    simp
theorem plain_37 : plainB 37 = false := by decide
theorem plain_47 : plainB 47 = false := by decide
theorem fmt_one : ∀ (l : List UInt8) (f : Bool), fmtD f 1 l = l.all plainB
  | [], f => rfl
  | c :: r, f => by
    unfold fmtD
    rw [fmt_two r false (1 + 1) (by omega), fmt_one r false, List.all_cons]
    by_cases h : c = 37
    · subst h; rw [plain_37]; simp
    · by_cases h2 : c = 47
      · subst h2; rw [plain_47]; simp
      · simp [h, h2]
theorem ok4_eq (c : UInt8) : ok4 c = (plainB c || c == 37 || c == 47) := by
  unfold ok4 okB plainB; simp [List.contains, List.elem, Bool.or_assoc]
  cases c == 43 <;> cases c == 45 <;> cases c == 37 <;> cases c == 47 <;> simp
theorem ok4_plain {c : UInt8} (h1 : c ≠ 37) (h2 : c ≠ 47) : ok4 c = plainB c := by
  rw [ok4_eq, beq_eq_false_iff_ne.2 h1, beq_eq_false_iff_ne.2 h2]; simp
theorem all_plain : ∀ {l : List UInt8}, 37 ∉ l → 47 ∉ l → l.all ok4 = l.all plainB
  | [], _, _ => rfl
  | c :: l, h1, h2 => by
    rw [List.mem_cons, not_or] at h1 h2
    rw [List.all_cons, List.all_cons, ok4_plain (fun e => h1.1 e.symm) (fun e => h2.1 e.symm), all_plain h1.2 h2.2]
theorem plain_all (l : List UInt8) : l.all plainB = (l.all ok4 && !l.contains 37 && !l.contains 47) := by
  by_cases h1 : 37 ∈ l
  · have : l.all plainB = false := by
      rw [List.all_eq_false]; exact ⟨37, h1, by rw [plain_37]; simp⟩
    rw [this, show l.contains 37 = true by simpa using h1]; simp
  · by_cases h2 : 47 ∈ l
    · have : l.all plainB = false := by
        rw [List.all_eq_false]; exact ⟨47, h2, by rw [plain_47]; simp⟩
      rw [this, show l.contains 47 = true by simpa using h2]; simp
    · rw [← all_plain h1 h2, show l.contains 37 = false by simpa using h1, show l.contains 47 = false by simpa using h2]; simp
theorem fmt_skip : ∀ (a r : List UInt8) (f : Bool), 37 ∉ a → 47 ∉ a → fmtD f 0 (a ++ r) = (a.all plainB && fmtD (f && a.isEmpty) 0 r)
  | [], r, f, _, _ => by simp
  | c :: a, r, f, h1, h2 => by
    rw [List.mem_cons, not_or] at h1 h2
    rw [List.cons_append, fmtD, if_neg (fun e => h1.1 e.symm), if_neg (fun e => h2.1 e.symm), fmt_skip a r false h1.2 h2.2]
    simp [Bool.and_assoc]
theorem parted (l : List UInt8) : (37 ∉ l ∧ 47 ∉ l) ∨ ∃ a c r, l = a ++ c :: r ∧ (37 ∉ a ∧ 47 ∉ a) ∧ (c = 37 ∨ c = 47) := by
  induction l with
  | nil => left; simp
  | cons c l ih =>
    by_cases h : c = 37 ∨ c = 47
    · right; exact ⟨[], c, l, rfl, by simp, h⟩
    · have hc1 : ¬ 37 = c := fun e => h (.inl e.symm)
      have hc2 : ¬ 47 = c := fun e => h (.inr e.symm)
      rcases ih with ⟨h1, h2⟩ | ⟨a, x, r, rfl, ⟨h1, h2⟩, h3⟩
      · left; simp [h1, h2, hc1, hc2]
      · right; exact ⟨c :: a, x, r, rfl, by simp [h1, h2, hc1, hc2], h3⟩
theorem first_at {x : UInt8} : ∀ {l : List UInt8}, x ∈ l → ∃ b d, l = b ++ x :: d ∧ x ∉ b
  | [], h => by cases h
  | c :: l, h => by
    by_cases hx : c = x
    · exact ⟨[], l, by rw [hx]; rfl, by simp⟩
    · have hm : x ∈ l := by
        rcases List.mem_cons.1 h with h | h
        · exact absurd h.symm hx
        · exact h
      obtain ⟨b, d, g1, g2⟩ := first_at hm
      exact ⟨c :: b, d, by rw [g1]; rfl, by simp [g2]; exact fun e => hx e.symm⟩
theorem fmt_core (l : List UInt8) : fmtD true 0 l = (l.all ok4 && tailB l) := by
  rcases parted l with ⟨h1, h2⟩ | ⟨a, c, r, rfl, ⟨h1, h2⟩, rfl | rfl⟩
  · have := fmt_skip l [] true h1 h2
    rw [List.append_nil] at this
    rw [this, all_plain h1 h2]
    unfold tailB
    rw [cutC_no h1, cutC_no h2]
    simp [fmtD]
  · rw [fmt_skip a _ true h1 h2]
    unfold tailB
    rw [cutC_yes r h1, if_pos rfl, fmtD, if_pos rfl, fmt_one, plain_all r, List.all_append, List.all_cons, ← all_plain h1 h2]
    have e1 : (a ++ 37 :: r).contains 47 = r.contains 47 := by simp [h2]
    have e2 : ok4 37 = true := by decide
    rw [e1, e2]
    cases a.all ok4 <;> cases szB r <;> cases r.all ok4 <;> cases r.contains 37 <;> cases r.contains 47 <;> rfl
  · rw [fmt_skip a _ true h1 h2, fmtD, if_neg (by decide), if_pos rfl, fmt_one, plain_all r, List.all_append, List.all_cons, ← all_plain h1 h2]
    have e2 : ok4 47 = true := by decide
    rw [e2]
    unfold tailB
    by_cases h3 : 37 ∈ r
    · have e3 : r.contains 37 = true := by simpa using h3
      obtain ⟨b, d, rfl, hb⟩ := first_at h3
      have e4 : 37 ∉ a ++ 47 :: b := by simp [h1, hb]
      rw [show a ++ 47 :: (b ++ 37 :: d) = (a ++ 47 :: b) ++ 37 :: d by simp, cutC_yes d e4, if_pos rfl, e3]
      have : (a ++ 47 :: b ++ 37 :: d).contains 47 = true := by simp
      rw [this]; simp
    · have e3 : r.contains 37 = false := by simpa using h3
      have e4 : 37 ∉ a ++ 47 :: r := by simp [h1, h3]
      rw [cutC_no e4, if_neg (by simp), cutC_yes r h2, e3]
      cases a.all ok4 <;> cases r.all ok4 <;> cases r.contains 47 <;> cases a.isEmpty <;> cases r.isEmpty <;> rfl
theorem fmt_same (l : List UInt8) : rfmtB l = fmtB l := by
  unfold rfmtB fmtB madeB
  rw [fmt_core, show decide ((l.length : Int) ≤ 20) = decide (l.length ≤ 20) by congr 1; apply propext; omega]
  show _ = (l.all ok4 && _ && _ && _)
  cases l.all ok4 <;> cases tailB l <;> cases l.isEmpty <;> cases decide (l.length ≤ 20) <;> rfl

/-! Letters. -/
def rlettersB (l : List UInt8) : Bool := l.all plainB && decide (1 ≤ l.length) && decide (l.length ≤ 8)
theorem letters_same (l : List UInt8) : rlettersB l = madeB l 8 [43, 45] := by
  unfold rlettersB madeB
  have : okB [43, 45] = plainB := by
    funext c
    unfold okB plainB; simp [List.contains, List.elem, Bool.or_assoc]
    cases c == 43 <;> cases c == 45 <;> simp
  rw [this, show decide ((l.length : Int) ≤ 8) = decide (l.length ≤ 8) by congr 1; apply propext; omega]
  cases l <;> simp
end Src
end Go.Proofs.YtcjnficcggjeiaaDoor
set_option linter.unusedVariables false
set_option linter.unusedSimpArgs false
namespace Go.Proofs.YtcjnficcggjeiaaDoor
namespace Src
theorem byte_no {x : UInt8} : ∀ {l : List UInt8}, x ∉ l → Lib.indexByte l x = -1
  | [], _ => rfl
  | c :: l, h => by
    rw [List.mem_cons, not_or] at h
    unfold Lib.indexByte
    rw [if_neg (by rw [beq_iff_eq]; exact fun e => h.1 e.symm), byte_no h.2]; rfl
theorem byte_yes {x : UInt8} : ∀ {a : List UInt8} (r : List UInt8), x ∉ a → Lib.indexByte (a ++ x :: r) x = a.length
  | [], r, _ => by simp [Lib.indexByte]
  | c :: a, r, h => by
    rw [List.mem_cons, not_or] at h
    rw [List.cons_append]
    unfold Lib.indexByte
    rw [if_neg (by rw [beq_iff_eq]; exact fun e => h.1 e.symm), byte_yes r h.2, if_neg (by rw [beq_iff_eq]; omega)]
    simp
theorem index_no {x : UInt8} {l : List UInt8} (h : x ∉ l) : Lib.index l [x] = -1 := by rw [Lib.index_one, byte_no h]
theorem index_yes {x : UInt8} {a : List UInt8} (r : List UInt8) (h : x ∉ a) : Lib.index (a ++ x :: r) [x] = a.length := by rw [Lib.index_one, byte_yes r h]
theorem byte_lt {x : UInt8} (l : List UInt8) : decide (Lib.indexByte l x < 0) = !l.contains x := by
  by_cases h : x ∈ l
  · obtain ⟨a, r, rfl, ha⟩ := first_at h
    rw [byte_yes r ha, decide_eq_false (by omega)]; simp
  · rw [byte_no h, show l.contains x = false by simpa using h]; rfl
theorem contains_one (l : List UInt8) (x : UInt8) : decide (0 ≤ Lib.indexByte l x) = l.contains x := by
  by_cases h : x ∈ l
  · obtain ⟨a, r, rfl, ha⟩ := first_at h
    rw [byte_yes r ha, decide_eq_true (by omega)]; simp
  · rw [byte_no h, show l.contains x = false by simpa using h]; rfl
theorem cut_one (l : List UInt8) (x : UInt8) : Lib.cut l [x] = cutC x l := by
  unfold Lib.cut
  by_cases h : x ∈ l
  · obtain ⟨a, r, rfl, ha⟩ := first_at h
    rw [index_yes r ha, if_pos (by omega), cutC_yes r ha]
    simp
  · rw [index_no h, if_neg (by omega), cutC_no h]
theorem splitC_no {x : UInt8} : ∀ {l : List UInt8}, x ∉ l → splitC x l = [l]
  | [], _ => rfl
  | c :: l, h => by
    rw [List.mem_cons, not_or] at h
    unfold splitC
    rw [if_neg (fun e => h.1 e.symm), splitC_no h.2]
theorem splitC_yes {x : UInt8} : ∀ {a : List UInt8} (r : List UInt8), x ∉ a → splitC x (a ++ x :: r) = a :: splitC x r
  | [], r, _ => by simp [splitC]
  | c :: a, r, h => by
    rw [List.mem_cons, not_or] at h
    rw [List.cons_append]
    conv => lhs; unfold splitC
    rw [if_neg (fun e => h.1 e.symm), splitC_yes r h.2]
theorem split_one (x : UInt8) : ∀ (n : Nat) (l : List UInt8), l.length ≤ n → Lib.splitK [x] 0 (Lib.count l [x]) l = splitC x l
  | n, l, hn => by
    by_cases h : x ∈ l
    · obtain ⟨a, r, rfl, ha⟩ := first_at h
      cases n with
      | zero => simp at hn
      | succ n =>
        have e := index_yes r ha
        have e2 : List.drop (a.length + [x].length) (a ++ x :: r) = r := by simp
        rw [Lib.count_hit (by simp) e, e2, Nat.add_comm]
        unfold Lib.splitK
        rw [e, if_neg (by rw [beq_iff_eq]; omega), Int.toNat_natCast, e2, splitC_yes r ha, split_one x n r (by simp at hn; omega)]
        simp
    · rw [Lib.count_miss (index_no h), splitC_no h]; rfl
theorem pieces_one (s : ByteArray) (x : UInt8) : (Lib.splitB ⟨#[x]⟩ 0 (Lib.countB s ⟨#[x]⟩) s).map (·.data.toList) = splitC x s.data.toList := by
  rw [Lib.splitB_data]
  exact split_one x _ _ (Nat.le_refl _)
theorem pieces_len (s : ByteArray) (x : UInt8) : (Lib.splitB ⟨#[x]⟩ 0 (Lib.countB s ⟨#[x]⟩) s).length = Lib.countB s ⟨#[x]⟩ + 1 := Lib.splitB_all (⟨#[x]⟩ : ByteArray) (Nat.le_refl 1) 0 _ s rfl
end Src
end Go.Proofs.YtcjnficcggjeiaaDoor
set_option linter.unusedVariables false
set_option linter.unusedSimpArgs false
namespace Go.Proofs.YtcjnficcggjeiaaDoor
/-- An era: its offset, kind, saving, set, format; its end. -/
structure Era where
  off : Int
  kd : Int
  s : Int
  rs : ByteArray
  fm : ByteArray
  til : Bool
  y : Int
  m : Int
  k : Int
  wd : Int
  d : Int
  t : Int
  r : Int
deriving Inhabited
structure Zone where
  nm : ByteArray
  es : List Era
deriving Inhabited
structure Link where
  tg : ByteArray
  nm : ByteArray
deriving Inhabited
structure Source where
  rules : List Rule
  zones : List Zone
  links : List Link
namespace Src
def saveB (s : Int) : Bool := decide (-43200 ≤ s ∧ s ≤ 43200)
def yearB (n : Int) : Bool := decide (1 ≤ n ∧ n ≤ 9999)
def letterB (l : List UInt8) : Bool := l.isEmpty || (!(l == [45]) && madeB l 8 [43, 45])
def ruleB (x : Rule) : Bool := setB x.nm.data.toList && Rul.rightB x && letterB x.l.data.toList
def kindB (x : Era) : Bool := if x.kd = 0 then x.s == 0 && x.rs.data.toList.isEmpty else if x.kd = 1 then saveB x.s && x.rs.data.toList.isEmpty else if x.kd = 2 then x.s == 0 && setB x.rs.data.toList else false
def endB (x : Era) : Bool := if x.til = true then yearB x.y && Mom.rightB x.m x.k x.wd x.d x.t x.r else x.y == 0 && (x.m == 0 && x.k == 0 && x.wd == 0 && x.d == 0 && x.t == 0 && x.r == 0)
def offB (x : Era) : Bool := decide (-86400 < x.off ∧ x.off < 86400)
def eraB (x : Era) : Bool := offB x && fmtB x.fm.data.toList && kindB x && endB x
/-- Eras of a zone, up to its last. -/
def erasB : List Era → Bool
  | [] => true
  | x :: l => eraB x && (x.til == !l.isEmpty) && erasB l
def zoneB (z : Zone) : Bool := placeB z.nm.data.toList && decide (1 ≤ z.es.length ∧ z.es.length ≤ 40) && erasB z.es
def linkB (x : Link) : Bool := placeB x.tg.data.toList && placeB x.nm.data.toList
def lensB (s : Source) : Bool := decide (s.rules.length ≤ 200 ∧ s.zones.length ≤ 50 ∧ s.links.length ≤ 100)
def srcB (s : Source) : Bool := lensB s && (s.rules.all ruleB && (s.zones.all zoneB && s.links.all linkB))
theorem rules_ok {s : Source} (h : srcB s = true) : Rul.allB s.rules = true := by
  unfold srcB at h
  simp only [Bool.and_eq_true] at h
  have := h.2.1
  rw [List.all_eq_true] at this
  exact List.all_eq_true.2 fun x hx => by have := this x hx; unfold ruleB at this; simp only [Bool.and_eq_true] at this; exact this.1.2
theorem all_drop {α : Type} (f : α → Bool) (l : List α) (j : Nat) (h : j < l.length) : (l.drop j).all f = (f l[j] && (l.drop (j + 1)).all f) := by
  rw [List.drop_eq_getElem_cons h, List.all_cons]
theorem eras_drop (l : List Era) (j : Nat) (h : j < l.length) : erasB (l.drop j) = (eraB l[j] && (l[j].til == decide (j + 1 < l.length)) && erasB (l.drop (j + 1))) := by
  rw [List.drop_eq_getElem_cons h]
  show (eraB l[j] && (l[j].til == !(l.drop (j + 1)).isEmpty) && _) = _
  have : (!(l.drop (j + 1)).isEmpty) = decide (j + 1 < l.length) := by
    rw [Bool.eq_iff_iff]; simp
  rw [this]
/-- The document's. -/
def reraB (x : Era) : Bool := offB x && saveB x.s && fmtB x.fm.data.toList && (decide (0 ≤ x.kd ∧ x.kd ≤ 2) && (x.kd == 1 || x.s == 0) && (x.kd == 2 || x.rs.data.toList.isEmpty) && (!(x.kd == 2) || setB x.rs.data.toList)) && endB x
theorem era_same (x : Era) : reraB x = eraB x := by
  unfold reraB eraB kindB saveB
  cases offB x <;> cases fmtB x.fm.data.toList <;> cases endB x <;> simp
  by_cases h0 : x.kd = 0
  · rw [h0]; simp
    by_cases hs : x.s = 0
    · rw [hs]; simp
    · simp [hs]
  · by_cases h1 : x.kd = 1
    · rw [h1]; simp
    · by_cases h2 : x.kd = 2
      · rw [h2]; simp
        by_cases hs : x.s = 0
        · rw [hs]; simp
        · simp [hs]
      · have hk : (decide (0 ≤ x.kd) && decide (x.kd ≤ 2)) = false := by
          rw [Bool.and_eq_false_iff, decide_eq_false_iff_not, decide_eq_false_iff_not]; omega
        rw [if_neg h0, if_neg h1, show decide (x.kd = 2) = false from decide_eq_false h2, hk]
        simp
end Src
end Go.Proofs.YtcjnficcggjeiaaDoor
