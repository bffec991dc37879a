/- Plain laws of fields: no program in sight. -/
import Derived.Test.YtdhbgelijjlifaaGreatDoorProg
import Derived.WalkKit
import Derived.WalkSpells
import Derived.WalkLawsBesides
import Derived.Test.YtdhbgelijjlifaaGreatDoorOwns
import Derived.Lib.Bytealg
import Derived.Lib.IndexBytes
import Derived.Test.YtdhbgelijjlifaaGreatDoorShelf
set_option linter.unusedVariables false
set_option linter.unusedSimpArgs false
namespace Go.Proofs.YtdhbgelijjlifaaGreatDoor
namespace Fie
def blank (c : UInt8) : Bool := decide ((c.toNat : Int) = 32 ∨ (c.toNat : Int) = 9)
def bare (c : UInt8) : Bool := decide (32 < (c.toNat : Int) ∧ (c.toNat : Int) ≤ 126 ∧ (c.toNat : Int) ≠ 34 ∧ (c.toNat : Int) ≠ 35)
def within (c : UInt8) : Bool := decide (32 ≤ (c.toNat : Int) ∧ (c.toNat : Int) ≤ 126 ∧ (c.toNat : Int) ≠ 34)
def stopN (p : UInt8 → Bool) (s : ByteArray) : Nat → Nat → Nat
 | 0, k => k
 | f + 1, k => if h : k < s.size then (if p s[k] = true then stopN p s f (k + 1) else k) else k
def stop (p : UInt8 → Bool) (s : ByteArray) (k : Nat) : Nat := stopN p s (s.size - k) k
theorem stop_end (p : UInt8 → Bool) (s : ByteArray) (k : Nat) (h : s.size ≤ k) : stop p s k = k := by
 unfold stop; rw [show s.size - k = 0 by omega]; rfl
theorem stop_yes (p : UInt8 → Bool) (s : ByteArray) (k : Nat) (h : k < s.size) (hp : p s[k] = true) : stop p s k = stop p s (k + 1) := by
 unfold stop
 obtain ⟨f, hf⟩ : ∃ f, s.size - k = f + 1 := ⟨s.size - k - 1, by omega⟩
 rw [hf, show s.size - (k + 1) = f by omega]
 simp [stopN, h, hp]
theorem stop_no (p : UInt8 → Bool) (s : ByteArray) (k : Nat) (h : k < s.size) (hp : p s[k] = false) : stop p s k = k := by
 unfold stop
 obtain ⟨f, hf⟩ : ∃ f, s.size - k = f + 1 := ⟨s.size - k - 1, by omega⟩
 rw [hf]
 simp [stopN, h, hp]
theorem stop_bd (p : UInt8 → Bool) (s : ByteArray) : ∀ (f k : Nat), s.size - k = f → k ≤ s.size → k ≤ stop p s k ∧ stop p s k ≤ s.size
 | 0, k, hf, h => by rw [stop_end p s k (by omega)]; omega
 | f + 1, k, hf, h => by
   have hk : k < s.size := by omega
   cases hp : p s[k]
   · rw [stop_no p s k hk hp]; omega
   · rw [stop_yes p s k hk hp]
     have := stop_bd p s f (k + 1) (by omega) (by omega)
     omega
theorem stop_le (p : UInt8 → Bool) (s : ByteArray) (k : Nat) (h : k ≤ s.size) : k ≤ stop p s k ∧ stop p s k ≤ s.size := stop_bd p s _ k rfl h
def noq (c : UInt8) : Bool := !decide ((c.toNat : Int) = 34)
theorem noq_yes {c : UInt8} (h : noq c = true) : ((c.toNat : Int) == 34) = false := by simp [noq] at h; simpa using h
theorem noq_no {c : UInt8} (h : noq c = false) : ((c.toNat : Int) == 34) = true := by simp [noq] at h; simpa using h
def secondI (s : ByteArray) (k : Nat) : Int := if stop noq s k < s.size then (stop noq s k : Int) else -1
end Fie
end Go.Proofs.YtdhbgelijjlifaaGreatDoor
namespace Go.Proofs.YtdhbgelijjlifaaGreatDoor
open Go.RowKit
set_option maxHeartbeats 400000 in
theorem blank_any (c : UInt8) (w : World) : Rets Tryz.prog 79 #[.int .u8 c.toNat] w (.bool (Fie.blank c)) := by
 go_enter Tryz.func79, Tryz.ntmps79
 go_wp2
 all_goals (go_ret; refine ⟨ret_bool ?_, done⟩; rw [Bool.eq_iff_iff]; simp [Fie.blank, *]; try omega)
set_option maxHeartbeats 400000 in
theorem bare_any (c : UInt8) (w : World) : Rets Tryz.prog 80 #[.int .u8 c.toNat] w (.bool (Fie.bare c)) := by
 go_enter Tryz.func80, Tryz.ntmps80
 go_wp2
 all_goals (go_ret; refine ⟨ret_bool ?_, done⟩; rw [Bool.eq_iff_iff]; simp [Fie.bare, *]; try omega)
set_option maxHeartbeats 400000 in
theorem within_any (c : UInt8) (w : World) : Rets Tryz.prog 81 #[.int .u8 c.toNat] w (.bool (Fie.within c)) := by
 go_enter Tryz.func81, Tryz.ntmps81
 go_wp2
 all_goals (go_ret; refine ⟨ret_bool ?_, done⟩; rw [Bool.eq_iff_iff]; simp [Fie.within, *]; try omega)
set_option maxHeartbeats 1000000 in
theorem while_blank (s : ByteArray) (k : Int) (w : World) (h0 : 0 ≤ k) (hk : k ≤ s.size) (hs : s.size ≤ maxLen) :
 Rets Tryz.prog 78 #[.string s, .int .i64 k, .func (.func 79) #[] #[]] w (.int .i64 (Fie.stop Fie.blank s k.toNat)) := by
 obtain ⟨n, rfl⟩ := Int.eq_ofNat_of_zero_le h0
 rw [Int.toNat_natCast]
 have hn : n ≤ s.size := by omega
 clear hk h0
 unfold maxLen at hs
 go_enter Tryz.func78, Tryz.ntmps78
 go_wp2
 go_loopw [1] (fun i wr => ∃ j : Nat, n ≤ j ∧ j ≤ s.size ∧ i = .int .i64 j ∧ Hid (Fie.stop Fie.blank s n = Fie.stop Fie.blank s j) ∧ Ext w wr) (fun i _ => s.size - (intOf i).toNat)
 case atStart => exact ⟨n, by omega, hn, rfl, rfl, isext⟩
 case round =>
  obtain ⟨j, j1, j2, rfl, he, hx⟩ := hrel
  obtain ⟨yr, rfl⟩ := fin hx
  clear hx
  by_cases hlt : j < s.size
  · cases hp : Fie.blank s[j]
    · have e := Lib.hid (Fie.stop_no Fie.blank s j hlt hp)
      go_wp2_with (go_at_call 79; refine Rets.use1 (blank_any _ _) ?_; intro _)
      go_ret
      exact ⟨ret_int (by rw [he.out, e.out]), done⟩
    · have e := Lib.hid (Fie.stop_yes Fie.blank s j hlt hp)
      go_wp2_with (go_at_call 79; refine Rets.use1 (blank_any _ _) ?_; intro _)
      go_roundw
      case rel => exact ⟨j + 1, by omega, by omega, by go_num, by show _ = _; rw [he.out, e.out], isext⟩
      case measure => simp [intOf]; omega
  · have e := Lib.hid (Fie.stop_end Fie.blank s j (by omega))
    go_wp2
    go_ret
    exact ⟨ret_int (by rw [he.out, e.out]), done⟩
set_option maxHeartbeats 1000000 in
theorem while_bare (s : ByteArray) (k : Int) (w : World) (h0 : 0 ≤ k) (hk : k ≤ s.size) (hs : s.size ≤ maxLen) :
 Rets Tryz.prog 78 #[.string s, .int .i64 k, .func (.func 80) #[] #[]] w (.int .i64 (Fie.stop Fie.bare s k.toNat)) := by
 obtain ⟨n, rfl⟩ := Int.eq_ofNat_of_zero_le h0
 rw [Int.toNat_natCast]
 have hn : n ≤ s.size := by omega
 clear hk h0
 unfold maxLen at hs
 go_enter Tryz.func78, Tryz.ntmps78
 go_wp2
 go_loopw [1] (fun i wr => ∃ j : Nat, n ≤ j ∧ j ≤ s.size ∧ i = .int .i64 j ∧ Hid (Fie.stop Fie.bare s n = Fie.stop Fie.bare s j) ∧ Ext w wr) (fun i _ => s.size - (intOf i).toNat)
 case atStart => exact ⟨n, by omega, hn, rfl, rfl, isext⟩
 case round =>
  obtain ⟨j, j1, j2, rfl, he, hx⟩ := hrel
  obtain ⟨yr, rfl⟩ := fin hx
  clear hx
  by_cases hlt : j < s.size
  · cases hp : Fie.bare s[j]
    · have e := Lib.hid (Fie.stop_no Fie.bare s j hlt hp)
      go_wp2_with (go_at_call 80; refine Rets.use1 (bare_any _ _) ?_; intro _)
      go_ret
      exact ⟨ret_int (by rw [he.out, e.out]), done⟩
    · have e := Lib.hid (Fie.stop_yes Fie.bare s j hlt hp)
      go_wp2_with (go_at_call 80; refine Rets.use1 (bare_any _ _) ?_; intro _)
      go_roundw
      case rel => exact ⟨j + 1, by omega, by omega, by go_num, by show _ = _; rw [he.out, e.out], isext⟩
      case measure => simp [intOf]; omega
  · have e := Lib.hid (Fie.stop_end Fie.bare s j (by omega))
    go_wp2
    go_ret
    exact ⟨ret_int (by rw [he.out, e.out]), done⟩
set_option maxHeartbeats 1000000 in
theorem while_within (s : ByteArray) (k : Int) (w : World) (h0 : 0 ≤ k) (hk : k ≤ s.size) (hs : s.size ≤ maxLen) :
 Rets Tryz.prog 78 #[.string s, .int .i64 k, .func (.func 81) #[] #[]] w (.int .i64 (Fie.stop Fie.within s k.toNat)) := by
 obtain ⟨n, rfl⟩ := Int.eq_ofNat_of_zero_le h0
 rw [Int.toNat_natCast]
 have hn : n ≤ s.size := by omega
 clear hk h0
 unfold maxLen at hs
 go_enter Tryz.func78, Tryz.ntmps78
 go_wp2
 go_loopw [1] (fun i wr => ∃ j : Nat, n ≤ j ∧ j ≤ s.size ∧ i = .int .i64 j ∧ Hid (Fie.stop Fie.within s n = Fie.stop Fie.within s j) ∧ Ext w wr) (fun i _ => s.size - (intOf i).toNat)
 case atStart => exact ⟨n, by omega, hn, rfl, rfl, isext⟩
 case round =>
  obtain ⟨j, j1, j2, rfl, he, hx⟩ := hrel
  obtain ⟨yr, rfl⟩ := fin hx
  clear hx
  by_cases hlt : j < s.size
  · cases hp : Fie.within s[j]
    · have e := Lib.hid (Fie.stop_no Fie.within s j hlt hp)
      go_wp2_with (go_at_call 81; refine Rets.use1 (within_any _ _) ?_; intro _)
      go_ret
      exact ⟨ret_int (by rw [he.out, e.out]), done⟩
    · have e := Lib.hid (Fie.stop_yes Fie.within s j hlt hp)
      go_wp2_with (go_at_call 81; refine Rets.use1 (within_any _ _) ?_; intro _)
      go_roundw
      case rel => exact ⟨j + 1, by omega, by omega, by go_num, by show _ = _; rw [he.out, e.out], isext⟩
      case measure => simp [intOf]; omega
  · have e := Lib.hid (Fie.stop_end Fie.within s j (by omega))
    go_wp2
    go_ret
    exact ⟨ret_int (by rw [he.out, e.out]), done⟩
end Go.Proofs.YtdhbgelijjlifaaGreatDoor
namespace Go.Proofs.YtdhbgelijjlifaaGreatDoor
open Go.RowKit
def wordCells : List (ByteArray × Int) → List Value
 | [] => []
 | x :: l => .string x.1 :: .int .i64 x.2 :: wordCells l
theorem wordCells_at (l : List (ByteArray × Int)) : ∀ (i : Nat) (h : i < l.length), (wordCells l)[i * 2]? = some (.string l[i].1) ∧ (wordCells l)[i * 2 + 1]? = some (.int .i64 l[i].2) := by
 induction l with
 | nil => intro i h; simp at h
 | cons x l ih =>
   intro i h
   cases i with
   | zero => simp [wordCells]
   | succ i =>
     have := ih i (by simpa using h)
     simpa [wordCells, Nat.add_mul] using this
set_option maxHeartbeats 1000000 in
theorem second_any (s : ByteArray) (k : Int) (w : World) (h0 : 0 ≤ k) (hk : k < s.size) (hs : s.size ≤ maxLen) :
 Rets Tryz.prog 35 #[.string s, .int .i64 k] w (.int .i64 (Fie.secondI s (k.toNat + 1))) := by
 obtain ⟨n, rfl⟩ := Int.eq_ofNat_of_zero_le h0
 rw [Int.toNat_natCast]
 have hn : n < s.size := by omega
 clear hk h0
 unfold maxLen at hs
 go_enter Tryz.func35, Tryz.ntmps35
 go_wp2
 go_loopw [5] (fun i wr => ∃ j : Nat, n + 1 ≤ j ∧ j ≤ s.size ∧ i = .int .i64 j ∧ Hid (Fie.stop Fie.noq s (n + 1) = Fie.stop Fie.noq s j) ∧ Ext w wr) (fun i _ => s.size - (intOf i).toNat)
 case atStart => exact ⟨n + 1, by omega, by omega, by go_num, rfl, isext⟩
 case round =>
  obtain ⟨j, j1, j2, rfl, he, hx⟩ := hrel
  obtain ⟨yr, rfl⟩ := fin hx
  clear hx
  by_cases hlt : j < s.size
  · cases hp : Fie.noq s[j]
    · have e := Lib.hid (Fie.stop_no Fie.noq s j hlt hp)
      have g : ((s[j].toNat : Int) == 34) = true := Fie.noq_no hp
      go_wp2
      go_ret
      exact ⟨ret_int (by rw [Fie.secondI, he.out, e.out, if_pos hlt]), done⟩
    · have e := Lib.hid (Fie.stop_yes Fie.noq s j hlt hp)
      have g : ((s[j].toNat : Int) == 34) = false := Fie.noq_yes hp
      go_wp2
      go_roundw
      case rel => exact ⟨j + 1, by omega, by omega, by go_num, by show _ = _; rw [he.out, e.out], isext⟩
      case measure => simp [intOf]; omega
  · have e := Lib.hid (Fie.stop_end Fie.noq s j (by omega))
    go_wp2
    go_ret
    exact ⟨ret_int (by rw [Fie.secondI, he.out, e.out, if_neg hlt]), done⟩
end Go.Proofs.YtdhbgelijjlifaaGreatDoor
namespace Go.Proofs.YtdhbgelijjlifaaGreatDoor
namespace Fie
theorem drop_at (s : ByteArray) (k : Nat) (h : k < s.size) : s.data.toList.drop k = s[k] :: s.data.toList.drop (k + 1) := by
 rw [List.drop_eq_getElem_cons (by simpa using h)]; rfl
theorem index_neg (s : ByteArray) : ∀ (f k : Nat), s.size - k = f → k ≤ s.size → ((Lib.indexByte (s.data.toList.drop k) 34 < 0) ↔ stop noq s k = s.size)
 | 0, k, hf, h => by
   rw [stop_end noq s k (by omega), List.drop_eq_nil_of_le (by simp; omega)]
   simp [Lib.indexByte]; omega
 | f + 1, k, hf, h => by
   have hk : k < s.size := by omega
   have ih := index_neg s f (k + 1) (by omega) (by omega)
   rw [drop_at s k hk]
   cases hp : noq s[k]
   · rw [stop_no noq s k hk hp]
     have : s[k] = 34 := by
      simp [noq] at hp; exact UInt8.toNat_inj.1 (by show s[k].toNat = 34; omega)
     simp [Lib.indexByte, this]; omega
   · rw [stop_yes noq s k hk hp, ← ih]
     have : s[k] ≠ 34 := by
      intro e; rw [e] at hp; simp [noq] at hp
     have hge := Lib.indexByte_ge (s.data.toList.drop (k + 1)) 34
     simp only [Lib.indexByte]
     rw [if_neg (by simpa using this)]
     by_cases e : Lib.indexByte (s.data.toList.drop (k + 1)) 34 = -1
     · rw [if_pos (by simpa using e)]; omega
     · rw [if_neg (by simpa using e)]; omega
theorem index_quote (s : ByteArray) (k : Nat) (h : k ≤ s.size) : (Lib.indexByte (List.take (s.size - k) (List.drop k s.data.toList)) 34 < 0) ↔ stop noq s k = s.size := by
 rw [List.take_of_length_le (by simp)]; exact index_neg s _ k rfl h
end Fie
end Go.Proofs.YtdhbgelijjlifaaGreatDoor
namespace Go.Proofs.YtdhbgelijjlifaaGreatDoor
open Go.RowKit
def wrongI (s : ByteArray) (k e : Nat) : Int := if Fie.stop Fie.noq s (k + 1) = s.size then k else e
set_option maxHeartbeats 1000000 in
theorem wrong_any (s : ByteArray) (k e : Int) (w : World) (h0 : 0 ≤ k) (hk : k < s.size) (he : 0 ≤ e) (hs : s.size ≤ maxLen) :
 Rets Tryz.prog 82 #[.string s, .int .i64 k, .int .i64 e] w (.int .i64 (wrongI s k.toNat e.toNat)) := by
 obtain ⟨n, rfl⟩ := Int.eq_ofNat_of_zero_le h0
 obtain ⟨m, rfl⟩ := Int.eq_ofNat_of_zero_le he
 rw [Int.toNat_natCast, Int.toNat_natCast]
 have hn : n < s.size := by omega
 clear hk h0 he
 unfold maxLen at hs
 have hq := Fie.index_quote s (n + 1) (by omega)
 by_cases c : Fie.stop Fie.noq s (n + 1) = s.size
 · have e : Hid (wrongI s n m = n) := if_pos c
   have g := hq.2 c
   clear hq c
   go_enter Tryz.func82, Tryz.ntmps82
   go_wp2_with (go_at_call 57; refine (Tryz.strings_IndexByte _ _ _).mono ?_; rintro e w' ⟨rfl, rfl⟩)
   go_ret
   exact ⟨ret_int e.out.symm, done⟩
 · have e : Hid (wrongI s n m = m) := if_neg c
   have g := fun h => c (hq.1 h)
   clear hq c
   go_enter Tryz.func82, Tryz.ntmps82
   go_wp2_with (go_at_call 57; refine (Tryz.strings_IndexByte _ _ _).mono ?_; rintro e w' ⟨rfl, rfl⟩)
   go_ret
   exact ⟨ret_int e.out.symm, done⟩
end Go.Proofs.YtdhbgelijjlifaaGreatDoor
namespace Go.Proofs.YtdhbgelijjlifaaGreatDoor
open Go.RowKit
abbrev Cut := (Int × Int) ⊕ (Nat × Nat × Nat)
abbrev bad (p e : Int) : Cut := .inl (p, e)
abbrev good (lo hi en : Nat) : Cut := .inr (lo, hi, en)
def tailOk (s : ByteArray) (en : Nat) : Bool := if h : en < s.size then (decide ((s[en].toNat : Int) = 35) || Fie.blank s[en]) else true
def cut (s : ByteArray) (k cnt : Nat) : Cut :=
 if h : k < s.size then
  if (s[k].toNat : Int) = 34 then
   if cnt = 16 then bad k 12
   else if hq : Fie.stop Fie.within s (k + 1) < s.size then
    (if (s[Fie.stop Fie.within s (k + 1)].toNat : Int) = 34 then
      (if tailOk s (Fie.stop Fie.within s (k + 1) + 1) = true then good (k + 1) (Fie.stop Fie.within s (k + 1)) (Fie.stop Fie.within s (k + 1) + 1) else bad ((Fie.stop Fie.within s (k + 1) + 1 : Nat) : Int) 6)
    else bad (wrongI s k (Fie.stop Fie.within s (k + 1))) 6)
   else bad (wrongI s k (Fie.stop Fie.within s (k + 1))) 6
  else if Fie.bare s[k] = false then bad k 6
  else if cnt = 16 then bad k 12
  else if tailOk s (Fie.stop Fie.bare s k) = true then good k (Fie.stop Fie.bare s k) (Fie.stop Fie.bare s k) else bad (Fie.stop Fie.bare s k : Nat) 6
 else bad 0 0
def runN (s : ByteArray) : Nat → Nat → List (ByteArray × Int) → List (ByteArray × Int) × Int × Int
 | 0, _, ws => (ws, 0, 0)
 | f + 1, k, ws => if h : k < s.size then (if (s[k].toNat : Int) = 35 then (ws, 0, 0) else match cut s k ws.length with
   | .inl (p, e) => ([], p, e)
   | .inr (lo, hi, en) => runN s f (Fie.stop Fie.blank s en) (ws ++ [(s.extract lo hi, (k : Int))])) else (ws, 0, 0)
def run (s : ByteArray) (k : Nat) (ws : List (ByteArray × Int)) : List (ByteArray × Int) × Int × Int := runN s (s.size - k) k ws
theorem run_end (s : ByteArray) (k : Nat) (ws : List (ByteArray × Int)) (h : s.size ≤ k) : run s k ws = (ws, 0, 0) := by
 unfold run; rw [show s.size - k = 0 by omega]; rfl
theorem run_hash (s : ByteArray) (k : Nat) (ws : List (ByteArray × Int)) (h : k < s.size) (hc : (s[k].toNat : Int) = 35) : run s k ws = (ws, 0, 0) := by
 unfold run
 obtain ⟨f, hf⟩ : ∃ f, s.size - k = f + 1 := ⟨s.size - k - 1, by omega⟩
 rw [hf]; simp only [runN]; rw [dif_pos h, if_pos hc]
theorem run_bad (s : ByteArray) (k : Nat) (ws : List (ByteArray × Int)) (p e : Int) (h : k < s.size) (hc : ¬ (s[k].toNat : Int) = 35) (hb : cut s k ws.length = bad p e) : run s k ws = ([], p, e) := by
 unfold run
 obtain ⟨f, hf⟩ : ∃ f, s.size - k = f + 1 := ⟨s.size - k - 1, by omega⟩
 rw [hf]; simp only [runN]; rw [dif_pos h, if_neg hc, hb]
theorem cut_bd (s : ByteArray) (k cnt lo hi en : Nat) (h : k < s.size) (hb : cut s k cnt = good lo hi en) : k < en ∧ en ≤ s.size ∧ lo ≤ hi ∧ hi ≤ s.size ∧ k ≤ lo := by
 unfold cut at hb
 rw [dif_pos h] at hb
 have b1 := Fie.stop_le Fie.within s (k + 1) (by omega)
 have b2 := Fie.stop_le Fie.bare s k (by omega)
 by_cases c1 : (s[k].toNat : Int) = 34
 · rw [if_pos c1] at hb
   by_cases c2 : cnt = 16
   · rw [if_pos c2] at hb; cases hb
   rw [if_neg c2] at hb
   by_cases c3 : Fie.stop Fie.within s (k + 1) < s.size
   · rw [dif_pos c3] at hb
     by_cases c4 : (s[Fie.stop Fie.within s (k + 1)].toNat : Int) = 34
     · rw [if_pos c4] at hb
       by_cases c5 : tailOk s (Fie.stop Fie.within s (k + 1) + 1) = true
       · rw [if_pos c5] at hb
         simp only [good, Sum.inr.injEq, Prod.mk.injEq] at hb
         omega
       · rw [if_neg c5] at hb; cases hb
     · rw [if_neg c4] at hb; cases hb
   · rw [dif_neg c3] at hb; cases hb
 · rw [if_neg c1] at hb
   cases c2 : Fie.bare s[k]
   · rw [if_pos c2] at hb; cases hb
   · rw [if_neg (by rw [c2]; simp)] at hb
     have b3 := Fie.stop_le Fie.bare s (k + 1) (by omega)
     have b4 := Fie.stop_yes Fie.bare s k h c2
     by_cases c3 : cnt = 16
     · rw [if_pos c3] at hb; cases hb
     rw [if_neg c3] at hb
     by_cases c5 : tailOk s (Fie.stop Fie.bare s k) = true
     · rw [if_pos c5] at hb
       simp only [good, Sum.inr.injEq, Prod.mk.injEq] at hb
       omega
     · rw [if_neg c5] at hb; cases hb
theorem runN_fuel (s : ByteArray) : ∀ (f k : Nat) (ws : List (ByteArray × Int)), s.size - k ≤ f → runN s f k ws = run s k ws := by
 have key : ∀ (d f g k : Nat) (ws : List (ByteArray × Int)), s.size - k ≤ d → s.size - k ≤ f → s.size - k ≤ g → runN s f k ws = runN s g k ws := by
  intro d
  induction d with
  | zero =>
    intro f g k ws h0 _ _
    have hk : ¬ k < s.size := by omega
    cases f <;> cases g <;> simp [runN, hk]
  | succ d ih =>
    intro f g k ws h0 hf hg
    by_cases hk : k < s.size
    · obtain ⟨f, rfl⟩ : ∃ f', f = f' + 1 := ⟨f - 1, by omega⟩
      obtain ⟨g, rfl⟩ : ∃ g', g = g' + 1 := ⟨g - 1, by omega⟩
      simp only [runN]
      rw [dif_pos hk, dif_pos hk]
      by_cases hc : (s[k].toNat : Int) = 35
      · rw [if_pos hc, if_pos hc]
      · rw [if_neg hc, if_neg hc]
        cases hcut : cut s k ws.length with
        | inl x => rfl
        | inr x =>
          obtain ⟨lo, hi, en⟩ := x
          have hb := cut_bd s k ws.length lo hi en hk hcut
          have hs := Fie.stop_le Fie.blank s en (by omega)
          exact ih f g _ _ (by omega) (by omega) (by omega)
    · cases f <;> cases g <;> simp [runN, hk]
 intro f k ws h
 exact key f f (s.size - k) k ws h h (Nat.le_refl _)
theorem run_good (s : ByteArray) (k : Nat) (ws : List (ByteArray × Int)) (lo hi en : Nat) (h : k < s.size) (hc : ¬ (s[k].toNat : Int) = 35) (hb : cut s k ws.length = good lo hi en) :
 run s k ws = run s (Fie.stop Fie.blank s en) (ws ++ [(s.extract lo hi, (k : Int))]) := by
 have hbd := cut_bd s k ws.length lo hi en h hb
 have hs := Fie.stop_le Fie.blank s en (by omega)
 rw [← runN_fuel s (s.size - k - 1) (Fie.stop Fie.blank s en) _ (by omega)]
 unfold run
 obtain ⟨f, hf⟩ : ∃ f, s.size - k = f + 1 := ⟨s.size - k - 1, by omega⟩
 rw [hf]; simp only [runN]; rw [dif_pos h, if_neg hc, hb]; rfl
end Go.Proofs.YtdhbgelijjlifaaGreatDoor
namespace Go.Proofs.YtdhbgelijjlifaaGreatDoor
namespace Fie
def nolf (c : UInt8) : Bool := !decide ((c.toNat : Int) = 10)
theorem nolf_yes {c : UInt8} (h : nolf c = true) : ((c.toNat : Int) == 10) = false := by simp [nolf] at h; simpa using h
theorem nolf_no {c : UInt8} (h : nolf c = false) : ((c.toNat : Int) == 10) = true := by simp [nolf] at h; simpa using h
def linesN (s : ByteArray) : Nat → Nat → List ByteArray
 | 0, _ => []
 | f + 1, k => if k < s.size then s.extract k (stop nolf s k) :: linesN s f (stop nolf s k + 1) else []
def lines (s : ByteArray) (k : Nat) : List ByteArray := linesN s (s.size - k) k
theorem lines_end (s : ByteArray) (k : Nat) (h : s.size ≤ k) : lines s k = [] := by
 unfold lines; rw [show s.size - k = 0 by omega]; rfl
theorem linesN_fuel (s : ByteArray) : ∀ (d f g k : Nat), s.size - k ≤ d → s.size - k ≤ f → s.size - k ≤ g → linesN s f k = linesN s g k := by
 intro d
 induction d with
 | zero =>
   intro f g k h0 _ _
   have hk : ¬ k < s.size := by omega
   cases f <;> cases g <;> simp [linesN, hk]
 | succ d ih =>
   intro f g k h0 hf hg
   by_cases hk : k < s.size
   · obtain ⟨f, rfl⟩ : ∃ f', f = f' + 1 := ⟨f - 1, by omega⟩
     obtain ⟨g, rfl⟩ : ∃ g', g = g' + 1 := ⟨g - 1, by omega⟩
     simp only [linesN]
     rw [if_pos hk, if_pos hk]
     have hs := stop_le nolf s k (by omega)
     rw [ih f g _ (by omega) (by omega) (by omega)]
   · cases f <;> cases g <;> simp [linesN, hk]
theorem lines_more (s : ByteArray) (k : Nat) (h : k < s.size) : lines s k = s.extract k (stop nolf s k) :: lines s (stop nolf s k + 1) := by
 have hs := stop_le nolf s k (by omega)
 unfold lines
 obtain ⟨f, hf⟩ : ∃ f, s.size - k = f + 1 := ⟨s.size - k - 1, by omega⟩
 rw [hf]
 simp only [linesN]
 rw [if_pos h, linesN_fuel s s.size f (s.size - (stop nolf s k + 1)) _ (by omega) (by omega) (by omega)]
theorem stop_mid (p : UInt8 → Bool) (s : ByteArray) : ∀ (d j k : Nat), k - j = d → j ≤ k → k ≤ stop p s j → stop p s j = stop p s k
 | 0, j, k, hd, h1, _ => by rw [show k = j by omega]
 | d + 1, j, k, hd, h1, h2 => by
   have hj : j < s.size := by
    rcases Nat.lt_or_ge j s.size with h | h
    · exact h
    · rw [stop_end p s j h] at h2; omega
   cases hp : p s[j]
   · rw [stop_no p s j hj hp] at h2; omega
   · have e := stop_yes p s j hj hp
     rw [e] at h2 ⊢
     exact stop_mid p s d (j + 1) k (by omega) (by omega) h2
theorem drop_atE (s : ByteArray) (k : Nat) (h : k < s.size) : s.data.toList.drop k = s[k] :: s.data.toList.drop (k + 1) := by
 rw [List.drop_eq_getElem_cons (by simpa using h)]; rfl
theorem index_stop (s : ByteArray) (c : UInt8) (p : UInt8 → Bool) (hp : ∀ x, p x = true ↔ x ≠ c) : ∀ (f k : Nat), s.size - k = f → k ≤ s.size →
 Lib.indexByte (s.data.toList.drop k) c = if stop p s k < s.size then ((stop p s k - k : Nat) : Int) else -1
 | 0, k, hf, h => by
   rw [stop_end p s k (by omega), List.drop_eq_nil_of_le (by simp; omega), if_neg (by omega)]
   simp [Lib.indexByte]
 | f + 1, k, hf, h => by
   have hk : k < s.size := by omega
   have ih := index_stop s c p hp f (k + 1) (by omega) (by omega)
   have hle := stop_le p s (k + 1) (by omega)
   rw [drop_atE s k hk]
   cases hq : p s[k]
   · rw [stop_no p s k hk hq, if_pos hk]
     have : s[k] = c := by
      rcases Classical.em (s[k] = c) with h | h
      · exact h
      · rw [(hp _).2 h] at hq; cases hq
     simp [Lib.indexByte, this]
   · rw [stop_yes p s k hk hq]
     have hne : s[k] ≠ c := (hp _).1 hq
     simp only [Lib.indexByte]
     rw [if_neg (by simpa using hne), ih]
     by_cases e : stop p s (k + 1) < s.size
     · rw [if_pos e, if_pos e, if_neg (by simp)]
       omega
     · rw [if_neg e, if_neg e, if_pos (by simp)]
theorem nolf_iff (x : UInt8) : nolf x = true ↔ x ≠ 10 := by
 simp only [nolf, Bool.not_eq_true', decide_eq_false_iff_not]
 constructor
 · rintro h rfl; exact h rfl
 · intro h e; exact h (UInt8.toNat_inj.1 (by show x.toNat = 10; omega))
theorem index_lf (s : ByteArray) : Lib.indexByte s.data.toList 10 = if stop nolf s 0 < s.size then ((stop nolf s 0 : Nat) : Int) else -1 := by
 have := index_stop s 10 nolf nolf_iff _ 0 rfl (by omega)
 simpa using this
theorem ext_size (s : ByteArray) (a b : Nat) (hb : b ≤ s.size) : (s.extract a b).size = b - a := by simp [ByteArray.size_extract]; omega
theorem stop_tail (p : UInt8 → Bool) (s : ByteArray) (k : Nat) : ∀ (f j : Nat), s.size - (k + j) = f → k + j ≤ s.size → stop p (s.extract k s.size) j + k = stop p s (k + j)
 | 0, j, hf, h => by
   have hz := ext_size s k s.size (Nat.le_refl _)
   rw [stop_end p s (k + j) (by omega), stop_end p _ j (by omega)]; omega
 | f + 1, j, hf, h => by
   have hz := ext_size s k s.size (Nat.le_refl _)
   have h1 : k + j < s.size := by omega
   have h2 : j < (s.extract k s.size).size := by omega
   have he : (s.extract k s.size)[j] = s[k + j] := by
    rw [ByteArray.getElem_extract]
   have ih := stop_tail p s k f (j + 1) (by omega) (by omega)
   cases hp : p s[k + j]
   · rw [stop_no p s _ h1 hp, stop_no p _ j h2 (by rw [he]; exact hp)]; omega
   · rw [stop_yes p s _ h1 hp, stop_yes p _ j h2 (by rw [he]; exact hp), ih]; rfl
theorem stop_tail0 (p : UInt8 → Bool) (s : ByteArray) (k : Nat) (h : k ≤ s.size) : stop p (s.extract k s.size) 0 + k = stop p s k := stop_tail p s k _ 0 rfl h
theorem ba_eq {a b : ByteArray} (h : a.data.toList = b.data.toList) : a = b := by
 cases a; cases b; congr 1; exact Array.toList_inj.1 h
theorem ext_ext (s : ByteArray) (k a b : Nat) (hb : k + b ≤ s.size) : (s.extract k s.size).extract a b = s.extract (k + a) (k + b) := by
 apply ba_eq
 rw [Lib.extract_data, Lib.extract_data, Lib.extract_data, List.drop_take, List.drop_drop, List.take_take]
 congr 1
 · omega
theorem ext_tail (s : ByteArray) (k a : Nat) (ha : k ≤ s.size) : (s.extract k s.size).extract a (s.extract k s.size).size = s.extract (k + a) s.size := by
 rw [ext_size s k s.size (Nat.le_refl _)]
 have := ext_ext s k a (s.size - k) (by omega)
 rw [this, show k + (s.size - k) = s.size by omega]
theorem ext_full (s : ByteArray) : s.extract 0 s.size = s := by
 apply ba_eq; rw [Lib.extract_data, List.drop_zero, List.take_of_length_le (by simp)]
theorem ext_none (s : ByteArray) (a : Nat) (h : s.size ≤ a) : s.extract a s.size = ⟨#[]⟩ := by
 apply ba_eq; rw [Lib.extract_data]; simp; omega
end Fie
end Go.Proofs.YtdhbgelijjlifaaGreatDoor
