/- Plain law of sources: what is wrong is told by what stands up to its line; where lines lie in a text. -/
import Derived.Test.YtdhbgelijjlifaaGreatDoorSrcTree
import Derived.Test.YtdhbgelijjlifaaGreatDoorSrcReadC
set_option linter.unusedVariables false
set_option linter.unusedSimpArgs false
namespace Go.Proofs.YtdhbgelijjlifaaGreatDoor
open Go
namespace Src
def linesL : List UInt8 → List (List UInt8)
 | [] => []
 | c :: r => if c = 10 then [] :: linesL r else match linesL r with
   | [] => [[c]]
   | x :: xs => (c :: x) :: xs
theorem linesL_lf (r : List UInt8) : linesL (10 :: r) = [] :: linesL r := by rw [linesL, if_pos rfl]
theorem linesL_free : ∀ (p : List UInt8), 10 ∉ p → p ≠ [] → linesL p = [p]
 | [], _, h => absurd rfl h
 | [c], h, _ => by rw [linesL, if_neg (fun e => h (by simp [e])), linesL]
 | c :: d :: r, h, _ => by
   rw [linesL, if_neg (fun e => h (by simp [e])), linesL_free (d :: r) (fun e => h (List.mem_cons_of_mem _ e)) (by simp)]
theorem linesL_line : ∀ (p r : List UInt8), 10 ∉ p → linesL (p ++ 10 :: r) = p :: linesL r
 | [], r, _ => linesL_lf r
 | c :: p, r, h => by
   rw [List.cons_append, linesL, if_neg (fun e => h (by simp [e])), linesL_line p r (fun e => h (List.mem_cons_of_mem _ e))]
theorem linesL_nolf : ∀ (l : List UInt8), ∀ p ∈ linesL l, 10 ∉ p
 | [], p, h => by cases h
 | c :: r, p, h => by
   have ih := linesL_nolf r
   rw [linesL] at h
   split at h
   · rcases List.mem_cons.1 h with rfl | h
     · simp
     · exact ih p h
   · rename_i hc
     split at h
     · rw [List.mem_singleton.1 h]; simpa using fun e => hc e.symm
     · rename_i x xs hx
       rw [hx] at ih
       rcases List.mem_cons.1 h with rfl | h
       · intro hm
         rcases List.mem_cons.1 hm with e | hm
         · exact hc e.symm
         · exact ih x (by simp) hm
       · exact ih p (by simp [h])
theorem linesL_len : ∀ (l : List UInt8), ∀ p ∈ linesL l, p.length ≤ l.length
 | [], p, h => by cases h
 | c :: r, p, h => by
   have ih := linesL_len r
   rw [linesL] at h
   split at h
   · rcases List.mem_cons.1 h with rfl | h
     · simp
     · have := ih p h; simp; omega
   · split at h
     · rw [List.mem_singleton.1 h]; simp
     · rename_i x xs hx
       rw [hx] at ih
       rcases List.mem_cons.1 h with rfl | h
       · have := ih x (by simp); simp; omega
       · have := ih p (by simp [h]); simp; omega
theorem linesL_count : ∀ (l : List UInt8), (linesL l).length ≤ l.length
 | [] => by simp [linesL]
 | c :: r => by
   have ih := linesL_count r
   rw [linesL]
   split
   · simp; omega
   · split
     · simp
     · rename_i x xs hx; rw [hx] at ih; simp at ih ⊢; omega
theorem stop_list (s : ByteArray) : ∀ (f k : Nat), s.size - k = f → k ≤ s.size → (s.data.toList.drop k).takeWhile (fun c => c != 10) = (s.extract k (Fie.stop Fie.nolf s k)).data.toList
 | 0, k, hf, h => by
   rw [Fie.stop_end Fie.nolf s k (by omega)]
   have : s.data.toList.length = s.size := Array.length_toList
   rw [List.drop_eq_nil_of_le (by omega)]
   simp [ByteArray.data_extract]
 | f + 1, k, hf, h => by
   have hk : k < s.size := by omega
   rw [Fie.drop_atE s k hk]
   cases hp : Fie.nolf s[k]
   · rw [Fie.stop_no Fie.nolf s k hk hp]
     have h10 : ¬ s[k] ≠ 10 := by rw [← Fie.nolf_iff, hp]; simp
     have h10 : s[k] = 10 := by simpa using h10
     rw [List.takeWhile_cons, h10]
     simp [ByteArray.data_extract]
   · have hs := Fie.stop_le Fie.nolf s (k + 1) (by omega)
     have h10 := (Fie.nolf_iff s[k]).1 hp
     rw [List.takeWhile_cons, if_pos (by simpa using h10), stop_list s f (k + 1) (by omega) (by omega), Fie.stop_yes Fie.nolf s k hk hp]
     have e : (s.extract k (Fie.stop Fie.nolf s (k + 1))).data.toList = (s.data.toList.drop k).take (Fie.stop Fie.nolf s (k + 1) - k) := by simp [ByteArray.data_extract, List.extract]
     have e2 : (s.extract (k + 1) (Fie.stop Fie.nolf s (k + 1))).data.toList = (s.data.toList.drop (k + 1)).take (Fie.stop Fie.nolf s (k + 1) - (k + 1)) := by simp [ByteArray.data_extract, List.extract]
     rw [e, e2, Fie.drop_atE s k hk, show Fie.stop Fie.nolf s (k + 1) - k = (Fie.stop Fie.nolf s (k + 1) - (k + 1)) + 1 by omega, List.take_succ_cons]
theorem ext_take (s : ByteArray) (k j : Nat) : (s.extract k j).data.toList = (s.data.toList.drop k).take (j - k) := by simp [ByteArray.data_extract, List.extract]
theorem ext_nolf (s : ByteArray) (k : Nat) (h : k ≤ s.size) : 10 ∉ (s.extract k (Fie.stop Fie.nolf s k)).data.toList := by
 rw [← stop_list s _ k rfl h]
 intro hm
 have := List.all_eq_true.1 (List.all_takeWhile (l := s.data.toList.drop k) (p := fun c => c != 10)) 10 hm
 simp at this
theorem lines_list (s : ByteArray) : ∀ (f k : Nat), s.size - k ≤ f → (Fie.lines s k).map (·.data.toList) = linesL (s.data.toList.drop k)
 | 0, k, hf => by
   have hl : s.data.toList.length = s.size := Array.length_toList
   rw [Fie.lines_end s k (by omega), List.drop_eq_nil_of_le (by omega)]; rfl
 | f + 1, k, hf => by
   have hl : s.data.toList.length = s.size := Array.length_toList
   by_cases hk : k < s.size
   · have hb := Fie.stop_le Fie.nolf s k (by omega)
     have hn := ext_nolf s k (by omega)
     rw [Fie.lines_more s k hk, List.map_cons, lines_list s f (Fie.stop Fie.nolf s k + 1) (by omega)]
     have hsp : s.data.toList.drop k = (s.extract k (Fie.stop Fie.nolf s k)).data.toList ++ s.data.toList.drop (Fie.stop Fie.nolf s k) := by
      rw [ext_take]
      have := List.take_append_drop (Fie.stop Fie.nolf s k - k) (s.data.toList.drop k)
      rw [List.drop_drop, show k + (Fie.stop Fie.nolf s k - k) = Fie.stop Fie.nolf s k by omega] at this
      exact this.symm
     by_cases he : Fie.stop Fie.nolf s k < s.size
     · have h10 : s[Fie.stop Fie.nolf s k] = 10 := by
        have hp : Fie.nolf s[Fie.stop Fie.nolf s k] = false := by
         cases hp : Fie.nolf s[Fie.stop Fie.nolf s k]
         · rfl
         · exfalso
           have e1 := Fie.stop_mid Fie.nolf s _ k (Fie.stop Fie.nolf s k) rfl hb.1 (Nat.le_refl _)
           have e2 := Fie.stop_yes Fie.nolf s _ he hp
           have e3 := Fie.stop_le Fie.nolf s (Fie.stop Fie.nolf s k + 1) (by omega)
           omega
        have : ¬ s[Fie.stop Fie.nolf s k] ≠ 10 := by rw [← Fie.nolf_iff, hp]; simp
        simpa using this
       rw [hsp, Fie.drop_atE s _ he, h10, linesL_line _ _ hn]
     · have e : Fie.stop Fie.nolf s k = s.size := by omega
       rw [hsp, e, List.drop_eq_nil_of_le (i := s.size) (by omega), List.append_nil, List.drop_eq_nil_of_le (by omega)]
       rw [e] at hn
       rw [linesL_free _ hn (by
        intro h0
        have h1 := congrArg List.length h0
        rw [ext_take] at h1
        simp at h1
        omega)]
       rfl
   · rw [Fie.lines_end s k (by omega), List.drop_eq_nil_of_le (by omega)]; rfl
theorem map_back (l : List ByteArray) (L : List (List UInt8)) (h : l.map (·.data.toList) = L) : l = L.map (fun x => (⟨x.toArray⟩ : ByteArray)) := by
 subst h
 rw [List.map_map]
 symm
 rw [List.map_congr_left (g := id) (fun a _ => Fie.ba_eq (by simp)), List.map_id]
theorem lines_eq (s : ByteArray) : Fie.lines s 0 = (linesL s.data.toList).map (fun x => (⟨x.toArray⟩ : ByteArray)) := map_back _ _ (lines_list s _ 0 (Nat.le_refl _))
theorem rule_line {ws : List Wd} {line : Int} {f : Fault} (h : ruleP ws line = .inl f) : f.line = line ∧ f.e ≠ 0 := by
 unfold ruleP at h
 split at h
 · injection h with h; subst h; exact ⟨rfl, by simp⟩
 split at h
 · injection h with h; subst h; exact ⟨rfl, by simp⟩
 split at h
 · injection h with h; subst h; exact ⟨rfl, by simp⟩
 split at h
 · injection h with h; subst h; exact ⟨rfl, by simp⟩
 split at h
 · rename_i k e hsp
   injection h with h; subst h
   obtain ⟨j, _, _, h3⟩ := spot_inl hsp
   exact ⟨rfl, (by rw [h3]; decide : e ≠ 0)⟩
 split at h
 · rename_i h0
   injection h with h; subst h; exact ⟨rfl, h0⟩
 split at h
 · injection h with h; subst h; exact ⟨rfl, by simp⟩
 · cases h
theorem kind_line {ws : List Wd} {i : Nat} {line : Int} {f : Fault} (h : kindP ws i line = .inl f) : f.line = line ∧ f.e ≠ 0 := by
 unfold kindP at h
 split at h
 · cases h
 split at h
 · split at h
   · injection h with h; subst h; exact ⟨rfl, by simp⟩
   · cases h
 split at h
 · rename_i h0
   injection h with h; subst h; exact ⟨rfl, h0⟩
 · cases h
theorem until_line {ws : List Wd} {i : Nat} {line : Int} {f : Fault} (h : untilP ws i line = .inl f) : f.line = line ∧ f.e ≠ 0 := by
 unfold untilP at h
 split at h
 · cases h
 split at h
 · injection h with h; subst h; exact ⟨rfl, by simp⟩
 split at h
 · rename_i k e hsp
   injection h with h; subst h
   obtain ⟨j, _, _, h3⟩ := spot_inl hsp
   exact ⟨rfl, (by rw [h3]; decide : e ≠ 0)⟩
 · cases h
theorem era_line {ws : List Wd} {i : Nat} {line : Int} {f : Fault} (h : eraP ws i line = .inl f) : f.line = line ∧ f.e ≠ 0 := by
 unfold eraP at h
 split at h
 · rename_i h0
   injection h with h; subst h; exact ⟨rfl, h0⟩
 split at h
 · rename_i f' hk
   injection h with h; subst h; exact kind_line hk
 split at h
 · injection h with h; subst h; exact ⟨rfl, by simp⟩
 split at h
 · rename_i f' hk
   injection h with h; subst h; exact until_line hk
 · cases h
theorem count_line {ws : List Wd} {size : Nat} {line : Int} {a b : Nat} {f : Fault} (h : countP ws size line a b = some f) : f.line = line ∧ f.e ≠ 0 := by
 unfold countP at h
 split at h
 · injection h with h; subst h; exact ⟨rfl, by simp⟩
 split at h
 · injection h with h; subst h; exact ⟨rfl, by simp⟩
 · cases h
theorem line_line {S : Source} {ws : List Wd} {size : Nat} {line : Int} {f : Fault} (h : lineP S ws size line = .inl f) : f.line = line ∧ f.e ≠ 0 := by
 unfold lineP at h
 split at h
 · unfold nextP at h
   split at h
   · injection h with h; subst h; exact ⟨rfl, by simp⟩
   split at h
   · rename_i hc; injection h with h; subst h; exact count_line hc
   split at h
   · rename_i hc; injection h with h; subst h; exact era_line hc
   · cases h
 split at h
 · unfold ruleLineP at h
   split at h
   · injection h with h; subst h; exact ⟨rfl, by simp⟩
   split at h
   · rename_i hc; injection h with h; subst h; exact count_line hc
   split at h
   · rename_i hc; injection h with h; subst h; exact rule_line hc
   · cases h
 split at h
 · unfold zoneP at h
   split at h
   · injection h with h; subst h; exact ⟨rfl, by simp⟩
   split at h
   · rename_i hc; injection h with h; subst h; exact count_line hc
   split at h
   · injection h with h; subst h; exact ⟨rfl, by simp⟩
   split at h
   · rename_i hc; injection h with h; subst h; exact era_line hc
   · cases h
 split at h
 · unfold linkP at h
   split at h
   · injection h with h; subst h; exact ⟨rfl, by simp⟩
   split at h
   · rename_i hc; injection h with h; subst h; exact count_line hc
   split at h
   · injection h with h; subst h; exact ⟨rfl, by simp⟩
   split at h
   · injection h with h; subst h; exact ⟨rfl, by simp⟩
   · cases h
 · injection h with h; subst h; exact ⟨rfl, by simp⟩
theorem parse_line : ∀ (ls : List ByteArray) (n : Int) (S : Source) (f : Fault), parseP ls n S = .inl f → n < f.line ∧ f.line ≤ n + ls.length + 1 ∧ f.e ≠ 0 ∧ (n + ls.length < f.line → f.e = 14 ∧ f.at0 = 0)
 | [], n, S, f, h => by
   unfold parseP at h
   split at h
   · injection h with h; subst h; simp; omega
   · cases h
 | l :: r, n, S, f, h => by
   unfold parseP at h
   split at h
   · rename_i h0
     injection h with h; subst h
     refine ⟨by simp; omega, by simp; omega, h0, fun hh => ?_⟩
     simp at hh; omega
   split at h
   · obtain ⟨h1, h2, h3, h4⟩ := parse_line r (n + 1) S f h
     refine ⟨by omega, by simp; omega, h3, fun hh => h4 (by simp at hh; omega)⟩
   split at h
   · rename_i f' hl
     injection h with h; subst h
     obtain ⟨h1, h2⟩ := line_line hl
     refine ⟨by omega, by simp; omega, h2, fun hh => ?_⟩
     simp at hh; omega
   · obtain ⟨h1, h2, h3, h4⟩ := parse_line r (n + 1) _ f h
     refine ⟨by omega, by simp; omega, h3, fun hh => h4 (by simp at hh; omega)⟩
theorem text_line {text : ByteArray} (h1 : text.size ≤ 20000) {f : Fault} (h : parseT text = .inl f) : f.e ≠ 0 ∧ 0 < f.line ∧ ((Fie.lines text 0).length < f.line → f.e = 14 ∧ f.at0 = 0) := by
 unfold parseT at h
 rw [if_neg (by omega)] at h
 obtain ⟨a, b, c, d⟩ := parse_line _ 0 _ f h
 exact ⟨c, a, fun hh => d (by omega)⟩
end Src
end Go.Proofs.YtdhbgelijjlifaaGreatDoor
namespace Go.Proofs.YtdhbgelijjlifaaGreatDoor
open Go
namespace Src
theorem app_size (s R : ByteArray) : (s ++ R).size = s.size + R.size := by simp
theorem app_get (s R : ByteArray) (i : Nat) (h : i < s.size) (h' : i < (s ++ R).size) : (s ++ R)[i] = s[i] := by
 simp [ByteArray.getElem_append_left h]
theorem app_behind (s R : ByteArray) (i : Nat) (h : i < R.size) (h' : s.size + i < (s ++ R).size) : (s ++ R)[s.size + i] = R[i] := by
 rw [ByteArray.getElem_append_right (by omega)]; simp
theorem stop_app (p : UInt8 → Bool) (s R : ByteArray) : ∀ (f k : Nat), s.size - k = f → k ≤ s.size → Fie.stop p (s ++ R) k = if Fie.stop p s k < s.size then Fie.stop p s k else Fie.stop p (s ++ R) s.size
 | 0, k, hf, h => by
   obtain rfl : k = s.size := by omega
   rw [Fie.stop_end p s s.size (Nat.le_refl _), if_neg (by omega)]
 | f + 1, k, hf, h => by
   have hk : k < s.size := by omega
   have hk' : k < (s ++ R).size := by rw [app_size]; omega
   have e := app_get s R k hk hk'
   cases hp : p s[k]
   · rw [Fie.stop_no p s k hk hp, if_pos hk, Fie.stop_no p (s ++ R) k hk' (by rw [e]; exact hp)]
   · rw [Fie.stop_yes p s k hk hp, Fie.stop_yes p (s ++ R) k hk' (by rw [e]; exact hp), stop_app p s R f (k + 1) (by omega) (by omega)]
abbrev mark : ByteArray := ⟨#[32, 35, 32, 115, 111]⟩
theorem mark_size (s : ByteArray) : (s ++ mark).size = s.size + 5 := by rw [app_size]; rfl
theorem mark_0 (s : ByteArray) : (s ++ mark)[s.size]'(by rw [mark_size]; omega) = 32 := app_behind s mark 0 (by decide) (by rw [mark_size]; omega)
theorem mark_1 (s : ByteArray) : (s ++ mark)[s.size + 1]'(by rw [mark_size]; omega) = 35 := app_behind s mark 1 (by decide) (by rw [mark_size]; omega)
theorem stop_bare (s : ByteArray) (k : Nat) (h : k ≤ s.size) : Fie.stop Fie.bare (s ++ mark) k = Fie.stop Fie.bare s k := by
 have hb := Fie.stop_le Fie.bare s k h
 rw [stop_app Fie.bare s mark _ k rfl h]
 split
 · rfl
 · rw [Fie.stop_no Fie.bare (s ++ mark) s.size (by rw [mark_size]; omega) (by rw [mark_0]; decide)]; omega
theorem stop_blank (s : ByteArray) (k : Nat) (h : k ≤ s.size) : Fie.stop Fie.blank (s ++ mark) k = if Fie.stop Fie.blank s k < s.size then Fie.stop Fie.blank s k else s.size + 1 := by
 rw [stop_app Fie.blank s mark _ k rfl h, Fie.stop_yes Fie.blank (s ++ mark) s.size (by rw [mark_size]; omega) (by rw [mark_0]; decide), Fie.stop_no Fie.blank (s ++ mark) (s.size + 1) (by rw [mark_size]; omega) (by rw [mark_1]; decide)]
theorem tail_more (s : ByteArray) (en : Nat) (h : en ≤ s.size) : tailOk (s ++ mark) en = tailOk s en := by
 unfold tailOk
 have h' : en < (s ++ mark).size := by rw [mark_size]; omega
 rw [dif_pos h']
 by_cases hk : en < s.size
 · rw [dif_pos hk, app_get s mark en hk]
 · rw [dif_neg hk]
   obtain rfl : en = s.size := by omega
   rw [mark_0]; decide
theorem cut_more (s : ByteArray) (k cnt lo hi en : Nat) (h : k < s.size) (hb : cut s k cnt = good lo hi en) : cut (s ++ mark) k cnt = good lo hi en := by
 unfold cut at hb ⊢
 have h' : k < (s ++ mark).size := by rw [mark_size]; omega
 rw [dif_pos h] at hb
 rw [dif_pos h', app_get s mark k h h']
 have b1 := Fie.stop_le Fie.within s (k + 1) (by omega)
 have b2 := Fie.stop_le Fie.bare s k (by omega)
 by_cases c1 : (s[k].toNat : Int) = 34
 · rw [if_pos c1] at hb ⊢
   by_cases c2 : cnt = 16
   · rw [if_pos c2] at hb; cases hb
   rw [if_neg c2] at hb ⊢
   by_cases c3 : Fie.stop Fie.within s (k + 1) < s.size
   · have e : Fie.stop Fie.within (s ++ mark) (k + 1) = Fie.stop Fie.within s (k + 1) := by rw [stop_app Fie.within s mark _ (k + 1) rfl (by omega), if_pos c3]
     have h2 : Fie.stop Fie.within s (k + 1) < (s ++ mark).size := by rw [mark_size]; omega
     simp only [e, tail_more s _ (show Fie.stop Fie.within s (k + 1) + 1 ≤ s.size by omega), dif_pos h2, app_get s mark _ c3 h2]
     rw [dif_pos c3] at hb
     by_cases c4 : (s[Fie.stop Fie.within s (k + 1)].toNat : Int) = 34
     · rw [if_pos c4] at hb ⊢
       exact hb
     · rw [if_neg c4] at hb; cases hb
   · rw [dif_neg c3] at hb; cases hb
 · rw [if_neg c1] at hb ⊢
   simp only [stop_bare s k (by omega), tail_more s _ b2.2]
   exact hb
theorem cut_err (s : ByteArray) (k cnt : Nat) (p e : Int) (h : k < s.size) (hb : cut s k cnt = bad p e) : e ≠ 0 := by
 unfold cut at hb
 rw [dif_pos h] at hb
 intro h0
 subst h0
 repeat' split at hb
 all_goals cases hb
theorem run_more (s : ByteArray) : ∀ (d k : Nat) (ws : List (ByteArray × Int)), s.size - k ≤ d → k < s.size → (run s k ws).2.2 = 0 → run (s ++ mark) k ws = run s k ws
 | 0, k, ws, hd, h, he => absurd h (by omega)
 | d + 1, k, ws, hd, h, he => by
   have h' : k < (s ++ mark).size := by rw [mark_size]; omega
   have e := app_get s mark k h h'
   by_cases hc : (s[k].toNat : Int) = 35
   · rw [run_hash s k ws h hc, run_hash (s ++ mark) k ws h' (by rw [e]; exact hc)]
   · cases hcut : cut s k ws.length with
     | inl q =>
       obtain ⟨p, e0⟩ := q
       rw [run_bad s k ws p e0 h hc hcut] at he
       exact absurd he (cut_err s k _ p e0 h hcut)
     | inr q =>
       obtain ⟨lo, hi, en⟩ := q
       have hbd := cut_bd s k ws.length lo hi en h hcut
       have hs := Fie.stop_le Fie.blank s en (by omega)
       rw [run_good s k ws lo hi en h hc hcut] at he ⊢
       rw [run_good (s ++ mark) k ws lo hi en h' (by rw [e]; exact hc) (cut_more s k _ lo hi en h hcut), stop_blank s en hbd.2.1]
       have hex : (s ++ mark).extract lo hi = s.extract lo hi := by
        apply ByteArray.ext
        simp only [ByteArray.data_extract, ByteArray.data_append]
        rw [Array.extract_append, show hi - s.data.size = 0 by (have : s.data.size = s.size := rfl); omega]
        simp
       rw [hex]
       split
       · rename_i hlt
         exact run_more s d _ _ (by omega) hlt he
       · rename_i hlt
         rw [run_end s _ _ (by omega), run_hash (s ++ mark) (s.size + 1) _ (by rw [mark_size]; omega) (by rw [mark_1]; decide)]
theorem split_more (s : ByteArray) (hs : s.size < 400) (he : (splitW s).2.2 = 0) : splitW (s ++ mark) = splitW s := by
 unfold splitW at he ⊢
 rw [if_pos (show s.size ≤ 500 by omega)] at he ⊢
 rw [if_pos (show (s ++ mark).size ≤ 500 by rw [mark_size]; omega), stop_blank s 0 (by omega)]
 split
 · rename_i hlt
   exact run_more s _ _ _ (Nat.le_refl _) hlt he
 · rename_i hlt
   rw [run_end s _ _ (by omega), run_hash (s ++ mark) (s.size + 1) _ (by rw [mark_size]; omega) (by rw [mark_1]; decide)]
def Alike {α : Type} : Fault ⊕ α → Fault ⊕ α → Prop
 | .inl f, .inl g => f.e = g.e ∧ (f.e = 14 ∨ f.at0 = g.at0)
 | .inr x, .inr y => x = y
 | _, _ => False
theorem rule_alike (ws : List Wd) (n n' : Int) : Alike (ruleP ws n) (ruleP ws n') := by
 unfold ruleP
 by_cases h1 : setB (tl ws 1) = false
 · rw [if_pos h1, if_pos h1]; exact ⟨rfl, .inr rfl⟩
 rw [if_neg h1, if_neg h1]
 by_cases h2 : yearP (tl ws 2) = 0
 · rw [if_pos h2, if_pos h2]; exact ⟨rfl, .inr rfl⟩
 rw [if_neg h2, if_neg h2]
 by_cases h3 : toP ws = 0
 · rw [if_pos h3, if_pos h3]; exact ⟨rfl, .inr rfl⟩
 rw [if_neg h3, if_neg h3]
 by_cases h4 : ¬ tl ws 4 = [45]
 · rw [if_pos h4, if_pos h4]; exact ⟨rfl, .inr rfl⟩
 rw [if_neg h4, if_neg h4]
 cases spotP ws 5 with
 | inl q => exact ⟨rfl, .inr rfl⟩
 | inr x =>
   simp only
   by_cases h5 : ¬ (offP (tl ws 8) 43200).2 = 0
   · rw [if_pos h5, if_pos h5]; exact ⟨rfl, .inr rfl⟩
   rw [if_neg h5, if_neg h5]
   by_cases h6 : madeB (tl ws 9) 8 [43, 45] = false
   · rw [if_pos h6, if_pos h6]; exact ⟨rfl, .inr rfl⟩
   rw [if_neg h6, if_neg h6]; rfl
theorem kind_alike (ws : List Wd) (i : Nat) (n n' : Int) : Alike (kindP ws i n) (kindP ws i n') := by
 unfold kindP
 by_cases h1 : tl ws (i + 1) = [45]
 · rw [if_pos h1, if_pos h1]; rfl
 rw [if_neg h1, if_neg h1]
 by_cases h2 : opensB (tl ws (i + 1)) = true
 · rw [if_pos h2, if_pos h2]
   by_cases h3 : setB (tl ws (i + 1)) = false
   · rw [if_pos h3, if_pos h3]; exact ⟨rfl, .inr rfl⟩
   · rw [if_neg h3, if_neg h3]; rfl
 rw [if_neg h2, if_neg h2]
 by_cases h3 : ¬ (offP (tl ws (i + 1)) 43200).2 = 0
 · rw [if_pos h3, if_pos h3]; exact ⟨rfl, .inr rfl⟩
 · rw [if_neg h3, if_neg h3]; rfl
theorem until_alike (ws : List Wd) (i : Nat) (n n' : Int) : Alike (untilP ws i n) (untilP ws i n') := by
 unfold untilP
 by_cases h1 : ws.length ≤ i + 3
 · rw [if_pos h1, if_pos h1]; rfl
 rw [if_neg h1, if_neg h1]
 by_cases h2 : yearP (tl ws (i + 3)) = 0
 · rw [if_pos h2, if_pos h2]; exact ⟨rfl, .inr rfl⟩
 rw [if_neg h2, if_neg h2]
 cases spotP ws (i + 4) with
 | inl q => exact ⟨rfl, .inr rfl⟩
 | inr x => rfl
theorem era_alike (ws : List Wd) (i : Nat) (n n' : Int) : Alike (eraP ws i n) (eraP ws i n') := by
 unfold eraP
 by_cases h1 : ¬ (offP (tl ws i) 86400).2 = 0
 · rw [if_pos h1, if_pos h1]; exact ⟨rfl, .inr rfl⟩
 rw [if_neg h1, if_neg h1]
 have hk := kind_alike ws i n n'
 cases h2 : kindP ws i n with
 | inl f =>
   cases h3 : kindP ws i n' with
   | inl g => rw [h2, h3] at hk; exact hk
   | inr y => rw [h2, h3] at hk; exact hk.elim
 | inr x =>
   cases h3 : kindP ws i n' with
   | inl g => rw [h2, h3] at hk; exact hk.elim
   | inr y =>
     rw [h2, h3] at hk
     obtain rfl : x = y := hk
     obtain ⟨kd, s, rs⟩ := x
     simp only
     by_cases h4 : fmtB (tl ws (i + 2)) = false
     · rw [if_pos h4, if_pos h4]; exact ⟨rfl, .inr rfl⟩
     rw [if_neg h4, if_neg h4]
     have hu := until_alike ws i n n'
     cases h5 : untilP ws i n with
     | inl f =>
       cases h6 : untilP ws i n' with
       | inl g => rw [h5, h6] at hu; exact hu
       | inr y => rw [h5, h6] at hu; exact hu.elim
     | inr x =>
       cases h6 : untilP ws i n' with
       | inl g => rw [h5, h6] at hu; exact hu.elim
       | inr y =>
         rw [h5, h6] at hu
         obtain rfl : x = y := hu
         rfl
theorem count_alike (ws : List Wd) (z z' : Nat) (n n' : Int) (a b : Nat) : (countP ws z n a b = none ∧ countP ws z' n' a b = none) ∨ ∃ f g, countP ws z n a b = some f ∧ countP ws z' n' a b = some g ∧ f.e = g.e ∧ (f.e = 14 ∨ f.at0 = g.at0) := by
 unfold countP
 by_cases h1 : ws.length < a
 · rw [if_pos h1, if_pos h1]; exact .inr ⟨_, _, rfl, rfl, rfl, .inl rfl⟩
 rw [if_neg h1, if_neg h1]
 by_cases h2 : b < ws.length
 · rw [if_pos h2, if_pos h2]; exact .inr ⟨_, _, rfl, rfl, rfl, .inr rfl⟩
 · rw [if_neg h2, if_neg h2]; exact .inl ⟨rfl, rfl⟩
theorem line_alike (S : Source) (ws : List Wd) (z z' : Nat) (n n' : Int) : Alike (lineP S ws z n) (lineP S ws z' n') := by
 unfold lineP
 by_cases h1 : openB S = true
 · rw [if_pos h1, if_pos h1]
   unfold nextP
   by_cases h2 : 40 ≤ (lastE S).length
   · rw [if_pos h2, if_pos h2]; exact ⟨rfl, .inr rfl⟩
   rw [if_neg h2, if_neg h2]
   rcases count_alike ws z z' n n' 3 7 with ⟨h3, h4⟩ | ⟨f, g, h3, h4, h5⟩
   · rw [h3, h4]
     have hu := era_alike ws 0 n n'
     simp only
     cases h5 : eraP ws 0 n with
     | inl f =>
       cases h6 : eraP ws 0 n' with
       | inl g => rw [h5, h6] at hu; exact hu
       | inr y => rw [h5, h6] at hu; exact hu.elim
     | inr x =>
       cases h6 : eraP ws 0 n' with
       | inl g => rw [h5, h6] at hu; exact hu.elim
       | inr y =>
         rw [h5, h6] at hu
         obtain rfl : x = y := hu
         rfl
   · rw [h3, h4]; exact h5
 rw [if_neg h1, if_neg h1]
 by_cases h2 : tl ws 0 = [82, 117, 108, 101]
 · rw [if_pos h2, if_pos h2]
   unfold ruleLineP
   by_cases h2 : 200 ≤ S.rules.length
   · rw [if_pos h2, if_pos h2]; exact ⟨rfl, .inr rfl⟩
   rw [if_neg h2, if_neg h2]
   rcases count_alike ws z z' n n' 10 10 with ⟨h3, h4⟩ | ⟨f, g, h3, h4, h5⟩
   · rw [h3, h4]
     have hu := rule_alike ws n n'
     simp only
     cases h5 : ruleP ws n with
     | inl f =>
       cases h6 : ruleP ws n' with
       | inl g => rw [h5, h6] at hu; exact hu
       | inr y => rw [h5, h6] at hu; exact hu.elim
     | inr x =>
       cases h6 : ruleP ws n' with
       | inl g => rw [h5, h6] at hu; exact hu.elim
       | inr y =>
         rw [h5, h6] at hu
         obtain rfl : x = y := hu
         rfl
   · rw [h3, h4]; exact h5
 rw [if_neg h2, if_neg h2]
 by_cases h2 : tl ws 0 = [90, 111, 110, 101]
 · rw [if_pos h2, if_pos h2]
   unfold zoneP
   by_cases h2 : 50 ≤ S.zones.length
   · rw [if_pos h2, if_pos h2]; exact ⟨rfl, .inr rfl⟩
   rw [if_neg h2, if_neg h2]
   rcases count_alike ws z z' n n' 5 9 with ⟨h3, h4⟩ | ⟨f, g, h3, h4, h5⟩
   · rw [h3, h4]
     simp only
     by_cases h7 : placeB (tl ws 1) = false
     · rw [if_pos h7, if_pos h7]; exact ⟨rfl, .inr rfl⟩
     rw [if_neg h7, if_neg h7]
     have hu := era_alike ws 2 n n'
     cases h5 : eraP ws 2 n with
     | inl f =>
       cases h6 : eraP ws 2 n' with
       | inl g => rw [h5, h6] at hu; exact hu
       | inr y => rw [h5, h6] at hu; exact hu.elim
     | inr x =>
       cases h6 : eraP ws 2 n' with
       | inl g => rw [h5, h6] at hu; exact hu.elim
       | inr y =>
         rw [h5, h6] at hu
         obtain rfl : x = y := hu
         rfl
   · rw [h3, h4]; exact h5
 rw [if_neg h2, if_neg h2]
 by_cases h2 : tl ws 0 = [76, 105, 110, 107]
 · rw [if_pos h2, if_pos h2]
   unfold linkP
   by_cases h2 : 100 ≤ S.links.length
   · rw [if_pos h2, if_pos h2]; exact ⟨rfl, .inr rfl⟩
   rw [if_neg h2, if_neg h2]
   rcases count_alike ws z z' n n' 3 3 with ⟨h3, h4⟩ | ⟨f, g, h3, h4, h5⟩
   · rw [h3, h4]
     simp only
     by_cases h7 : placeB (tl ws 1) = false
     · rw [if_pos h7, if_pos h7]; exact ⟨rfl, .inr rfl⟩
     rw [if_neg h7, if_neg h7]
     by_cases h8 : placeB (tl ws 2) = false
     · rw [if_pos h8, if_pos h8]; exact ⟨rfl, .inr rfl⟩
     rw [if_neg h8, if_neg h8]; rfl
   · rw [h3, h4]; exact h5
 rw [if_neg h2, if_neg h2]
 exact ⟨rfl, .inr rfl⟩
def marked (l : ByteArray) : ByteArray := if (splitW l).2.2 = 0 ∧ l.size < 400 then l ++ mark else l
theorem marked_split (l : ByteArray) : splitW (marked l) = splitW l := by
 unfold marked
 split
 · rename_i h; exact split_more l h.2 h.1
 · rfl
abbrev moreB : ByteArray := ⟨#[32, 35, 32, 109, 111, 114, 101]⟩
theorem more_split : splitW moreB = ([], 0, 0) := by decide +kernel
theorem none_split : splitW ⟨#[]⟩ = ([], 0, 0) := by decide +kernel
def moreL (k : Nat) : Nat → List ByteArray → List ByteArray
 | _, [] => []
 | i, l :: r => (if i % k = 0 then [moreB, ⟨#[]⟩] else []) ++ marked l :: moreL k (i + 1) r
theorem read_more (S : Source) (n : Int) : readP S moreB n = .inr S := by
 unfold readP
 rw [more_split]; rfl
theorem read_nothing (S : Source) (n : Int) : readP S ⟨#[]⟩ n = .inr S := by
 unfold readP
 rw [none_split]; rfl
theorem read_alike (S : Source) (l : ByteArray) (n n' : Int) : Alike (readP S l n) (readP S (marked l) n') := by
 unfold readP
 rw [marked_split]
 by_cases h1 : ¬ (splitW l).2.2 = 0
 · rw [if_pos h1, if_pos h1]; exact ⟨rfl, .inr rfl⟩
 rw [if_neg h1, if_neg h1]
 by_cases h2 : (splitW l).1 = []
 · rw [if_pos h2, if_pos h2]; rfl
 rw [if_neg h2, if_neg h2]
 exact line_alike S _ _ _ _ _
theorem parse_alike (k : Nat) : ∀ (ls : List ByteArray) (i : Nat) (n n' : Int) (S : Source), Alike (parseP ls n S) (parseP (moreL k i ls) n' S)
 | [], i, n, n', S => by
   rw [moreL, parseP, parseP]
   by_cases h : openB S = true
   · rw [if_pos h, if_pos h]; exact ⟨rfl, .inl rfl⟩
   · rw [if_neg h, if_neg h]; rfl
 | l :: r, i, n, n', S => by
   have key : ∀ m : Int, Alike (parseP (l :: r) n S) (parseP (marked l :: moreL k (i + 1) r) m S) := by
    intro m
    rw [parse_cons, parse_cons]
    have hu := read_alike S l (n + 1) (m + 1)
    cases h5 : readP S l (n + 1) with
    | inl f =>
      cases h6 : readP S (marked l) (m + 1) with
      | inl g => rw [h5, h6] at hu; exact hu
      | inr y => rw [h5, h6] at hu; exact hu.elim
    | inr x =>
      cases h6 : readP S (marked l) (m + 1) with
      | inl g => rw [h5, h6] at hu; exact hu.elim
      | inr y =>
        rw [h5, h6] at hu
        obtain rfl : x = y := hu
        exact parse_alike k r (i + 1) (n + 1) (m + 1) x
   rw [moreL]
   split
   · rw [List.cons_append, List.cons_append, List.nil_append, parse_cons moreB, read_more]
     simp only
     rw [parse_cons ⟨#[]⟩, read_nothing]
     exact key _
   · rw [List.nil_append]; exact key _
def outL (k : Nat) : Nat → List ByteArray → List UInt8
 | _, [] => []
 | i, l :: r => (if i % k = 0 then [32, 35, 32, 109, 111, 114, 101, 10, 10] else []) ++ ((marked l).data.toList ++ 10 :: outL k (i + 1) r)
theorem marked_nolf {l : ByteArray} (h : 10 ∉ l.data.toList) : 10 ∉ (marked l).data.toList := by
 unfold marked
 split
 · rw [ByteArray.data_append, Array.toList_append]
   intro hm
   rcases List.mem_append.1 hm with hm | hm
   · exact h hm
   · simp at hm
 · exact h
theorem out_lines (k : Nat) : ∀ (ls : List ByteArray) (i : Nat), (∀ l ∈ ls, 10 ∉ l.data.toList) → linesL (outL k i ls) = (moreL k i ls).map (·.data.toList)
 | [], i, h => rfl
 | l :: r, i, h => by
   have ih := out_lines k r (i + 1) (fun x hx => h x (List.mem_cons_of_mem _ hx))
   have key : linesL ((marked l).data.toList ++ 10 :: outL k (i + 1) r) = (marked l :: moreL k (i + 1) r).map (·.data.toList) := by
    rw [linesL_line _ _ (marked_nolf (h l (by simp))), ih]; rfl
   rw [outL, moreL]
   split
   · have e : ([32, 35, 32, 109, 111, 114, 101, 10, 10] : List UInt8) ++ ((marked l).data.toList ++ 10 :: outL k (i + 1) r) = [32, 35, 32, 109, 111, 114, 101] ++ 10 :: ([] ++ 10 :: ((marked l).data.toList ++ 10 :: outL k (i + 1) r)) := by simp
     rw [e, linesL_line _ _ (by decide), linesL_line _ _ (by simp), key]
     rfl
   · rw [List.nil_append, List.nil_append]; exact key
theorem lines_nolf (s : ByteArray) : ∀ l ∈ Fie.lines s 0, 10 ∉ l.data.toList := by
 intro l hl
 rw [lines_eq] at hl
 obtain ⟨p, hp, rfl⟩ := List.mem_map.1 hl
 simpa using linesL_nolf _ p hp
theorem marked_len (l : ByteArray) : (marked l).size ≤ l.size + 5 := by
 unfold marked
 split
 · rw [mark_size]; omega
 · omega
theorem text_alike {text out : ByteArray} (k : Nat) (h1 : text.size ≤ 20000) (h2 : out.size ≤ 100000) (h : out.data.toList = outL k 0 (Fie.lines text 0)) : Alike (parseT text) (parseT out) := by
 unfold parseT
 rw [if_neg (by omega), if_neg (by omega)]
 have e : Fie.lines out 0 = moreL k 0 (Fie.lines text 0) := by
  rw [lines_eq out, h, out_lines k _ 0 (lines_nolf text), List.map_map]
  conv => rhs; rw [← List.map_id (moreL k 0 (Fie.lines text 0))]
  apply List.map_congr_left
  intro x _
  cases x; rfl
 rw [e]
 exact parse_alike k _ 0 0 0 _
end Src
end Go.Proofs.YtdhbgelijjlifaaGreatDoor
