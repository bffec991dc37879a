/- Walks of sources: the reader's small methods: they read, or give up by a panic. -/
import Derived.Test.YtdhbgelijjlifaaGreatDoorSrcTree
import Derived.Test.YtdhbgelijjlifaaGreatDoorFieWalkE
import Derived.Test.YtdhbgelijjlifaaGreatDoorMomWalkN
import Derived.Test.YtdhbgelijjlifaaGreatDoorMomWalkE
import Derived.Lib.ParseIntB
import Derived.Recover
import Derived.Shelf.Vars
import Derived.Lib.SmallJoins
import Derived.Test.YtdhbgelijjlifaaGreatDoorFieWalkH
set_option linter.unusedVariables false
set_option linter.unusedSimpArgs false
namespace Go.Proofs.YtdhbgelijjlifaaGreatDoor
namespace Src
open Go
theorem parse_digits : ∀ (l : List UInt8) (M acc u : Nat), Lib.parseUintM M acc l = .ok u → l.all digB = true ∧ u = l.foldl Mom.stepD acc
 | [], M, acc, u, h => by simp [Lib.parseUintM] at h; exact ⟨rfl, h.symm⟩
 | c :: r, M, acc, u, h => by
   unfold Lib.parseUintM at h
   split at h
   · rename_i hc
     split at h
     · cases h
     · split at h
       · cases h
       · obtain ⟨h1, h2⟩ := parse_digits r M _ u h
         refine ⟨?_, h2⟩
         rw [List.all_cons, h1, Bool.and_true]
         unfold digB; simp; omega
   · cases h
theorem parse_le : ∀ (l : List UInt8) (M acc u : Nat), acc ≤ M → Lib.parseUintM M acc l = .ok u → u ≤ M
 | [], M, acc, u, ha, h => by simp [Lib.parseUintM] at h; omega
 | c :: r, M, acc, u, ha, h => by
   unfold Lib.parseUintM at h
   split at h
   · split at h
     · cases h
     · split at h
       · cases h
       · exact parse_le r M _ u (by omega) h
   · cases h
theorem parse_16 {l : List UInt8} {u : Nat} (h : Lib.parseUintB 16 l = .ok u) : u ≤ 65535 := by
 unfold Lib.parseUintB at h
 split at h
 · cases h
 · exact parse_le l _ 0 u (by omega) h
theorem parse_short : ∀ (l : List UInt8) (k acc : Nat), acc < 10 ^ k → k + l.length ≤ 4 → l.all digB = true → Lib.parseUintM 65535 acc l = .ok (l.foldl Mom.stepD acc)
 | [], k, acc, _, _, _ => rfl
 | c :: r, k, acc, h1, h2, h3 => by
   rw [List.all_cons, Bool.and_eq_true] at h3
   have hd : 48 ≤ c.toNat ∧ c.toNat ≤ 57 := by have := h3.1; unfold digB at this; simp at this; omega
   simp only [List.length_cons] at h2
   have h4 : acc * 10 + (c.toNat - 48) < 10 ^ (k + 1) := by rw [Nat.pow_succ]; omega
   have h5 : (10 : Nat) ^ (k + 1) ≤ 10 ^ 4 := Nat.pow_le_pow_right (by omega) (by omega)
   unfold Lib.parseUintM
   rw [if_pos hd, if_neg (by omega), if_neg (by omega)]
   exact parse_short r (k + 1) _ h4 (by omega) h3.2
theorem year_cases (l : List UInt8) : (∃ u : Nat, Lib.parseUintB 16 l = .ok u ∧ ((0 < u ∧ l.length ≤ 4 ∧ yearP l = u) ∨ (¬ 0 < u ∧ yearP l = 0) ∨ (0 < u ∧ ¬ l.length ≤ 4 ∧ yearP l = 0))) ∨ (Lib.parseUintB 16 l = Lib.NumEnd.syntax ∧ yearP l = 0) ∨ (Lib.parseUintB 16 l = .range ∧ yearP l = 0) := by
 have key : yearP l ≠ 0 → Lib.parseUintB 16 l = .ok (Mom.numOf l) := by
  intro h
  unfold yearP at h
  split at h
  · rename_i hc
    unfold Lib.parseUintB
    rw [if_neg (by rintro rfl; exact h rfl)]
    exact parse_short l 0 0 (by omega) (by omega) hc.1
  · exact absurd rfl h
 cases hp : Lib.parseUintB 16 l with
 | ok u =>
   left
   refine ⟨u, rfl, ?_⟩
   have hd : l.all digB = true ∧ u = Mom.numOf l := by
    unfold Lib.parseUintB at hp
    split at hp
    · cases hp
    · exact parse_digits l _ 0 u hp
   by_cases h0 : 0 < u
   · by_cases h1 : l.length ≤ 4
     · left
       refine ⟨h0, h1, ?_⟩
       unfold yearP
       rw [if_pos ⟨hd.1, h1⟩, hd.2]
     · right; right
       refine ⟨h0, h1, ?_⟩
       unfold yearP
       rw [if_neg (fun h => h1 h.2)]
   · right; left
     refine ⟨h0, ?_⟩
     unfold yearP
     split
     · rw [← hd.2]; omega
     · rfl
 | range =>
   right; right
   refine ⟨rfl, ?_⟩
   by_cases h : yearP l = 0
   · exact h
   · have := key h; rw [hp] at this; cases this
 | _ =>
   right; left
   refine ⟨rfl, ?_⟩
   by_cases h : yearP l = 0
   · exact h
   · have := key h; rw [hp] at this; cases this
end Src
end Go.Proofs.YtdhbgelijjlifaaGreatDoor
namespace Go.Proofs.YtdhbgelijjlifaaGreatDoor
open Go.RowKit Go.Shelf
abbrev faultC (f : Fault) : Value := .agg #[.int .i64 f.e, .int .i64 f.line, .int .i64 f.at0]
abbrev gaveUp (f : Fault) : Ending := .panicked [{ v := .iface 29 (faultC f), recovered := false }]
structure RdL (w : World) (b : Nat) (line : Int) (all : ByteArray) (ws : List Src.Wd) : Prop where
 inw : b < w.heap.size
 c3 : w.cell? ⟨b, 3, none⟩ = some (.int .i64 line)
 c4 : w.cell? ⟨b, 4, none⟩ = some (.string all)
 words : ∃ lv, w.cell? ⟨b, 5, none⟩ = some lv ∧ Reads w lv ws.length (wordCells ws)
theorem RdL.ext {w w' : World} {b : Nat} {line : Int} {all : ByteArray} {ws : List Src.Wd} (h : RdL w b line all ws) (hx : Ext w w') : RdL w' b line all ws := by
 obtain ⟨h1, h2, h3, lv, h4, h5⟩ := h
 have k := fun i => Below.cell (p := ⟨b, i, none⟩) hx h1
 exact ⟨Nat.lt_of_lt_of_le h1 (Below.size hx), (k 3).trans h2, (k 4).trans h3, lv, (k 5).trans h4, h5.ext hx⟩
def EndsBy (o : Fault ⊕ Value) (e : Ending) : Prop := match o with
 | .inl f => e = gaveUp f
 | .inr v => e = .returned v
def Gives (f : FuncId) (args : Array Value) (w : World) (o : Fault ⊕ Value) : Prop :=
 Calls Tryz.prog f args w fun e w' => EndsBy o e ∧ ∃ y : Past w, w' = y.x
theorem Gives.bad {f : FuncId} {args : Array Value} {w : World} {F : Fault} {R : Ending → World → Prop} (h : Gives f args w (.inl F)) (k : ∀ y : Past w, R (gaveUp F) y.x) : Calls Tryz.prog f args w R :=
 Calls.mono h (by rintro _ _ ⟨rfl, y, rfl⟩; exact k y)
theorem Gives.good {f : FuncId} {args : Array Value} {w : World} {v : Value} {R : Ending → World → Prop} (h : Gives f args w (.inr v)) (k : ∀ y : Past w, R (.returned v) y.x) : Calls Tryz.prog f args w R :=
 Calls.mono h (by rintro _ _ ⟨rfl, y, rfl⟩; exact k y)
theorem bodyPost_panic {P : Program} {fn : Func} {R : Ending → World → Prop} {a : Act} {w : World} {c : List PanicEntry} (ha : a.defers = []) (h : R (.panicked c) w) : bodyPost P fn R (.panic c) a w := ⟨ha, h⟩
theorem wd_at {w : World} {b o : Nat} {ws : List Src.Wd} (hc : ∀ i u, (wordCells ws)[i]? = some u → w.cell? ⟨b, o + i, none⟩ = some u) (j : Nat) (h : j < ws.length) :
 w.cell? ⟨b, o + j * 2, none⟩ = some (.string (Src.tx ws j)) ∧ w.cell? ⟨b, o + j * 2 + 1, none⟩ = some (.int .i64 (Src.pt ws j)) := by
 obtain ⟨h1, h2⟩ := wordCells_at ws j h
 have e : ws.getD j (⟨#[]⟩, 0) = ws[j] := by simp [List.getD, List.getElem?_eq_getElem h]
 unfold Src.tx Src.pt
 rw [e]
 exact ⟨hc _ _ h1, by have := hc _ _ h2; rwa [← Nat.add_assoc] at this⟩
set_option maxHeartbeats 400000 in
theorem pwrong_any (b : Nat) (line e at0 : Int) (w : World) (hb : b < w.heap.size) (h : w.cell? ⟨b, 3, none⟩ = some (.int .i64 line)) : Gives 26 #[.pointer (some ⟨b, 0, none⟩), .int .i64 e, .int .i64 at0] w (.inl ⟨e, line, at0⟩) := by
 unfold Gives
 go_enter Tryz.func26, Tryz.ntmps26
 go_wp2
 exact bodyPost_panic rfl ⟨rfl, done⟩
theorem pwrong_ext {b : Nat} {line : Int} {all : ByteArray} {ws : List Src.Wd} {w : World} (h : RdL w b line all ws) (e at0 : Int) (w' : World) (hx : Ext w w') : Hid (Gives 26 #[.pointer (some ⟨b, 0, none⟩), .int .i64 e, .int .i64 at0] w' (.inl ⟨e, line, at0⟩)) :=
 pwrong_any b line e at0 w' (Nat.lt_of_lt_of_le h.inw (Below.size hx)) ((Below.cell (p := ⟨b, 3, none⟩) hx h.inw).trans h.c3)
def orUnit : Option Fault → Fault ⊕ Value
 | some f => .inl f
 | none => .inr (.tuple #[])
set_option maxHeartbeats 1000000 in
theorem pmany_any (b : Nat) (line : Int) (all : ByteArray) (ws : List Src.Wd) (least most : Nat) (hm : most ≤ 100) (hl : least ≤ 100) (hs : all.size ≤ 9223372036854775807) (w : World) (h : RdL w b line all ws) :
 Gives 84 #[.pointer (some ⟨b, 0, none⟩), .int .i64 least, .int .i64 most] w (orUnit (Src.countP ws all.size line least most)) := by
 have HW := fun e at0 w' hx => pwrong_ext h e at0 w' hx
 obtain ⟨h1, h2, h3, lv, h4, h5⟩ := h
 haveI : InW b w := ⟨h1⟩
 obtain ⟨n, hn⟩ : ∃ n, ws.length = n := ⟨_, rfl⟩
 rw [hn] at h5
 obtain ⟨a, c, rfl⟩ := shape_of h5
 have b1 := len_of h5
 unfold Gives
 unfold Src.countP
 rw [hn]
 by_cases c1 : n < least
 · have g1 : (n : Int) < least := by omega
   rw [if_pos c1]
   go_enter Tryz.func84, Tryz.ntmps84
   go_wp2_with fail
   go_at_call 26
   refine (HW _ _ _ isext).out.bad ?_
   intro y
   go_wp2
   exact bodyPost_panic rfl ⟨rfl, done⟩
 · have g1 : decide ((n : Int) < least) = false := decide_eq_false (by omega)
   rw [if_neg c1]
   by_cases c2 : most < n
   · have g2 : (most : Int) < n := by omega
     rw [if_pos c2]
     rcases h5 with ⟨_, _, e9, h9, _⟩ | ⟨bl, o, c9, e9, k1, k2, m1, hc⟩
     · exact absurd h9 (by omega)
     injection e9 with e9 e8 e7
     subst e9
     clear e8 e7
     haveI : InW bl w := ⟨m1⟩
     obtain ⟨d0, d1⟩ := wd_at hc most (by omega)
     clear hc
     go_enter Tryz.func84, Tryz.ntmps84
     go_wp2_with fail
     go_at_call 26
     refine (HW _ _ _ isext).out.bad ?_
     intro y
     go_wp2
     exact bodyPost_panic rfl ⟨rfl, done⟩
   · have g2 : decide ((most : Int) < n) = false := decide_eq_false (by omega)
     rw [if_neg c2]
     clear h5
     go_enter Tryz.func84, Tryz.ntmps84
     go_wp2
     go_end0
     exact ⟨rfl, done⟩
set_option maxHeartbeats 1000000 in
theorem pneed_any (b : Nat) (line : Int) (all : ByteArray) (ws : List Src.Wd) (i : Nat) (hi : i < ws.length) (ok : Bool) (w : World) (h : RdL w b line all ws) :
 Gives 86 #[.pointer (some ⟨b, 0, none⟩), .int .i64 i, .bool ok] w (if ok = true then .inr (.string (Src.tx ws i)) else .inl ⟨6, line, Src.pt ws i⟩) := by
 have HW := fun e at0 w' hx => pwrong_ext h e at0 w' hx
 obtain ⟨h1, h2, h3, lv, h4, h5⟩ := h
 haveI : InW b w := ⟨h1⟩
 obtain ⟨n, hn⟩ : ∃ n, ws.length = n := ⟨_, rfl⟩
 rw [hn] at h5
 have b1 := len_of h5
 rcases h5 with ⟨_, _, e9, h9, _⟩ | ⟨bl, o, c9, e9, k1, k2, m1, hc⟩
 · exact absurd h9 (by omega)
 subst e9
 haveI : InW bl w := ⟨m1⟩
 obtain ⟨d0, d1⟩ := wd_at hc i hi
 have hin : i < n := by omega
 clear hc
 cases ok
 · unfold Gives
   go_enter Tryz.func86, Tryz.ntmps86
   go_wp2_with fail
   go_at_call 26
   refine (HW _ _ _ isext).out.bad ?_
   intro y
   go_wp2
   exact bodyPost_panic rfl ⟨rfl, done⟩
 · unfold Gives
   go_enter Tryz.func86, Tryz.ntmps86
   go_wp2
   go_ret
   exact ⟨rfl, done⟩
set_option maxHeartbeats 1000000 in
theorem proom_any (b : Nat) (line : Int) (all : ByteArray) (ws : List Src.Wd) (hi : 0 < ws.length) (have' most : Nat) (w : World) (h : RdL w b line all ws) :
 Gives 83 #[.pointer (some ⟨b, 0, none⟩), .int .i64 have', .int .i64 most] w (if most ≤ have' then .inl ⟨12, line, Src.pt ws 0⟩ else .inr (.tuple #[])) := by
 have HW := fun e at0 w' hx => pwrong_ext h e at0 w' hx
 obtain ⟨h1, h2, h3, lv, h4, h5⟩ := h
 haveI : InW b w := ⟨h1⟩
 obtain ⟨n, hn⟩ : ∃ n, ws.length = n := ⟨_, rfl⟩
 rw [hn] at h5
 rcases h5 with ⟨_, _, e9, h9, _⟩ | ⟨bl, o, c9, e9, k1, k2, m1, hc⟩
 · exact absurd h9 (by omega)
 subst e9
 haveI : InW bl w := ⟨m1⟩
 obtain ⟨d0, d1⟩ := wd_at hc 0 hi
 rw [Nat.zero_mul, Nat.add_zero] at d0 d1
 have hin : 0 < n := by omega
 clear hc
 by_cases c : most ≤ have'
 · have g : (most : Int) ≤ have' := by omega
   rw [if_pos c]
   unfold Gives
   go_enter Tryz.func83, Tryz.ntmps83
   go_wp2_with fail
   go_at_call 26
   refine (HW _ _ _ isext).out.bad ?_
   intro y
   go_wp2
   exact bodyPost_panic rfl ⟨rfl, done⟩
 · have g : decide ((most : Int) ≤ have') = false := decide_eq_false (by omega)
   rw [if_neg c]
   unfold Gives
   go_enter Tryz.func83, Tryz.ntmps83
   go_wp2
   go_end0
   exact ⟨rfl, done⟩
end Go.Proofs.YtdhbgelijjlifaaGreatDoor
namespace Go.Proofs.YtdhbgelijjlifaaGreatDoor
open Go.RowKit Go.Shelf
def IfaceV (v : Value) : Prop := v = .nilIface ∨ ∃ te pe, v = .iface te pe
structure GoodW (w : World) : Prop where
 max : MaxL w
 syn : ∃ ev, w.cell? ⟨4, 0, none⟩ = some ev ∧ IfaceV ev
 ran : ∃ ev, w.cell? ⟨5, 0, none⟩ = some ev ∧ IfaceV ev
theorem GoodW.ext {w w' : World} (h : GoodW w) (hx : Ext w w') : GoodW w' := by
 obtain ⟨h1, ⟨e1, h2, h3⟩, e2, h4, h5⟩ := h
 exact ⟨h1.ext hx, ⟨e1, (Below.cell (p := ⟨4, 0, none⟩) hx (World.block_lt_of_cell? w _ h2)).trans h2, h3⟩, e2, (Below.cell (p := ⟨5, 0, none⟩) hx (World.block_lt_of_cell? w _ h4)).trans h4, h5⟩
theorem ext_bytes (w : World) (e : TypeId) (s : ByteArray) : Ext w (Lib.bytesWorld w e s) := Go.Joins.below_bytesWorld w.heap.size w e s (Nat.le_refl _)
theorem pu_ok (s : ByteArray) (hs : s.size ≤ 1048576) (u : Nat) (h : Lib.parseUintB 16 s.data.toList = .ok u) (w : World) : Rets Tryz.prog 110 #[.string s, .int .i64 10, .int .i64 16] w (.tuple #[.int .u64 u, .nilIface]) :=
 (Tryz.strconv_ParseUint_10_at16_ok s (by omega) u h w).mono fun e w' ⟨h1, h2⟩ => ⟨h1, by
   rcases h2 with rfl | rfl
   · exact ⟨⟨w', Ext.refl _⟩, rfl⟩
   · exact ⟨⟨_, ext_bytes w _ s⟩, rfl⟩⟩
def ErrEnd (w : World) (k : Int) (e : Ending) (w' : World) : Prop := ∃ (N : Nat) (y : Past w), e = .returned (.tuple #[.int .u64 k, .iface 171 (.pointer (some ⟨N, 0, none⟩))]) ∧ w' = y.x
theorem pu_syn (s : ByteArray) (hs : s.size ≤ 1048576) (h : Lib.parseUintB 16 s.data.toList = Lib.NumEnd.syntax) (w : World) (hg : GoodW w) : Calls Tryz.prog 110 #[.string s, .int .i64 10, .int .i64 16] w (ErrEnd w 0) := by
 obtain ⟨ev, h1, h2⟩ := hg.syn
 exact (Tryz.strconv_ParseUint_10_at16_syntax s (by omega) h ev w h1 h2).mono fun e w' ⟨N, h3, _, _, h4⟩ => ⟨N, ⟨w', h4⟩, h3, rfl⟩
theorem pu_ran (s : ByteArray) (hs : s.size ≤ 1048576) (h : Lib.parseUintB 16 s.data.toList = .range) (w : World) (hg : GoodW w) : Calls Tryz.prog 110 #[.string s, .int .i64 10, .int .i64 16] w (ErrEnd w 65535) := by
 obtain ⟨ev, h1, h2⟩ := hg.ran
 exact (Tryz.strconv_ParseUint_10_at16_range s (by omega) h ev w h1 h2).mono fun e w' ⟨N, h3, _, _, h4⟩ => ⟨N, ⟨w', h4⟩, h3, rfl⟩
set_option maxHeartbeats 2000000 in
theorem pyear_any (b : Nat) (line : Int) (all : ByteArray) (ws : List Src.Wd) (i : Nat) (hi : i < ws.length) (hs : (Src.tx ws i).size ≤ 1048576) (w : World) (hg : GoodW w) (h : RdL w b line all ws) :
 Gives 87 #[.pointer (some ⟨b, 0, none⟩), .int .i64 i] w (if Src.yearP (Src.tl ws i) = 0 then .inl ⟨6, line, Src.pt ws i⟩ else .inr (.int .i64 (Src.yearP (Src.tl ws i)))) := by
 have HN := fun ok w' (hx : Ext w w') => Lib.hid (pneed_any b line all ws i hi ok w' (h.ext hx))
 have HN1 := fun w' hx => HN true w' hx
 have HN0 := fun w' hx => HN false w' hx
 simp only [if_true, Bool.false_eq_true, if_false] at HN1 HN0
 clear HN
 have hcs := Src.year_cases (Src.tl ws i)
 have hlen : (Src.tl ws i).length = (Src.tx ws i).size := Array.length_toList
 have HO := fun u h w => Lib.hid (pu_ok (Src.tx ws i) hs u h w)
 have HY := fun h w hg => Lib.hid (pu_syn (Src.tx ws i) hs h w hg)
 have HR := fun h w hg => Lib.hid (pu_ran (Src.tx ws i) hs h w hg)
 rw [show (Src.tx ws i).data.toList = Src.tl ws i from rfl] at HO HY HR
 obtain ⟨h1, h2, h3, lv, h4, h5⟩ := h
 haveI : InW b w := ⟨h1⟩
 obtain ⟨n, hn⟩ : ∃ n, ws.length = n := ⟨_, rfl⟩
 rw [hn] at h5
 have b1 := len_of h5
 rcases h5 with ⟨_, _, e9, h9, _⟩ | ⟨bl, o, c9, e9, k1, k2, m1, hc⟩
 · exact absurd h9 (by omega)
 subst e9
 haveI : InW bl w := ⟨m1⟩
 obtain ⟨d0, d1⟩ := wd_at hc i hi
 have hin : i < n := by omega
 clear hc
 generalize Src.yearP (Src.tl ws i) = Y at *
 rw [hlen] at hcs
 generalize Src.tx ws i = T at *
 unfold Gives
 rcases hcs with ⟨u, hu, ⟨u1, u2, rfl⟩ | ⟨u1, rfl⟩ | ⟨u1, u2, rfl⟩⟩ | ⟨hu, rfl⟩ | ⟨hu, rfl⟩
 · have HO := fun w => HO u hu w
   have hu16 := Src.parse_16 hu
   clear HY HR HN0 hu hlen
   rw [if_neg (by omega)]
   have g1 : (0 : Int) < u := by omega
   have g2 : (T.size : Int) ≤ 4 := by omega
   go_enter Tryz.func87, Tryz.ntmps87
   go_wp2_with (go_at_call 110; refine Rets.use (HO _).out ?_; intro y1)
   go_at_call 86
   refine (HN1 _ isext).out.good ?_
   intro y2
   go_wp2
   go_ret
   exact ⟨rfl, done⟩
 · have HO := fun w => HO u hu w
   have hu16 := Src.parse_16 hu
   clear HY HR HN1 hu hlen
   rw [if_pos rfl]
   have g1 : decide ((0 : Int) < u) = false := decide_eq_false (by omega)
   go_enter Tryz.func87, Tryz.ntmps87
   go_wp2_with (go_at_call 110; refine Rets.use (HO _).out ?_; intro y1)
   go_at_call 86
   refine (HN0 _ isext).out.bad ?_
   intro y2
   go_wp2
   exact bodyPost_panic rfl ⟨rfl, done⟩
 · have HO := fun w => HO u hu w
   have hu16 := Src.parse_16 hu
   clear HY HR HN1 hu hlen
   rw [if_pos rfl]
   have g1 : (0 : Int) < u := by omega
   have g2 : decide ((T.size : Int) ≤ 4) = false := decide_eq_false (by omega)
   go_enter Tryz.func87, Tryz.ntmps87
   go_wp2_with (go_at_call 110; refine Rets.use (HO _).out ?_; intro y1)
   go_at_call 86
   refine (HN0 _ isext).out.bad ?_
   intro y2
   go_wp2
   exact bodyPost_panic rfl ⟨rfl, done⟩
 · have HY := HY hu
   clear HO HR HN1 hu hlen
   rw [if_pos rfl]
   go_enter Tryz.func87, Tryz.ntmps87
   go_wp2_with fail
   go_at_call 110
   refine (HY _ (hg.ext isext)).out.mono ?_
   rintro _ _ ⟨N, y1, rfl, rfl⟩
   go_wp2_with fail
   go_at_call 86
   refine (HN0 _ isext).out.bad ?_
   intro y2
   go_wp2
   exact bodyPost_panic rfl ⟨rfl, done⟩
 · have HR := HR hu
   clear HO HY HN1 hu hlen
   rw [if_pos rfl]
   go_enter Tryz.func87, Tryz.ntmps87
   go_wp2_with fail
   go_at_call 110
   refine (HR _ (hg.ext isext)).out.mono ?_
   rintro _ _ ⟨N, y1, rfl, rfl⟩
   go_wp2_with fail
   go_at_call 86
   refine (HN0 _ isext).out.bad ?_
   intro y2
   go_wp2
   exact bodyPost_panic rfl ⟨rfl, done⟩
theorem tx_eq (ws : List Src.Wd) (i : Nat) : Src.tx ws i = ⟨(Src.tl ws i).toArray⟩ := by
 unfold Src.tl; cases Src.tx ws i; simp
set_option maxHeartbeats 2000000 in
theorem poffset_any (b : Nat) (line : Int) (all : ByteArray) (ws : List Src.Wd) (i : Nat) (hi : i < ws.length) (hs : (Src.tx ws i).size ≤ 1048576) (most : Int) (m1 : 0 ≤ most) (m2 : most ≤ 100000) (w : World) (h : RdL w b line all ws) :
 Gives 89 #[.pointer (some ⟨b, 0, none⟩), .int .i64 i, .int .i64 most] w (if (Src.offP (Src.tl ws i) most).2 = 0 then .inr (.int .i64 (Src.offP (Src.tl ws i) most).1) else .inl ⟨(Src.offP (Src.tl ws i) most).2, line, Src.pt ws i⟩) := by
 have HW := fun e at0 w' hx => pwrong_ext h e at0 w' hx
 have hlen : (Src.tl ws i).length = (Src.tx ws i).size := Array.length_toList
 have HO := fun w => Lib.hid (offset_any (Src.tl ws i) w (by unfold maxLen; omega))
 obtain ⟨h1, h2, h3, lv, h4, h5⟩ := h
 haveI : InW b w := ⟨h1⟩
 obtain ⟨n, hn⟩ : ∃ n, ws.length = n := ⟨_, rfl⟩
 rw [hn] at h5
 have b1 := len_of h5
 rcases h5 with ⟨_, _, e9, h9, _⟩ | ⟨bl, o, c9, e9, k1, k2, m1', hc⟩
 · exact absurd h9 (by omega)
 subst e9
 haveI : InW bl w := ⟨m1'⟩
 obtain ⟨d0, d1⟩ := wd_at hc i hi
 rw [tx_eq ws i] at d0
 have hin : i < n := by omega
 clear hc hlen hs
 unfold Src.offP
 unfold offR at HO
 generalize Src.tl ws i = L at *
 generalize Src.pt ws i = PT at *
 cases hsp : Mom.spanR L with
 | none =>
   rw [hsp] at HO
   simp only at HO ⊢
   rw [if_neg (by omega)]
   unfold Gives
   go_enter Tryz.func89, Tryz.ntmps89
   go_wp2_with (go_at_call 112; refine Rets.use (HO _).out ?_; intro y1)
   go_at_call 26
   refine (HW _ _ _ isext).out.bad ?_
   intro y
   go_wp2
   exact bodyPost_panic rfl ⟨rfl, done⟩
 | some N =>
   rw [hsp] at HO
   simp only at HO ⊢
   by_cases c1 : N ≤ -86400 ∨ 86400 ≤ N
   · rw [if_pos c1] at HO
     have e : (if N ≤ -86400 ∨ 86400 ≤ N ∨ most < N ∨ N < -most then ((0 : Int), (11 : Int)) else (N, 0)) = (0, 11) := if_pos (by omega)
     rw [e]
     simp only at HO ⊢
     rw [if_neg (by omega)]
     clear hsp e
     unfold Gives
     go_enter Tryz.func89, Tryz.ntmps89
     go_wp2_with (go_at_call 112; refine Rets.use (HO _).out ?_; intro y1)
     go_at_call 26
     refine (HW _ _ _ isext).out.bad ?_
     intro y
     go_wp2
     exact bodyPost_panic rfl ⟨rfl, done⟩
   · rw [if_neg c1] at HO
     simp only at HO
     have n1 : -86400 < N := by omega
     have n2 : N < 86400 := by omega
     clear hsp c1
     by_cases c2 : most < N
     · have e : (if N ≤ -86400 ∨ 86400 ≤ N ∨ most < N ∨ N < -most then ((0 : Int), (11 : Int)) else (N, 0)) = (0, 11) := if_pos (by omega)
       rw [e]
       simp only
       rw [if_neg (by omega)]
       clear e
       unfold Gives
       go_enter Tryz.func89, Tryz.ntmps89
       go_wp2_with (go_at_call 112; refine Rets.use (HO _).out ?_; intro y1)
       go_at_call 26
       refine (HW _ _ _ isext).out.bad ?_
       intro y
       go_wp2
       exact bodyPost_panic rfl ⟨rfl, done⟩
     · have g2 : decide (most < N) = false := decide_eq_false c2
       by_cases c3 : N < -most
       · have e : (if N ≤ -86400 ∨ 86400 ≤ N ∨ most < N ∨ N < -most then ((0 : Int), (11 : Int)) else (N, 0)) = (0, 11) := if_pos (by omega)
         rw [e]
         simp only
         rw [if_neg (by omega)]
         clear e
         unfold Gives
         go_enter Tryz.func89, Tryz.ntmps89
         go_wp2_with (go_at_call 112; refine Rets.use (HO _).out ?_; intro y1)
         go_at_call 26
         refine (HW _ _ _ isext).out.bad ?_
         intro y
         go_wp2
         exact bodyPost_panic rfl ⟨rfl, done⟩
       · have g3 : decide (N < -most) = false := decide_eq_false c3
         have e : (if N ≤ -86400 ∨ 86400 ≤ N ∨ most < N ∨ N < -most then ((0 : Int), (11 : Int)) else (N, 0)) = (N, 0) := if_neg (by omega)
         rw [e]
         simp only
         rw [if_pos (by trivial)]
         clear c2 c3 e
         unfold Gives
         go_enter Tryz.func89, Tryz.ntmps89
         go_wp2_with (go_at_call 112; refine Rets.use (HO _).out ?_; intro y1)
         go_ret
         exact ⟨rfl, done⟩
end Go.Proofs.YtdhbgelijjlifaaGreatDoor
namespace Go.Proofs.YtdhbgelijjlifaaGreatDoor
namespace Src
theorem cont_inl : ∀ (p : Nat) (x : Spot) (ws : List (List UInt8)) (k e : Int), contR p x ws = .inl (k, e) → p + ws.length ≤ 3 → ∃ j : Nat, k = j ∧ p ≤ j ∧ j < p + ws.length ∧ e = 6
 | _, x, [], k, e, h, _ => by simp [contR] at h
 | 0, x, a :: ws, k, e, h, hl => by
   simp only [List.length_cons] at hl ⊢
   simp only [contR] at h
   split at h
   · simp at h; exact ⟨0, by omega, by omega, by omega, by omega⟩
   · obtain ⟨j, h1, h2, h3, h4⟩ := cont_inl 1 _ ws k e h (by omega)
     exact ⟨j, h1, by omega, by omega, h4⟩
 | 1, x, a :: ws, k, e, h, hl => by
   simp only [List.length_cons] at hl ⊢
   simp only [contR] at h
   split at h
   · simp at h; exact ⟨1, by omega, by omega, by omega, by omega⟩
   · obtain ⟨j, h1, h2, h3, h4⟩ := cont_inl 2 _ ws k e h (by omega)
     exact ⟨j, h1, by omega, by omega, h4⟩
 | 2, x, a :: ws, k, e, h, hl => by
   simp only [List.length_cons] at hl ⊢
   simp only [contR] at h
   split at h
   · simp at h; exact ⟨2, by omega, by omega, by omega, by omega⟩
   · obtain ⟨j, h1, h2, h3, h4⟩ := cont_inl 3 _ ws k e h (by omega)
     exact ⟨j, h1, by omega, by omega, h4⟩
 | n + 3, x, a :: ws, k, e, h, hl => by simp only [List.length_cons] at hl; omega
theorem spot_inl {ws : List Wd} {i : Nat} {k e : Int} (h : spotP ws i = .inl (k, e)) : ∃ j : Nat, k = j ∧ i + j < ws.length ∧ e = 6 := by
 unfold spotP parseR at h
 have hl : (((ws.drop i).take 3).map fun w => w.1.data.toList).length ≤ 3 := by simp; omega
 rw [if_neg (by omega)] at h
 obtain ⟨j, h1, h2, h3, h4⟩ := cont_inl 0 _ _ k e h (by omega)
 refine ⟨j, h1, ?_, h4⟩
 simp at h3
 omega
def spotG (ws : List Wd) (i : Nat) (line : Int) : Fault ⊕ Value := match spotP ws i with
 | .inl (k, e) => .inl ⟨e, line, pt ws (i + k.toNat)⟩
 | .inr x => .inr (.agg x.cells)
end Src
end Go.Proofs.YtdhbgelijjlifaaGreatDoor
namespace Go.Proofs.YtdhbgelijjlifaaGreatDoor
open Go.RowKit Go.Shelf
theorem leB {a cur : World} [h : ExtC a cur] {N : Nat} (hN : N ≤ a.heap.size) : N ≤ cur.heap.size := Nat.le_trans hN (Below.size h.ext)
theorem grownB {a w1 w' : World} {N : Nat} {e : TypeId} {size n : Nat} {v : Value} {xs : List Value} (hN : a.heap.size ≤ N) (h : Ext a w1) (hown : w1.ownsRow N e size v n xs) (hg : w1.grownBy w' v.ownBlock) : Ext a w' :=
 Ext.grown h (own_base hown hN) hg
instance {w : World} {base : Nat} {e : TypeId} {size : Nat} {v : Value} {n : Nat} {xs : List Value} [h : OwnsC w base e size v n xs] : OwnsC w.drew base e size v n xs := ⟨h.own⟩
def spotT (ws : List Src.Wd) (i : Nat) : List (List UInt8) := ((ws.drop i).take 3).map fun w => w.1.data.toList
theorem spotT_len (ws : List Src.Wd) (i : Nat) : (spotT ws i).length = min ws.length (i + 3) - i := by unfold spotT; simp; omega
theorem spotT_at {ws : List Src.Wd} {i j : Nat} (h : j < (spotT ws i).length) : (spotT ws i)[j] = Src.tl ws (i + j) := by
 have h1 : i + j < ws.length := by rw [spotT_len] at h; omega
 unfold spotT Src.tl Src.tx
 simp [List.getD, List.getElem?_eq_getElem h1]
theorem strs_take {T : List (List UInt8)} {j : Nat} (h : j < T.length) : strs (T.take (j + 1)) = strs (T.take j) ++ [.string ⟨T[j].toArray⟩] := by
 unfold strs
 rw [List.take_succ_eq_append_getElem h, List.map_append]; rfl
set_option maxRecDepth 100000 in
set_option maxHeartbeats 4000000 in
theorem pspot_any (b : Nat) (line : Int) (all : ByteArray) (ws : List Src.Wd) (i : Nat) (hi : i ≤ ws.length) (hw : 0 < ws.length) (hw16 : ws.length ≤ 100) (hs : ∀ x ∈ ws, x.1.size ≤ 1000) (w : World) (hg : GoodW w) (h : RdL w b line all ws) :
 Gives 88 #[.pointer (some ⟨b, 0, none⟩), .int .i64 i] w (Src.spotG ws i line) := by
 obtain ⟨i0, hi0, hz0, hz1, hz2⟩ := info_parts Tryz.infoText
 have HW := fun e at0 w' hx => pwrong_ext h e at0 w' hx
 have hT := spotT_len ws i
 have hTa := fun j h => @spotT_at ws i j h
 have hTs : ∀ s ∈ spotT ws i, s.length ≤ 2000 := by
  intro s hm
  obtain ⟨x, hx, rfl⟩ := List.mem_map.1 hm
  have := hs x (List.mem_of_mem_drop (List.mem_of_mem_take hx))
  have e : x.1.data.toList.length = x.1.size := Array.length_toList
  omega
 have hcs : (∃ (j : Nat), Src.spotG ws i line = .inl ⟨6, line, Src.pt ws (i + j)⟩ ∧ i + j < ws.length ∧ parseR (spotT ws i) = .inl ((j : Int), 6)) ∨ ∃ x, Src.spotG ws i line = .inr (.agg x.cells) ∧ parseR (spotT ws i) = .inr x := by
  have e : Src.spotP ws i = parseR (spotT ws i) := rfl
  unfold Src.spotG
  cases hp : Src.spotP ws i with
  | inl q =>
    obtain ⟨k, e'⟩ := q
    obtain ⟨j, rfl, h2, rfl⟩ := Src.spot_inl hp
    exact .inl ⟨j, by simp, h2, by rw [← e, hp]⟩
  | inr x => exact .inr ⟨x, rfl, by rw [← e, hp]⟩
 have hPa := fun n hn v w mx hr hs hm hw0 => parse_any (spotT ws i) n hn v w mx hr hs hm hw0
 generalize Src.spotG ws i line = G at *
 generalize spotT ws i = T at *
 obtain ⟨h1, h2, h3, lv, h4, h5⟩ := h
 haveI : InW b w := ⟨h1⟩
 obtain ⟨n, hn⟩ : ∃ n, ws.length = n := ⟨_, rfl⟩
 rw [hn] at h5 hT
 rcases h5 with ⟨_, _, e9, h9, _⟩ | ⟨bl, o, c9, e9, k1, k2, m1', hc⟩
 · exact absurd h9 (by omega)
 subst e9
 haveI : InW bl w := ⟨m1'⟩
 have Hc := Lib.hid hc
 obtain ⟨m, hm⟩ : ∃ m : Nat, min n (i + 3) = m := ⟨_, rfl⟩
 rw [hm] at hT
 have hin : i ≤ n := by omega
 have him : i ≤ m ∧ m ≤ n ∧ m ≤ i + 3 := by omega
 obtain ⟨M, hM⟩ : ∃ M : Nat, m - i = M := ⟨_, rfl⟩
 rw [hM] at hT
 have HP : ∀ v w', GoodW w' → Reads w' v M (strs T) → Hid (Rets Tryz.prog 111 #[v] w' (parseV (parseR T))) := fun v w' hg hr => by
  obtain ⟨mx, hmx⟩ := hg.max
  exact hPa M hT v w' mx hr (fun _ => hTs) hmx (Nat.lt_of_le_of_lt (Nat.zero_le _) (World.block_lt_of_cell? w' _ hmx))
 have HT := Lib.hid hT
 have HTa := Lib.hid hTa
 clear hc hTs hPa hT hTa
 unfold Gives
 go_enter Tryz.func88, Tryz.ntmps88
 go_wp2_with fail
 refine wp_region_past (by kernel_rfl) (by kernel_rfl) ?_
 repeat (go_big_quiet_step (fail))
 refine wpQuiet_nil ?_
 intro y1
 try simp only [hm, hM]
 have hsp : i < n → (if c9 = i then some (⟨bl, o, none⟩ : Addr) else some ⟨bl, o + i * 2, none⟩) = some ⟨bl, o + i * 2, none⟩ := fun h => if_neg (by omega)
 generalize (if c9 = i then some (⟨bl, o, none⟩ : Addr) else some ⟨bl, o + i * 2, none⟩) = sp at *
 go_wp2_with fail
 go_loopw [5, 26] (fun v iv wr => ∃ j : Nat, j ≤ M ∧ iv = .int .i64 j ∧ OwnsC wr (w.heap.size + 1) 9 1 v j (strs (T.take j)) ∧ Ext (w.alloc (.cells #[.int .i64 0, .int .i64 0, .int .i64 0, .int .i64 0, .int .i64 0, .int .i64 0] 54)) wr) (fun _ iv _ => M - (intOf iv).toNat)
 case atStart => exact ⟨0, by omega, rfl, ⟨World.ownsRow_nil _ _ _ _⟩, isext⟩
 case round =>
  obtain ⟨j, j2, rfl, hown, hx⟩ := hrel
  obtain ⟨yr, rfl⟩ := fin hx
  clear hx
  obtain ⟨av, cap, rfl⟩ := owns_shape hown.own
  by_cases hlt : j < M
  · obtain rfl := hsp (by omega)
    obtain ⟨d0, d1⟩ := wd_at Hc.out (i + j) (by omega)
    rw [show o + (i + j) * 2 = o + i * 2 + j * 2 by omega] at d0 d1
    have HRow : Hid (strs (T.take (j + 1)) = strs (T.take j) ++ [.string (Src.tx ws (i + j))]) := by
     show _ = _
     rw [strs_take (by rw [HT.out]; exact hlt), HTa.out, tx_eq ws (i + j)]
    generalize Src.tx ws (i + j) = X at *
    go_wp2_with (at_builtin; refine wpList_append_own _ rfl _ _ 35 rfl (w.heap.size + 1) 9 i0 (.string ByteArray.empty) 1 16 Tryz.underlying35 hi0 hz0 hz1 hz2 rfl (by decide) (.slice av j cap) j (strs (T.take j)) rfl (OwnsC.own) _ 1 1 [.string X] rfl rfl (new_cells' _ _ _ _ (by simp)) (by simp [Value.oneCell']) (by unfold maxLen; omega) (by omega) (leB (a := w.alloc (.cells #[.int .i64 0, .int .i64 0, .int .i64 0, .int .i64 0, .int .i64 0, .int .i64 0] 54)) (by simp only [World.size_alloc]; omega)) ?_; intro v' w1 hown1 hgrow1 _; obtain ⟨av', cap', rfl⟩ := owns_shape hown1; obtain ⟨y2, rfl⟩ := fin (grownB (a := w.alloc (.cells #[.int .i64 0, .int .i64 0, .int .i64 0, .int .i64 0, .int .i64 0, .int .i64 0] 54)) (N := w.heap.size + 1) (by simp only [World.size_alloc]; omega) isext (OwnsC.own (e := 9) (size := 1) (n := j) (xs := strs (T.take j))) hgrow1); clear hgrow1; have hO : OwnsC y2.x (w.heap.size + 1) 9 1 (.slice av' (j + 1) cap') (j + 1) (strs (T.take (j + 1))) := ⟨by rw [HRow.out]; exact hown1⟩)
    go_roundw
    case rel => exact ⟨j + 1, by omega, by go_num, inferInstance, isext⟩
    case measure => simp [intOf]; omega
  · obtain rfl : j = M := by omega
    have hTk : T.take j = T := List.take_of_length_le (by rw [HT.out]; omega)
    rw [hTk] at hown
    rcases hcs with ⟨q, rfl, hq, hpr⟩ | ⟨x, rfl, hpr⟩
    · rw [hpr] at HP
      obtain ⟨d0, d1⟩ := wd_at Hc.out (i + q) hq
      have hqn : i + q < n := by omega
      clear hTk hsp
      go_wp2_with fail
      go_at_call 111
      refine Rets.use (HP _ _ (hg.ext isext) (owns_reads (OwnsC.own (base := w.heap.size + 1) (e := 9) (size := 1)) (by omega))).out ?_
      intro y2
      unfold parseV
      go_wp2_with fail
      go_at_call 26
      refine (HW _ _ _ isext).out.bad ?_
      intro y3
      go_wp2
      exact bodyPost_panic rfl ⟨rfl, done⟩
    · rw [hpr] at HP
      obtain ⟨xm, xk, xwd, xd, xt, xr⟩ := x
      clear hTk hsp
      go_wp2_with fail
      go_at_call 111
      refine Rets.use (HP _ _ (hg.ext isext) (owns_reads (OwnsC.own (base := w.heap.size + 1) (e := 9) (size := 1)) (by omega))).out ?_
      intro y2
      unfold parseV Spot.cells
      go_wp2
      refine bodyPost_ret (v := .agg #[.int .i64 xm, .int .i64 xk, .int .i64 xwd, .int .i64 xd, .int .i64 xt, .int .i64 xr]) ?_ rfl ⟨rfl, done⟩
      simp [results, Tryz.f88, go_sem]
end Go.Proofs.YtdhbgelijjlifaaGreatDoor
