/- What further laws need of the texts that are built. -/
import Derived.Lib.SplitLaws
import Derived.Lib.IndexBytes
import Derived.Lib.IndexMore
import Derived.Lib.CutLaws
import Derived.Shelf.Strings.Builder1
import Derived.Shelf.Strings.Builder2
import Derived.Shelf.Strings.OnBuilder
import Derived.Shelf.Small.Strs
import Derived.Shelf.Small.Wraps
import Derived.Shelf.Strings.BuilderF
import Derived.Shelf.Strings.BuilderK
import Derived.Shelf.Strings.Builder2Cap
import Derived.Shelf.Strconv.Itoa0
import Derived.Shelf.Strconv.Itoa1
import Derived.Shelf.LaysM
import Derived.Shelf.Strconv.Itoa2
import Derived.Shelf.Strconv.Itoa3
import Derived.Shelf.Strconv.Clone
import Derived.Shelf.Strconv.SyntaxError
import Derived.Shelf.LaysC
import Derived.Shelf.Strconv.ToError
import Derived.Shelf.Strconv.Lower
import Derived.Shelf.Strconv.ParseUint10
import Derived.Shelf.Strconv.ParseUint10Empty
import Derived.Shelf.Strconv.ParseUint10Any
import Derived.Shelf.Strconv.RangeError
import Derived.Shelf.Strconv.ToErrorRange
import Derived.Shelf.Strconv.ParseUintEmpty
import Derived.Shelf.Strconv.ParseUint10b64
import Derived.Shelf.Strconv.ParseUint10b32
import Derived.Shelf.Strconv.ParseUint10b16
import Derived.Shelf.Strconv.ParseUint10b8
import Derived.Shelf.Strconv.ParseUint10At
import Derived.Ground.MpProg
import Derived.Shelf.Pu.ParseUintPublic10
import Derived.Shelf.Pu.ErrVarParseUint
import Derived.Shelf.Strings.Search1
import Derived.Shelf.Strings.Search2
import Derived.Shelf.Strings.Search3
import Derived.Shelf.Strings.Cut
import Derived.Shelf.Strings.Count
import Derived.Shelf.Strings.Shaped
import Derived.Shelf.Strings.Prefix
import Derived.Shelf.Strings.Split
import Derived.Shelf.Strings.SplitShaped
import Derived.Shelf.Unicode.DecodeSlow
import Derived.Shelf.Strings.BuilderCap
import Derived.WalkKit
import Derived.WalkSpells
import Derived.WalkLawsBesides
import Derived.Carry
import Derived.MapKept
import Derived.RangeFuncRecord
import Derived.Laws.IdiomStrings
import Derived.Deep.RegionWith
import Derived.Lib.Join
import Derived.SliceStrings
import Derived.Deep.Slices
import Derived.Deep.Fields
import Derived.ChangeSame
import Derived.Test.YtdhbgelijjlifaaGreatDoorOwns
import Derived.Test.YtdhbgelijjlifaaGreatDoorFrame
import Derived.Test.YtdhbgelijjlifaaGreatDoorSrcPlainB
import Derived.Test.YtdhbgelijjlifaaGreatDoorShelf
import Derived.Test.YtdhbgelijjlifaaGreatDoorSrcWalkC
import Derived.Test.YtdhbgelijjlifaaGreatDoorMomWalkE
import Derived.Test.YtdhbgelijjlifaaGreatDoorMomWalkJ
import Derived.Test.YtdhbgelijjlifaaGreatDoorMomWalkL
import Derived.Test.YtdhbgelijjlifaaGreatDoorMomWalkN
import Derived.Test.YtdhbgelijjlifaaGreatDoorFiePlainE
import Derived.Test.YtdhbgelijjlifaaGreatDoorMomWalkP
import Derived.Test.YtdhbgelijjlifaaGreatDoorCivWalkJ
import Derived.Test.YtdhbgelijjlifaaGreatDoorMomWalkQ
import Derived.Test.YtdhbgelijjlifaaGreatDoorRulWalkC
import Derived.Test.YtdhbgelijjlifaaGreatDoorSrcWalkD
import Derived.Test.YtdhbgelijjlifaaGreatDoorSrcTree
import Derived.Test.YtdhbgelijjlifaaGreatDoorFieWalkE
import Derived.Test.YtdhbgelijjlifaaGreatDoorFieWalkH
import Derived.Test.YtdhbgelijjlifaaGreatDoorSrcReadC
import Derived.Test.YtdhbgelijjlifaaGreatDoorSrcDoor
import Derived.Test.YtdhbgelijjlifaaGreatDoorMomWalkO
import Derived.Test.YtdhbgelijjlifaaGreatDoorSrcWalkJ
import Derived.Test.YtdhbgelijjlifaaGreatDoorSrcRdE
import Derived.Test.YtdhbgelijjlifaaGreatDoorSrcRdQ
import Derived.Test.YtdhbgelijjlifaaGreatDoorSrcRdR
import Derived.Test.YtdhbgelijjlifaaGreatDoorSrcRdS
import Derived.Test.YtdhbgelijjlifaaGreatDoorSrcRdT
import Derived.Test.YtdhbgelijjlifaaGreatDoorSrcRdF
import Derived.Test.YtdhbgelijjlifaaGreatDoorSrcRdFB
import Derived.Test.YtdhbgelijjlifaaGreatDoorSrcRdG
import Derived.Test.YtdhbgelijjlifaaGreatDoorSrcRdGB
import Derived.Test.YtdhbgelijjlifaaGreatDoorSrcRdN
import Derived.Test.YtdhbgelijjlifaaGreatDoorSrcSet
import Derived.Test.YtdhbgelijjlifaaGreatDoorFieWalkK
import Derived.Test.YtdhbgelijjlifaaGreatDoorSrcLawB
import Derived.Test.YtdhbgelijjlifaaGreatDoorSrcRdW
import Derived.Test.YtdhbgelijjlifaaGreatDoorSrcSame
import Derived.Test.YtdhbgelijjlifaaGreatDoorLeaves
import Derived.Test.YtdhbgelijjlifaaGreatDoorSrcRows
set_option linter.unusedVariables false
set_option linter.unusedSimpArgs false
namespace Go.Proofs.YtdhbgelijjlifaaGreatDoor
namespace Civ
end Civ
end Go.Proofs.YtdhbgelijjlifaaGreatDoor
namespace Go.Proofs.YtdhbgelijjlifaaGreatDoor
namespace Mom
def tailOkB (k wd d : Int) : Bool := decide ((k = 0 ∧ wd = 0 ∧ 1 ≤ d ∧ d ≤ 31) ∨ (k = 1 ∧ 1 ≤ wd ∧ wd ≤ 7 ∧ d = 0) ∨ (k ≠ 0 ∧ k ≠ 1 ∧ 1 ≤ wd ∧ wd ≤ 7 ∧ 1 ≤ d ∧ d ≤ 31))
def rightB (m k wd d t r : Int) : Bool := decide (headOk m k t r) && tailOkB k wd d
theorem right_yes {m k wd d t r : Int} (h : rightB m k wd d t r = true) : headOk m k t r ∧ tailOkB k wd d = true := by
 unfold rightB at h
 rw [Bool.and_eq_true] at h
 exact ⟨of_decide_eq_true h.1, h.2⟩
theorem right_head_no {m k wd d t r : Int} (h : ¬ headOk m k t r) : rightB m k wd d t r = false := by
 unfold rightB; rw [Bool.and_eq_false_iff]; left; exact decide_eq_false h
theorem right_head {m k wd d t r : Int} (h : headOk m k t r) : rightB m k wd d t r = tailOkB k wd d := by
 unfold rightB; rw [decide_eq_true h, Bool.true_and]
theorem head_cases (m k t r : Int) : m < 1 ∨ (decide (m < 1) = false ∧ 12 < m) ∨ (decide (m < 1) = false ∧ decide (12 < m) = false ∧ k < 0) ∨ (decide (m < 1) = false ∧ decide (12 < m) = false ∧ decide (k < 0) = false ∧ 3 < k) ∨
 (decide (m < 1) = false ∧ decide (12 < m) = false ∧ decide (k < 0) = false ∧ decide (3 < k) = false ∧ t < -604799) ∨
 (decide (m < 1) = false ∧ decide (12 < m) = false ∧ decide (k < 0) = false ∧ decide (3 < k) = false ∧ decide (t < -604799) = false ∧ 604799 < t) ∨
 (decide (m < 1) = false ∧ decide (12 < m) = false ∧ decide (k < 0) = false ∧ decide (3 < k) = false ∧ decide (t < -604799) = false ∧ decide (604799 < t) = false ∧ r < 0) ∨
 (decide (m < 1) = false ∧ decide (12 < m) = false ∧ decide (k < 0) = false ∧ decide (3 < k) = false ∧ decide (t < -604799) = false ∧ decide (604799 < t) = false ∧ decide (r < 0) = false ∧ 2 < r) ∨
 (decide (m < 1) = false ∧ decide (12 < m) = false ∧ decide (k < 0) = false ∧ decide (3 < k) = false ∧ decide (t < -604799) = false ∧ decide (604799 < t) = false ∧ decide (r < 0) = false ∧ decide (2 < r) = false ∧ headOk m k t r) := by
 by_cases h1 : m < 1
 · exact .inl h1
 by_cases h2 : 12 < m
 · exact .inr (.inl ⟨decide_eq_false h1, h2⟩)
 by_cases h3 : k < 0
 · exact .inr (.inr (.inl ⟨decide_eq_false h1, decide_eq_false h2, h3⟩))
 by_cases h4 : 3 < k
 · exact .inr (.inr (.inr (.inl ⟨decide_eq_false h1, decide_eq_false h2, decide_eq_false h3, h4⟩)))
 by_cases h5 : t < -604799
 · exact .inr (.inr (.inr (.inr (.inl ⟨decide_eq_false h1, decide_eq_false h2, decide_eq_false h3, decide_eq_false h4, h5⟩))))
 by_cases h6 : 604799 < t
 · exact .inr (.inr (.inr (.inr (.inr (.inl ⟨decide_eq_false h1, decide_eq_false h2, decide_eq_false h3, decide_eq_false h4, decide_eq_false h5, h6⟩)))))
 by_cases h7 : r < 0
 · exact .inr (.inr (.inr (.inr (.inr (.inr (.inl ⟨decide_eq_false h1, decide_eq_false h2, decide_eq_false h3, decide_eq_false h4, decide_eq_false h5, decide_eq_false h6, h7⟩))))))
 by_cases h8 : 2 < r
 · exact .inr (.inr (.inr (.inr (.inr (.inr (.inr (.inl ⟨decide_eq_false h1, decide_eq_false h2, decide_eq_false h3, decide_eq_false h4, decide_eq_false h5, decide_eq_false h6, decide_eq_false h7, h8⟩)))))))
 · exact .inr (.inr (.inr (.inr (.inr (.inr (.inr (.inr ⟨decide_eq_false h1, decide_eq_false h2, decide_eq_false h3, decide_eq_false h4, decide_eq_false h5, decide_eq_false h6, decide_eq_false h7, decide_eq_false h8, by unfold headOk; omega⟩)))))))
end Mom
end Go.Proofs.YtdhbgelijjlifaaGreatDoor
namespace Go.Proofs.YtdhbgelijjlifaaGreatDoor
namespace Mom
end Mom
end Go.Proofs.YtdhbgelijjlifaaGreatDoor
namespace Go.Proofs.YtdhbgelijjlifaaGreatDoor
namespace Rul
def yearB (n : Int) : Bool := decide (1 ≤ n ∧ n ≤ 9999)
def spotB (x : Rule) : Bool := Mom.rightB x.m x.k x.wd x.d x.t x.r
def rightB (x : Rule) : Bool := yearB x.a && (yearB x.b || x.b == 1000000) && spotB x && decide (-43200 ≤ x.s ∧ x.s ≤ 43200)
end Rul
end Go.Proofs.YtdhbgelijjlifaaGreatDoor
namespace Go.Proofs.YtdhbgelijjlifaaGreatDoor
namespace Rul
end Rul
end Go.Proofs.YtdhbgelijjlifaaGreatDoor
namespace Go.Proofs.YtdhbgelijjlifaaGreatDoor
namespace Src
end Src
end Go.Proofs.YtdhbgelijjlifaaGreatDoor
namespace Go.Proofs.YtdhbgelijjlifaaGreatDoor
namespace Src
end Src
end Go.Proofs.YtdhbgelijjlifaaGreatDoor
namespace Go.Proofs.YtdhbgelijjlifaaGreatDoor
namespace Src
def saveB (s : Int) : Bool := decide (-43200 ≤ s ∧ s ≤ 43200)
def yearB (n : Int) : Bool := decide (1 ≤ n ∧ n ≤ 9999)
def letterB (l : List UInt8) : Bool := l.isEmpty || (!(l == [45]) && madeB l 8 [43, 45])
def ruleB (x : Rule) : Bool := setB x.nm.data.toList && Rul.rightB x && letterB x.l.data.toList
def kindB (x : Era) : Bool := if x.kd = 0 then x.s == 0 && x.rs.data.toList.isEmpty else if x.kd = 1 then saveB x.s && x.rs.data.toList.isEmpty else if x.kd = 2 then x.s == 0 && setB x.rs.data.toList else false
def endB (x : Era) : Bool := if x.til = true then yearB x.y && Mom.rightB x.m x.k x.wd x.d x.t x.r else x.y == 0 && (x.m == 0 && x.k == 0 && x.wd == 0 && x.d == 0 && x.t == 0 && x.r == 0)
def offB (x : Era) : Bool := decide (-86400 < x.off ∧ x.off < 86400)
def eraB (x : Era) : Bool := offB x && fmtB x.fm.data.toList && kindB x && endB x
def erasB : List Era → Bool
 | [] => true
 | x :: l => eraB x && (x.til == !l.isEmpty) && erasB l
def zoneB (z : Zone) : Bool := placeB z.nm.data.toList && decide (1 ≤ z.es.length ∧ z.es.length ≤ 40) && erasB z.es
def linkB (x : Link) : Bool := placeB x.tg.data.toList && placeB x.nm.data.toList
def lensB (s : Source) : Bool := decide (s.rules.length ≤ 200 ∧ s.zones.length ≤ 50 ∧ s.links.length ≤ 100)
def srcB (s : Source) : Bool := lensB s && (s.rules.all ruleB && (s.zones.all zoneB && s.links.all linkB))
theorem all_drop {α : Type} (f : α → Bool) (l : List α) (j : Nat) (h : j < l.length) : (l.drop j).all f = (f l[j] && (l.drop (j + 1)).all f) := by
 rw [List.drop_eq_getElem_cons h, List.all_cons]
theorem eras_drop (l : List Era) (j : Nat) (h : j < l.length) : erasB (l.drop j) = (eraB l[j] && (l[j].til == decide (j + 1 < l.length)) && erasB (l.drop (j + 1))) := by
 rw [List.drop_eq_getElem_cons h]
 show (eraB l[j] && (l[j].til == !(l.drop (j + 1)).isEmpty) && _) = _
 have : (!(l.drop (j + 1)).isEmpty) = decide (j + 1 < l.length) := by
  rw [Bool.eq_iff_iff]; simp
 rw [this]
def reraB (x : Era) : Bool := offB x && saveB x.s && fmtB x.fm.data.toList && (decide (0 ≤ x.kd ∧ x.kd ≤ 2) && (x.kd == 1 || x.s == 0) && (x.kd == 2 || x.rs.data.toList.isEmpty) && (!(x.kd == 2) || setB x.rs.data.toList)) && endB x
theorem era_same (x : Era) : reraB x = eraB x := by
 unfold reraB eraB kindB saveB
 cases offB x <;> cases fmtB x.fm.data.toList <;> cases endB x <;> simp
 by_cases h0 : x.kd = 0
 · rw [h0]; simp
   by_cases hs : x.s = 0
   · rw [hs]; simp
   · simp [hs]
 · by_cases h1 : x.kd = 1
   · rw [h1]; simp
   · by_cases h2 : x.kd = 2
     · rw [h2]; simp
       by_cases hs : x.s = 0
       · rw [hs]; simp
       · simp [hs]
     · have hk : (decide (0 ≤ x.kd) && decide (x.kd ≤ 2)) = false := by
        rw [Bool.and_eq_false_iff, decide_eq_false_iff_not, decide_eq_false_iff_not]; omega
       rw [if_neg h0, if_neg h1, show decide (x.kd = 2) = false from decide_eq_false h2, hk]
       simp
end Src
end Go.Proofs.YtdhbgelijjlifaaGreatDoor
namespace Go.Proofs
open Go.Shelf
def Tryz.lays170_ren : Go.Shelf.Ren := ⟨fun | 170 => 40 | n => n, fun | 70 => 70 | 3 => 3 | 0 => 0 | 72 => 73 | 37 => 71 | 5 => 5 | n => n, fun | n => n⟩
theorem Tryz.lays170 : Go.Proofs.Lays.n170 Tryz.prog Tryz.lays170_ren := {
 mixed := by kernel_rfl
 f170 := Tryz.func40.trans (congrArg some (by kernel_rfl))
 t0 := Tryz.underlying0
 a0 := Tryz.isAgg0
 z0 := Tryz.sizeOf0
 v0 := Tryz.zeroValue0
 t3 := Tryz.underlying3
 a3 := Tryz.isAgg3
 z3 := Tryz.sizeOf3
 v3 := Tryz.zeroValue3
 t37 := Tryz.underlying71
 a37 := Tryz.isAgg71
 z37 := Tryz.sizeOf71
 v37 := Tryz.zeroValue71
 t70 := Tryz.underlying70
 a70 := Tryz.isAgg70
 z70 := Tryz.sizeOf70
 v70 := Tryz.zeroValue70
 t72 := Tryz.underlying73
 a72 := Tryz.isAgg73
 z72 := Tryz.sizeOf73
 v72 := Tryz.zeroValue73 }
def Tryz.lays169_ren : Go.Shelf.Ren := ⟨fun | 169 => 41 | n => n, fun | 70 => 70 | 9 => 9 | 0 => 0 | 72 => 73 | 37 => 71 | 127 => 107 | 3 => 3 | 5 => 5 | n => n, fun | n => n⟩
theorem Tryz.lays169 : Go.Proofs.Lays.n169 Tryz.prog Tryz.lays169_ren := {
 mixed := by kernel_rfl
 f169 := Tryz.func41.trans (congrArg some (by kernel_rfl))
 t0 := Tryz.underlying0
 a0 := Tryz.isAgg0
 z0 := Tryz.sizeOf0
 v0 := Tryz.zeroValue0
 t3 := Tryz.underlying3
 a3 := Tryz.isAgg3
 z3 := Tryz.sizeOf3
 v3 := Tryz.zeroValue3
 t9 := Tryz.underlying9
 a9 := Tryz.isAgg9
 z9 := Tryz.sizeOf9
 v9 := Tryz.zeroValue9
 t37 := Tryz.underlying71
 a37 := Tryz.isAgg71
 z37 := Tryz.sizeOf71
 v37 := Tryz.zeroValue71
 t70 := Tryz.underlying70
 a70 := Tryz.isAgg70
 z70 := Tryz.sizeOf70
 v70 := Tryz.zeroValue70
 t72 := Tryz.underlying73
 a72 := Tryz.isAgg73
 z72 := Tryz.sizeOf73
 v72 := Tryz.zeroValue73
 t127 := Tryz.underlying107
 a127 := Tryz.isAgg107
 z127 := Tryz.sizeOf107
 v127 := Tryz.zeroValue107 }
theorem Tryz.Builder_Extra_169 : Builder.Extra Tryz.prog Tryz.lays169_ren := {
 sizeBuilder := by kernel_rfl
 liesBuilder := by kernel_rfl
 t5 := Tryz.underlying5
 a5 := Tryz.isAgg5
 z5 := Tryz.sizeOf5
 v5 := Tryz.zeroValue5
 infoByte := by kernel_rfl
 cellsByte := by kernel_rfl
 sizeByte := by kernel_rfl
 neB5 := by decide }
def Tryz.lays156_ren : Go.Shelf.Ren := ⟨fun | 156 => 64 | 165 => 104 | 166 => 36 | 169 => 41 | 240 => 59 | 241 => 121 | 276 => 98 | 277 => 140 | n => n, fun | 31 => 35 | 9 => 9 | 3 => 3 | 4 => 4 | 0 => 0 | 20 => 20 | 72 => 73 | 76 => 76 | 70 => 70 | 37 => 71 | 75 => 75 | 127 => 107 | 164 => 129 | 5 => 5 | 80 => 82 | n => n, fun | n => n⟩
theorem Tryz.lays156 : Go.Proofs.Lays.n156 Tryz.prog Tryz.lays156_ren := {
 mixed := by kernel_rfl
 f156 := Tryz.func64.trans (congrArg some (by kernel_rfl))
 f165 := Tryz.func104.trans (congrArg some (by kernel_rfl))
 f166 := Tryz.func36.trans (congrArg some (by kernel_rfl))
 f169 := Tryz.func41.trans (congrArg some (by kernel_rfl))
 f240 := Tryz.func59.trans (congrArg some (by kernel_rfl))
 f241 := Tryz.func121.trans (congrArg some (by kernel_rfl))
 f276 := Tryz.func98.trans (congrArg some (by kernel_rfl))
 f277 := Tryz.func140.trans (congrArg some (by kernel_rfl))
 t0 := Tryz.underlying0
 a0 := Tryz.isAgg0
 z0 := Tryz.sizeOf0
 v0 := Tryz.zeroValue0
 t3 := Tryz.underlying3
 a3 := Tryz.isAgg3
 z3 := Tryz.sizeOf3
 v3 := Tryz.zeroValue3
 t4 := Tryz.underlying4
 a4 := Tryz.isAgg4
 z4 := Tryz.sizeOf4
 v4 := Tryz.zeroValue4
 t9 := Tryz.underlying9
 a9 := Tryz.isAgg9
 z9 := Tryz.sizeOf9
 v9 := Tryz.zeroValue9
 t20 := Tryz.underlying20
 a20 := Tryz.isAgg20
 z20 := Tryz.sizeOf20
 v20 := Tryz.zeroValue20
 t31 := Tryz.underlying35
 a31 := Tryz.isAgg35
 z31 := Tryz.sizeOf35
 v31 := Tryz.zeroValue35
 t37 := Tryz.underlying71
 a37 := Tryz.isAgg71
 z37 := Tryz.sizeOf71
 v37 := Tryz.zeroValue71
 t70 := Tryz.underlying70
 a70 := Tryz.isAgg70
 z70 := Tryz.sizeOf70
 v70 := Tryz.zeroValue70
 t72 := Tryz.underlying73
 a72 := Tryz.isAgg73
 z72 := Tryz.sizeOf73
 v72 := Tryz.zeroValue73
 t75 := Tryz.underlying75
 a75 := Tryz.isAgg75
 z75 := Tryz.sizeOf75
 v75 := Tryz.zeroValue75
 t76 := Tryz.underlying76
 a76 := Tryz.isAgg76
 z76 := Tryz.sizeOf76
 v76 := Tryz.zeroValue76
 t127 := Tryz.underlying107
 a127 := Tryz.isAgg107
 z127 := Tryz.sizeOf107
 v127 := Tryz.zeroValue107
 t164 := Tryz.underlying129
 a164 := Tryz.isAgg129
 z164 := Tryz.sizeOf129
 v164 := Tryz.zeroValue129 }
theorem Tryz.Builder_Extra_156 : Builder.Extra Tryz.prog Tryz.lays156_ren := {
 sizeBuilder := by kernel_rfl
 liesBuilder := by kernel_rfl
 t5 := Tryz.underlying5
 a5 := Tryz.isAgg5
 z5 := Tryz.sizeOf5
 v5 := Tryz.zeroValue5
 infoByte := by kernel_rfl
 cellsByte := by kernel_rfl
 sizeByte := by kernel_rfl
 neB5 := by decide }
open Go.RowKit in
theorem Tryz.strings_Join (bk o c : Nat) (xs : List ByteArray) (sep : ByteArray) (w : World) (hcells : ∀ (j : Nat) x, xs[j]? = some x → w.cell? ⟨bk, o + j, none⟩ = some (.string x)) (hbk : bk < w.heap.size) (hN : xs.length ≤ 140737488355328) (hcap : xs.length ≤ c) (hlen : (Lib.join (xs.map (·.data.toList)) sep.data.toList).length ≤ 140737488355328) :
 Calls Tryz.prog 64 #[.slice (some ⟨bk, o, none⟩) xs.length c, .string sep] w fun e w' => e = .returned (.string ⟨(Lib.join (xs.map (·.data.toList)) sep.data.toList).toArray⟩) ∧ Below w.heap.size w w' := Any.strings_Join Tryz.lays156 Tryz.Builder_Extra_156 bk o c xs sep w hcells hbk hN hcap hlen
def Tryz.laysM171_ren : Go.Shelf.Ren := ⟨fun | 171 => 60 | 243 => 99 | 246 => 120 | 283 => 136 | 284 => 137 | 285 => 138 | 286 => 139 | 129 => 160 | 317 => 159 | 318 => 161 | 319 => 162 | 320 => 163 | 337 => 170 | 338 => 171 | n => n, fun | 3 => 3 | 9 => 9 | 2 => 2 | 4 => 4 | 171 => 163 | 0 => 0 | 53 => 137 | 37 => 71 | 5 => 5 | 173 => 166 | 212 => 189 | 51 => 185 | 20 => 20 | 213 => 190 | 46 => 162 | 232 => 199 | 233 => 200 | n => n, fun | 17 => 3 | 18 => 6 | 19 => 7 | n => n⟩
theorem Tryz.laysM171 : Go.Proofs.LaysM.n171 Tryz.prog Tryz.laysM171_ren := {
 mixed := by kernel_rfl
 f129 := Tryz.func160.trans (congrArg some (by kernel_rfl))
 f171 := Tryz.func60.trans (congrArg some (by kernel_rfl))
 f243 := Tryz.func99.trans (congrArg some (by kernel_rfl))
 f246 := Tryz.func120.trans (congrArg some (by kernel_rfl))
 f283 := Tryz.func136.trans (congrArg some (by kernel_rfl))
 f284 := Tryz.func137.trans (congrArg some (by kernel_rfl))
 f285 := Tryz.func138.trans (congrArg some (by kernel_rfl))
 f286 := Tryz.func139.trans (congrArg some (by kernel_rfl))
 f317 := Tryz.func159.trans (congrArg some (by kernel_rfl))
 f318 := Tryz.func161.trans (congrArg some (by kernel_rfl))
 f319 := Tryz.func162.trans (congrArg some (by kernel_rfl))
 f320 := Tryz.func163.trans (congrArg some (by kernel_rfl))
 f337 := Tryz.func170.trans (congrArg some (by kernel_rfl))
 f338 := Tryz.func171.trans (congrArg some (by kernel_rfl))
 t0 := Tryz.underlying0
 a0 := Tryz.isAgg0
 z0 := Tryz.sizeOf0
 v0 := Tryz.zeroValue0
 t2 := Tryz.underlying2
 a2 := Tryz.isAgg2
 z2 := Tryz.sizeOf2
 v2 := Tryz.zeroValue2
 t3 := Tryz.underlying3
 a3 := Tryz.isAgg3
 z3 := Tryz.sizeOf3
 v3 := Tryz.zeroValue3
 t4 := Tryz.underlying4
 a4 := Tryz.isAgg4
 z4 := Tryz.sizeOf4
 v4 := Tryz.zeroValue4
 t5 := Tryz.underlying5
 a5 := Tryz.isAgg5
 z5 := Tryz.sizeOf5
 v5 := Tryz.zeroValue5
 t9 := Tryz.underlying9
 a9 := Tryz.isAgg9
 z9 := Tryz.sizeOf9
 v9 := Tryz.zeroValue9
 t20 := Tryz.underlying20
 a20 := Tryz.isAgg20
 z20 := Tryz.sizeOf20
 v20 := Tryz.zeroValue20
 t37 := Tryz.underlying71
 a37 := Tryz.isAgg71
 z37 := Tryz.sizeOf71
 v37 := Tryz.zeroValue71
 t46 := Tryz.underlying162
 a46 := Tryz.isAgg162
 z46 := Tryz.sizeOf162
 v46 := Tryz.zeroValue162
 t51 := Tryz.underlying185
 a51 := Tryz.isAgg185
 z51 := Tryz.sizeOf185
 v51 := Tryz.zeroValue185
 t53 := Tryz.underlying137
 a53 := Tryz.isAgg137
 z53 := Tryz.sizeOf137
 v53 := Tryz.zeroValue137
 t171 := Tryz.underlying163
 a171 := Tryz.isAgg163
 z171 := Tryz.sizeOf163
 v171 := Tryz.zeroValue163
 t173 := Tryz.underlying166
 a173 := Tryz.isAgg166
 z173 := Tryz.sizeOf166
 v173 := Tryz.zeroValue166
 t212 := Tryz.underlying189
 a212 := Tryz.isAgg189
 z212 := Tryz.sizeOf189
 v212 := Tryz.zeroValue189
 t213 := Tryz.underlying190
 a213 := Tryz.isAgg190
 z213 := Tryz.sizeOf190
 t232 := Tryz.underlying199
 a232 := Tryz.isAgg199
 z232 := Tryz.sizeOf199
 v232 := Tryz.zeroValue199
 t233 := Tryz.underlying200
 a233 := Tryz.isAgg200
 z233 := Tryz.sizeOf200
 v233 := Tryz.zeroValue200
 g17 := by kernel_rfl
 g18 := by kernel_rfl
 g19 := by kernel_rfl
 i0 := by kernel_rfl
 i2 := by kernel_rfl
 i3 := by kernel_rfl
 i4 := by kernel_rfl
 i5 := by kernel_rfl
 i9 := by kernel_rfl
 i20 := by kernel_rfl
 i37 := by kernel_rfl
 i46 := by kernel_rfl
 i51 := by kernel_rfl
 i53 := by kernel_rfl
 i171 := by kernel_rfl
 i173 := by kernel_rfl
 i212 := by kernel_rfl
 i232 := by kernel_rfl
 i233 := by kernel_rfl
 m17 := by kernel_rfl
 m18 := by kernel_rfl
 m19 := by kernel_rfl }
open Go.RowKit Go.Sort Go.Lib in
theorem Tryz.strconv_Itoa (n : Int) (h0 : -9223372036854775808 ≤ n) (h1 : n ≤ 9223372036854775807) (w : World) (htab : Lib.TabIs Tryz.prog w "internal/strconv.uint64pow10" .u64 Lib.pow10Tab) :
 Calls Tryz.prog 60 #[.int .i64 n] w fun e w' => e = .returned (.string ⟨(Lib.itoa n).toArray⟩) ∧ ∃ k os, w' = grow (w.drewN k) os := Any.strconv_Itoa Tryz.laysM171 n h0 h1 w htab
end Go.Proofs
namespace Go.Proofs.YtdhbgelijjlifaaGreatDoor
namespace Mom
end Mom
end Go.Proofs.YtdhbgelijjlifaaGreatDoor
namespace Go.Proofs.YtdhbgelijjlifaaGreatDoor
namespace Mom
def dig (n : Nat) : UInt8 := UInt8.ofNat (48 + n % 10)
def dec (n : Nat) : List UInt8 := if n < 10 then [dig n] else dec (n / 10) ++ [dig n]
termination_by n
decreasing_by omega
theorem dec_small {n : Nat} (h : n < 10) : dec n = [dig n] := by rw [dec, if_pos h]
theorem dec_big {n : Nat} (h : ¬ n < 10) : dec n = dec (n / 10) ++ [dig n] := by rw [dec, if_neg h]
theorem dec_len : ∀ (k n : Nat), 1 ≤ k → n < 10 ^ k → (dec n).length ≤ k
 | 0, n, h, _ => by omega
 | k + 1, n, _, h => by
   by_cases h1 : n < 10
   · rw [dec_small h1]; simp
   · have hk : 1 ≤ k := by
      rcases k with _ | k
      · simp at h; omega
      · omega
     rw [dec_big h1, List.length_append]
     have := dec_len k (n / 10) hk (by rw [Nat.pow_succ] at h; omega)
     simp; omega
def undone (n : Nat) (s : List UInt8) : List UInt8 := if n = 0 ∧ s ≠ [] then s else dec n ++ s
theorem undone_start (n : Nat) : undone n [] = dec n := by unfold undone; rw [if_neg (by simp), List.append_nil]
theorem undone_step {n : Nat} {s : List UInt8} (h : ¬ (n = 0 ∧ s ≠ [])) : undone n s = undone (n / 10) (dig n :: s) := by
 unfold undone
 rw [if_neg h]
 by_cases h1 : n < 10
 · rw [dec_small h1, if_pos ⟨by omega, by simp⟩]; rfl
 · rw [dec_big h1, if_neg (by intro h2; omega)]; simp
theorem undone_end {s : List UInt8} (h : s ≠ []) : undone 0 s = s := if_pos ⟨rfl, h⟩
def twoD (n : Nat) : List UInt8 := [dig (n / 10), dig n]
theorem two_small {n : Nat} (h : n < 10) : twoD n = 48 :: dec n := by
 unfold twoD; rw [dec_small h, show n / 10 = 0 by omega]; rfl
theorem two_big {n : Nat} (h : ¬ n < 10) (h2 : n < 100) : twoD n = dec n := by
 unfold twoD; rw [dec_big h, dec_small (by omega)]; rfl
end Mom
end Go.Proofs.YtdhbgelijjlifaaGreatDoor
namespace Go.Proofs.YtdhbgelijjlifaaGreatDoor
namespace Mom
end Mom
end Go.Proofs.YtdhbgelijjlifaaGreatDoor
namespace Go.Proofs.YtdhbgelijjlifaaGreatDoor
open Go.RowKit
end Go.Proofs.YtdhbgelijjlifaaGreatDoor
namespace Go.Proofs.YtdhbgelijjlifaaGreatDoor
open Go.RowKit
end Go.Proofs.YtdhbgelijjlifaaGreatDoor
namespace Go.Proofs.YtdhbgelijjlifaaGreatDoor
open Go Go.RowKit
section
variable {P : Program} {t k e : TypeId}
end
end Go.Proofs.YtdhbgelijjlifaaGreatDoor
namespace Go.Proofs.YtdhbgelijjlifaaGreatDoor
open Go.RowKit
end Go.Proofs.YtdhbgelijjlifaaGreatDoor
namespace Go.Proofs.YtdhbgelijjlifaaGreatDoor
open Go.RowKit
end Go.Proofs.YtdhbgelijjlifaaGreatDoor
namespace Go.Proofs.YtdhbgelijjlifaaGreatDoor
namespace Mom
end Mom
end Go.Proofs.YtdhbgelijjlifaaGreatDoor
namespace Go.Proofs.YtdhbgelijjlifaaGreatDoor
open Go.RowKit
end Go.Proofs.YtdhbgelijjlifaaGreatDoor
namespace Go.Proofs.YtdhbgelijjlifaaGreatDoor
open Go.RowKit
abbrev spotA (m k wd d t r : Int) : Value := .agg #[.int .i64 m, .int .i64 k, .int .i64 wd, .int .i64 d, .int .i64 t, .int .i64 r]
theorem tail_eq {k wd d : Int} {b : Bool} (h : b = true ↔ ((k = 0 ∧ wd = 0 ∧ 1 ≤ d ∧ d ≤ 31) ∨ (k = 1 ∧ 1 ≤ wd ∧ wd ≤ 7 ∧ d = 0) ∨ (k ≠ 0 ∧ k ≠ 1 ∧ 1 ≤ wd ∧ wd ≤ 7 ∧ 1 ≤ d ∧ d ≤ 31))) : b = Mom.tailOkB k wd d := by
 rw [Bool.eq_iff_iff, h]; unfold Mom.tailOkB; rw [decide_eq_true_eq]
set_option maxRecDepth 100000 in
set_option maxHeartbeats 4000000 in
theorem right_head_any (m k wd d t r : Int) (w : World) (h : ¬ Mom.headOk m k t r) : Rets Tryz.prog 70 #[spotA m k wd d t r] w (.bool false) := by
 have hc := Mom.head_cases m k t r
 unfold Rets
 rcases hc with g | ⟨g1, g⟩ | ⟨g1, g2, g⟩ | ⟨g1, g2, g3, g⟩ | ⟨g1, g2, g3, g4, g⟩ | ⟨g1, g2, g3, g4, g5, g⟩ | ⟨g1, g2, g3, g4, g5, g6, g⟩ | ⟨g1, g2, g3, g4, g5, g6, g7, g⟩ | ⟨_, _, _, _, _, _, _, _, g⟩
 case inr.inr.inr.inr.inr.inr.inr.inr => exact absurd g h
 all_goals
  clear h
  go_enter Tryz.func70, Tryz.ntmps70
  go_wp2
  go_ret
  exact ⟨rfl, done⟩
set_option maxRecDepth 100000 in
set_option maxHeartbeats 4000000 in
theorem rright_head_any (m k wd d t r : Int) (w : World) (h : ¬ Mom.headOk m k t r) : Rets Tryz.prog 73 #[spotA m k wd d t r] w (.bool false) := by
 have hc := Mom.head_cases m k t r
 unfold Rets
 rcases hc with g | ⟨g1, g⟩ | ⟨g1, g2, g⟩ | ⟨g1, g2, g3, g⟩ | ⟨g1, g2, g3, g4, g⟩ | ⟨g1, g2, g3, g4, g5, g⟩ | ⟨g1, g2, g3, g4, g5, g6, g⟩ | ⟨g1, g2, g3, g4, g5, g6, g7, g⟩ | ⟨_, _, _, _, _, _, _, _, g⟩
 case inr.inr.inr.inr.inr.inr.inr.inr => exact absurd g h
 all_goals
  clear h
  go_enter Tryz.func73, Tryz.ntmps73
  go_wp2
  go_ret
  exact ⟨rfl, done⟩
theorem eqn (x c : Int) : ((x == c) = true ∧ (x != c) = false ∧ x = c) ∨ ((x == c) = false ∧ (x != c) = true ∧ x ≠ c) := by
 by_cases h : x = c
 · subst h; exact .inl ⟨by simp, by simp, rfl⟩
 · exact .inr ⟨beq_eq_false_iff_ne.2 h, by rw [bne_iff_ne]; exact h, h⟩
set_option maxRecDepth 100000 in
set_option maxHeartbeats 8000000 in
theorem right_tail_any (m k wd d t r : Int) (w : World) (h : Mom.headOk m k t r) : Rets Tryz.prog 70 #[spotA m k wd d t r] w (.bool (Mom.tailOkB k wd d)) := by
 have hc := Mom.head_cases m k t r
 have h' := h
 unfold Mom.headOk at h
 obtain ⟨h1, h2, h3, h4, h5, h6, h7, h8⟩ := h
 have g1 : decide (m < 1) = false := decide_eq_false (by omega)
 have g2 : decide (12 < m) = false := decide_eq_false (by omega)
 have g3 : decide (k < 0) = false := decide_eq_false (by omega)
 have g4 : decide (3 < k) = false := decide_eq_false (by omega)
 have g5 : decide (t < -604799) = false := decide_eq_false (by omega)
 have g6 : decide (604799 < t) = false := decide_eq_false (by omega)
 have g7 : decide (r < 0) = false := decide_eq_false (by omega)
 have g8 : decide (2 < r) = false := decide_eq_false (by omega)
 have E := Lib.hid (fun b => tail_eq (k := k) (wd := wd) (d := d) (b := b))
 clear hc h' h1 h2 h3 h4 h5 h6 h7 h8
 unfold Rets
 rcases eqn k 0 with ⟨k1, k2, k3⟩ | ⟨k1, k2, k3⟩ <;> rcases three wd 1 7 with ⟨w1, w2, w3⟩ | ⟨w1, w2, w3, w4, w5⟩ | ⟨w1, w2, w3, w4⟩ <;> rcases three d 1 31 with ⟨d1, d2, d3⟩ | ⟨d1, d2, d3, d4, d5⟩ | ⟨d1, d2, d3, d4⟩
 all_goals
  try clear k3
  go_enter Tryz.func70, Tryz.ntmps70
  go_wp2
  all_goals (go_ret; refine ⟨ret_bool (E.out _ ?_), done⟩; simp at *; omega)
end Go.Proofs.YtdhbgelijjlifaaGreatDoor
namespace Go.Proofs.YtdhbgelijjlifaaGreatDoor
open Go.RowKit
set_option maxRecDepth 100000 in
set_option maxHeartbeats 8000000 in
theorem rright_tail_any (m k wd d t r : Int) (w : World) (h : Mom.headOk m k t r) : Rets Tryz.prog 73 #[spotA m k wd d t r] w (.bool (Mom.tailOkB k wd d)) := by
 unfold Mom.headOk at h
 obtain ⟨h1, h2, h3, h4, h5, h6, h7, h8⟩ := h
 have g1 : decide (m < 1) = false := decide_eq_false (by omega)
 have g2 : decide (12 < m) = false := decide_eq_false (by omega)
 have g3 : decide (k < 0) = false := decide_eq_false (by omega)
 have g4 : decide (3 < k) = false := decide_eq_false (by omega)
 have g5 : decide (t < -604799) = false := decide_eq_false (by omega)
 have g6 : decide (604799 < t) = false := decide_eq_false (by omega)
 have g7 : decide (r < 0) = false := decide_eq_false (by omega)
 have g8 : decide (2 < r) = false := decide_eq_false (by omega)
 have E := Lib.hid (fun b => tail_eq (k := k) (wd := wd) (d := d) (b := b))
 clear h1 h2 h3 h4 h5 h6 h7 h8
 unfold Rets
 rcases eqn k 0 with ⟨k1, k2, k3⟩ | ⟨k1, k2, k3⟩ <;> rcases eqn wd 0 with ⟨x1, x2, x3⟩ | ⟨x1, x2, x3⟩ <;> rcases eqn k 1 with ⟨l1, l2, l3⟩ | ⟨l1, l2, l3⟩ <;> rcases three wd 1 7 with ⟨w1, w2, w3⟩ | ⟨w1, w2, w3, w4, w5⟩ | ⟨w1, w2, w3, w4⟩ <;> first | omega | (rcases eqn d 0 with ⟨y1, y2, y3⟩ | ⟨y1, y2, y3⟩ <;> rcases three d 1 31 with ⟨d1, d2, d3⟩ | ⟨d1, d2, d3, d4, d5⟩ | ⟨d1, d2, d3, d4⟩)
 all_goals
  first
  | omega
  | (try clear k3
     try clear x3
     try clear l3
     try clear y3
     go_enter Tryz.func73, Tryz.ntmps73
     go_wp2
     all_goals (go_ret; refine ⟨ret_bool (E.out _ ?_), done⟩; simp at *; omega))
end Go.Proofs.YtdhbgelijjlifaaGreatDoor
namespace Go.Proofs.YtdhbgelijjlifaaGreatDoor
open Go.RowKit
end Go.Proofs.YtdhbgelijjlifaaGreatDoor
namespace Go.Proofs.YtdhbgelijjlifaaGreatDoor
open Go.RowKit
theorem right_whole (m k wd d t r : Int) (w : World) : Rets Tryz.prog 70 #[spotA m k wd d t r] w (.bool (Mom.rightB m k wd d t r)) := by
 by_cases h : Mom.headOk m k t r
 · rw [Mom.right_head h]; exact right_tail_any m k wd d t r w h
 · rw [Mom.right_head_no h]; exact right_head_any m k wd d t r w h
theorem rright_whole (m k wd d t r : Int) (w : World) : Rets Tryz.prog 73 #[spotA m k wd d t r] w (.bool (Mom.rightB m k wd d t r)) := by
 by_cases h : Mom.headOk m k t r
 · rw [Mom.right_head h]; exact rright_tail_any m k wd d t r w h
 · rw [Mom.right_head_no h]; exact rright_head_any m k wd d t r w h
end Go.Proofs.YtdhbgelijjlifaaGreatDoor
namespace Go.Proofs.YtdhbgelijjlifaaGreatDoor
open Go.RowKit
end Go.Proofs.YtdhbgelijjlifaaGreatDoor
namespace Go.Proofs.YtdhbgelijjlifaaGreatDoor
open Go.RowKit
end Go.Proofs.YtdhbgelijjlifaaGreatDoor
namespace Go.Proofs.YtdhbgelijjlifaaGreatDoor
open Go.RowKit
end Go.Proofs.YtdhbgelijjlifaaGreatDoor
namespace Go.Proofs.YtdhbgelijjlifaaGreatDoor
open Go.RowKit
end Go.Proofs.YtdhbgelijjlifaaGreatDoor
namespace Go.Proofs.YtdhbgelijjlifaaGreatDoor
open Go.RowKit
abbrev ruleV (x : Rule) : Value := .agg (ruleCells x).toArray
end Go.Proofs.YtdhbgelijjlifaaGreatDoor
namespace Go.Proofs.YtdhbgelijjlifaaGreatDoor
open Go.RowKit
end Go.Proofs.YtdhbgelijjlifaaGreatDoor
namespace Go.Proofs.YtdhbgelijjlifaaGreatDoor
open Go.RowKit
end Go.Proofs.YtdhbgelijjlifaaGreatDoor
namespace Go.Proofs.YtdhbgelijjlifaaGreatDoor
open Go Go.RowKit
abbrev eraV (x : Era) : Value := .agg (eraCells x).toArray
end Go.Proofs.YtdhbgelijjlifaaGreatDoor
namespace Go.Proofs.YtdhbgelijjlifaaGreatDoor
open Go.RowKit
set_option maxHeartbeats 400000 in
theorem syear_any (n : Int) (w : World) : Rets Tryz.prog 69 #[.int .i64 n] w (.bool (Src.yearB n)) := by
 go_enter Tryz.func69, Tryz.ntmps69
 go_wp2
 all_goals (go_ret; refine ⟨ret_bool ?_, done⟩; rw [Bool.eq_iff_iff]; simp [Src.yearB, *]; try omega)
set_option maxHeartbeats 400000 in
theorem ssaving_any (n : Int) (w : World) : Rets Tryz.prog 71 #[.int .i64 n] w (.bool (Src.saveB n)) := by
 go_enter Tryz.func71, Tryz.ntmps71
 go_wp2
 all_goals (go_ret; refine ⟨ret_bool ?_, done⟩; rw [Bool.eq_iff_iff]; simp [Src.saveB, *]; try omega)
theorem rule_eq (x : Rule) : Src.ruleB x = (Src.setB x.nm.data.toList && (Src.yearB x.a && ((Src.yearB x.b || x.b == 1000000) && (Rul.spotB x && (Src.saveB x.s && Src.letterB x.l.data.toList))))) := by
 unfold Src.ruleB Rul.rightB
 rw [show Rul.yearB = Src.yearB from rfl, show decide (-43200 ≤ x.s ∧ x.s ≤ 43200) = Src.saveB x.s from rfl]
 simp only [Bool.and_assoc]
theorem letter_cases (l : ByteArray) : (l = ⟨#[]⟩ ∧ Src.letterB l.data.toList = true) ∨ (l = ⟨#[45]⟩ ∧ Src.letterB l.data.toList = false) ∨
 (l.toList.isEmpty = false ∧ (l.toList == [45]) = false ∧ (l == ⟨#[45]⟩) = false ∧ Src.letterB l.data.toList = Src.madeB l.data.toList 8 [43, 45]) := by
 rcases text_cases l ⟨#[45]⟩ with ⟨-, -, rfl⟩ | ⟨h1, h2, h3⟩
 · exact .inr (.inl ⟨rfl, rfl⟩)
 · cases h : l.data.toList with
   | nil => exact .inl ⟨str_nil h, rfl⟩
   | cons c r =>
     right; right
     refine ⟨by rw [Lib.toList_data, h]; rfl, by rw [Lib.toList_data ⟨#[45]⟩] at h2; exact h2, h1, ?_⟩
     unfold Src.letterB
     have : ((c :: r) == [45]) = false := by rw [beq_eq_false_iff_ne, ← h]; exact h3
     rw [this]; rfl
set_option maxRecDepth 100000 in
set_option maxHeartbeats 8000000 in
theorem srule_any (x : Rule) (h1 : x.nm.size ≤ maxLen) (h2 : x.l.size ≤ maxLen) (w : World) : Rets Tryz.prog 43 #[ruleV x] w (.bool (Src.ruleB x)) := by
 have HS := fun w => Lib.hid (sset_any x.nm h1 w)
 have HA := fun w => Lib.hid (syear_any x.a w)
 have HB := fun w => Lib.hid (syear_any x.b w)
 have HR : ∀ w, Hid (Rets Tryz.prog 70 #[spotA x.m x.k x.wd x.d x.t x.r] w (.bool (Rul.spotB x))) := fun w => right_whole x.m x.k x.wd x.d x.t x.r w
 have HV := fun w => Lib.hid (ssaving_any x.s w)
 have HM : ∀ w, Hid (Rets Tryz.prog 28 #[.string x.l, .int .i64 8, .string ⟨#[43, 45]⟩] w (.bool (Src.madeB x.l.data.toList 8 [43, 45]))) := fun w => made_any x.l ⟨#[43, 45]⟩ 8 h2 w
 have E := Lib.hid (rule_eq x)
 have hc := letter_cases x.l
 have hb : (x.b = 1000000) ∨ ((x.b == 1000000) = false) := by
  by_cases h : x.b = 1000000
  · exact .inl h
  · exact .inr (beq_eq_false_iff_ne.2 h)
 generalize Src.ruleB x = R at *
 generalize Src.setB x.nm.data.toList = S at *
 generalize Src.yearB x.a = A at *
 generalize Src.yearB x.b = B at *
 generalize Rul.spotB x = P at *
 generalize Src.saveB x.s = V at *
 generalize Src.letterB x.l.data.toList = L at *
 generalize Src.madeB x.l.data.toList 8 [43, 45] = M at *
 obtain ⟨nm, a, b, m, k, wd, d, t, r, s, l⟩ := x
 simp only at hc hb
 unfold Rets
 rcases hc with ⟨rfl, hL⟩ | ⟨rfl, hL⟩ | ⟨l1, l2, l3, hL⟩
 all_goals
  subst hL
  go_enter Tryz.func43, Tryz.ntmps43
  go_wp2_with (first | (go_at_call 12; refine Rets.use (HS _).out ?_; intro _) | (go_at_call_of 69 (Value.int .i64 a); refine Rets.use (HA _).out ?_; intro _) | (go_at_call 69; refine Rets.use (HB _).out ?_; intro _) | (go_at_call 70; refine Rets.use (HR _).out ?_; intro _) | (go_at_call 71; refine Rets.use (HV _).out ?_; intro _) | (go_at_call 28; refine Rets.use (HM _).out ?_; intro _))
  all_goals (go_ret; exact ⟨ret_bool (by rw [E.out]; simp [*]), done⟩)
end Go.Proofs.YtdhbgelijjlifaaGreatDoor
namespace Go.Proofs.YtdhbgelijjlifaaGreatDoor
end Go.Proofs.YtdhbgelijjlifaaGreatDoor
namespace Go.Proofs.YtdhbgelijjlifaaGreatDoor
open Go.RowKit
def fieldOut (s : ByteArray) : ByteArray := if plain s = true then s else ⟨#[34]⟩ ++ s ++ ⟨#[34]⟩
def joined (l : List ByteArray) : ByteArray := ⟨(Lib.join ((l.map fieldOut).map (·.data.toList)) [32]).toArray⟩
end Go.Proofs.YtdhbgelijjlifaaGreatDoor
namespace Go.Proofs.YtdhbgelijjlifaaGreatDoor
open Go.RowKit
end Go.Proofs.YtdhbgelijjlifaaGreatDoor
namespace Go.Proofs.YtdhbgelijjlifaaGreatDoor
open Go.RowKit
end Go.Proofs.YtdhbgelijjlifaaGreatDoor
namespace Go.Proofs.YtdhbgelijjlifaaGreatDoor
open Go.ChangeShapes Go.WideShapes Go.ChangeAt Go.RowKit Go.Joins
section
variable {H : Type} {enc : TypeId × Value → H} {P : Program} {w : World} {spare : Nat → Bool} {held : Bool}
theorem spot_none {w : World} {a : Addr} {v : Value} (h : w.cell? a = some v) : a = ⟨a.block, a.off, none⟩ ∧ a.block < w.heap.size := by
 obtain ⟨b, o, s⟩ := a
 unfold World.cell? at h
 cases hk : w.heap[b]? with
 | none => simp [hk] at h
 | some x =>
   have hb := (Array.getElem?_eq_some_iff.1 hk).1
   cases s with
   | none => exact ⟨rfl, hb⟩
   | some s => cases x <;> simp [hk] at h
theorem add_plain (b o i : Nat) : (⟨b, o, none⟩ : Addr).add i = ⟨b, o + i, none⟩ := by unfold Addr.add; split <;> simp_all
end
end Go.Proofs.YtdhbgelijjlifaaGreatDoor
namespace Go.Proofs.YtdhbgelijjlifaaGreatDoor
open Go.ChangeShapes Go.WideShapes Go.ChangeAt Go.RowKit Go.Joins Go.Deep
section
variable {H : Type} {enc : TypeId × Value → H} {P : Program} {w : World} {base : Nat} {spare : Nat → Bool} {held : Bool}
theorem LeafRead.str {cs : List Value} {l : List TypeId} (h : LeafRead enc P w base spare held cs l) (j : Nat) (t' : TypeId) (hj : l[j]? = some t') (hu : P.underlying t' = some .string) : ∃ s : ByteArray, cs[j]? = some (.string s) ∧ s.size ≤ maxLen := by
 obtain ⟨m, y, hy⟩ := h j t' hj
 obtain ⟨z, hz, _, hw⟩ := DataW.trod_string hu hy
 refine ⟨z, ?_, hw⟩
 have : ((cs.drop j).take 1)[0]? = some (.string z) := by rw [hz]; rfl
 rwa [List.getElem?_take_of_lt (by omega), List.getElem?_drop] at this
end
end Go.Proofs.YtdhbgelijjlifaaGreatDoor
namespace Go.Proofs.YtdhbgelijjlifaaGreatDoor
open Go.ChangeShapes Go.WideShapes Go.ChangeAt Go.RowKit Go.Joins Go.Deep
section
variable {H : Type} {enc : TypeId × Value → H} {P : Program} {w : World} {base : Nat} {spare : Nat → Bool} {held : Bool}
theorem fieldLeaves_readB (B : Nat) (lv : TypeId → Option (List TypeId)) (cs : List Value)
 (ih : ∀ t l m cs' x, lv t = some l → DataW.trod enc P w base spare held m t cs' = some x → Rows.uptoBulk x.1 ≤ B → LeafReadB B enc P w base spare held cs' l) :
 ∀ (fs : List Field) (off : Nat) (r : List TypeId), fieldLeaves lv P fs off = some r → (∀ f ∈ fs, ∃ m y, DataW.trod enc P w base spare held m f.type ((cs.drop f.offset).take (P.cellsOf f.type)) = some y ∧ Rows.uptoBulk y.1 ≤ B) →
   ∀ j t', r[j]? = some t' → ∃ m y, DataW.trod enc P w base spare held m t' ((cs.drop (off + j)).take 1) = some y ∧ Rows.uptoBulk y.1 ≤ B := by
 intro fs
 induction fs with
 | nil => intro off r h _ j t' hj; simp only [fieldLeaves, Option.some.injEq] at h; subst h; simp at hj
 | cons f fs ihf =>
   intro off r h hf j t' hj
   unfold fieldLeaves at h
   cases hl : lv f.type with
   | none => rw [hl] at h; cases h
   | some l =>
     cases hr : fieldLeaves lv P fs (off + P.cellsOf f.type) with
     | none => rw [hl, hr] at h; cases h
     | some r' =>
       rw [hl, hr] at h
       simp only at h
       split at h
       · rename_i hc
         injection h with h
         subst h
         obtain ⟨ho, hlen⟩ := hc
         by_cases hjl : j < l.length
         · rw [List.getElem?_append_left hjl] at hj
           obtain ⟨m, y, hy, hb⟩ := hf f (by simp)
           obtain ⟨m', y', hy', hb'⟩ := ih _ _ _ _ _ hl hy hb j t' hj
           refine ⟨m', y', ?_, hb'⟩
           rw [ho, List.drop_take, List.drop_drop, List.take_take, show min 1 (P.cellsOf f.type - j) = 1 by omega] at hy'
           exact hy'
         · rw [List.getElem?_append_right (by omega)] at hj
           obtain ⟨m, y, hy, hb⟩ := ihf _ _ hr (fun g hg => hf g (by simp [hg])) (j - l.length) t' hj
           refine ⟨m, y, ?_, hb⟩
           rw [show off + P.cellsOf f.type + (j - l.length) = off + j by omega] at hy
           exact hy
       · cases h
theorem leaves_readB (B : Nat) : ∀ (n : Nat) (t : TypeId) (l : List TypeId) (m : Nat) (cs : List Value) (x : DataW H × List MemPlace), leaves P n t = some l → DataW.trod enc P w base spare held m t cs = some x → Rows.uptoBulk x.1 ≤ B → LeafReadB B enc P w base spare held cs l := by
 intro n
 induction n with
 | zero => intro t l m cs x h; cases h
 | succ n ih =>
   intro t l m cs x h hx hB
   have one : ∀ (t : TypeId), (if P.cellsOf t = 1 then some [t] else none) = some l → DataW.trod enc P w base spare held m t cs = some x → cs.length = 1 → LeafReadB B enc P w base spare held cs l := by
    intro t h hx hl
    split at h
    · injection h with h
      subst h
      intro j t' hj
      cases j with
      | zero =>
        simp at hj
        subst hj
        refine ⟨m, x, ?_, hB⟩
        rw [List.drop_zero, List.take_of_length_le (by omega)]; exact hx
      | succ j => simp at hj
    · cases h
   unfold leaves at h
   split at h
   · rename_i fs hu
     split at h
     · rename_i l' hl'
       split at h
       · injection h with h
         subst h
         obtain ⟨xs, n', _, he, _, hlen, hf⟩ := DataW.trod_struct hu hx
         have hparts : ∀ i (hi : i < xs.length), Rows.uptoBulk xs[i].1 ≤ B := fun i hi => by
          rw [he] at hB
          simp only [Rows.uptoBulk] at hB
          have := bulk_part (H := H) (d := xs[i].1) (l := xs.map (·.1)) (List.mem_map.2 ⟨xs[i], List.getElem_mem hi, rfl⟩)
          omega
         intro j t' hj
         have := fieldLeaves_readB (enc := enc) (w := w) (base := base) (spare := spare) (held := held) B (leaves P n) cs (fun t l m cs' x h h' hb => ih t l m cs' x h h' hb) fs.toList 0 l' hl' (fun f hfm => by
          obtain ⟨i, hi, e⟩ := List.getElem_of_mem hfm
          have hfi : fs[i]? = some f := by
           rw [← Array.getElem?_toList, List.getElem?_eq_getElem hi, e]
          have h1 := hf i f hfi
          have hxi : i < xs.length := by rw [hlen]; simpa using hi
          exact ⟨n', xs[i], h1.trans (List.getElem?_eq_getElem hxi), hparts i hxi⟩) j t' hj
         rwa [Nat.zero_add] at this
       · cases h
     · cases h
   · rename_i k hu
     obtain ⟨z, hz, _⟩ := DataW.trod_int hu hx
     exact one t h hx (by rw [hz]; rfl)
   · rename_i hu
     obtain ⟨z, hz, _⟩ := DataW.trod_string hu hx
     exact one t h hx (by rw [hz]; rfl)
   · rename_i hu
     obtain ⟨z, hz, _⟩ := DataW.trod_bool hu hx
     exact one t h hx (by rw [hz]; rfl)
   · rename_i e hu
     have : cs.length = 1 := by
      rcases Go.Deep.open_slice hu hx with ⟨hz, _⟩ | ⟨_, _, _, _, _, _, _, hz, _⟩ <;> rw [hz] <;> rfl
     exact one t h hx this
   · cases h
end
end Go.Proofs.YtdhbgelijjlifaaGreatDoor
namespace Go.Proofs.YtdhbgelijjlifaaGreatDoor
open Go.ChangeShapes Go.WideShapes Go.ChangeAt Go.RowKit Go.Joins Go.Deep
section
variable {H : Type} {enc : TypeId × Value → H} {P : Program} {w : World} {base : Nat} {spare : Nat → Bool} {held : Bool}
theorem LeafReadB.str {B : Nat} {cs : List Value} {l : List TypeId} (h : LeafReadB B enc P w base spare held cs l) (j : Nat) (t' : TypeId) (hj : l[j]? = some t') (hu : P.underlying t' = some .string) : ∃ s : ByteArray, cs[j]? = some (.string s) ∧ s.size ≤ B := by
 obtain ⟨m, y, hy, hb⟩ := h j t' hj
 obtain ⟨z, hz, hd, hw⟩ := DataW.trod_string hu hy
 refine ⟨z, ?_, ?_⟩
 · have : ((cs.drop j).take 1)[0]? = some (.string z) := by rw [hz]; rfl
   rwa [List.getElem?_take_of_lt (by omega), List.getElem?_drop] at this
 · rw [hd] at hb
   simp only [bulk_string] at hb
   have : z.data.toList.length = z.size := Array.length_toList
   omega
theorem rows_bound {t e : TypeId} {u : Value} {m0 : Nat} {y : DataW H × List MemPlace} (ht : P.underlying t = some (.slice e)) (c : Nat) (hc : P.cellsOf e = c) (hc0 : 0 < c) (B : Nat)
 (h : DataW.trod enc P w 0 (fun _ => true) held m0 t [u] = some y) (hB : Rows.uptoBulk y.1 ≤ B) {α : Type} (cells : α → List Value) (good : α → Prop) (hlen : ∀ x, (cells x).length = c)
 (hel : ∀ m cs x, DataW.trod enc P w 0 (fun _ => true) held m e cs = some x → cs.length = c → Rows.uptoBulk x.1 ≤ B → ∃ a, cs = cells a ∧ good a) :
 ∃ (l : List α) (n : Nat), l.length = n ∧ (∀ a ∈ l, good a) ∧ ∀ row : List α → List Value, row [] = [] → (∀ x l, row (x :: l) = cells x ++ row l) → Reads w u n (row l) := by
 rcases Go.Deep.open_slice ht h with ⟨hcs, _⟩ | ⟨a, len, cap, m, n, D, Pl, hcs, _, hl, hm, hmm, hd, hi⟩
 · injection hcs with hcs _
   subst hcs
   exact ⟨[], 0, rfl, by simp, fun row h0 _ => by rw [h0]; exact Reads.nil w⟩
 · injection hcs with hcs _
   subst hcs
   simp only [if_true] at hmm
   have hD : ∀ i, i < len → Rows.uptoBulk (D i) ≤ B := fun i hil => by
    rw [hd] at hB
    simp only [Rows.uptoBulk] at hB
    have := bulk_part (H := H) (d := D i) (l := (List.range len).map D) (List.mem_map.2 ⟨i, List.mem_range.2 hil, rfl⟩)
    omega
   have hk : ∀ i, i < len → ∃ x : α, good x ∧ w.cells? 0 (a.add (i * c)) c = some (cells x) := by
    intro i hil
    obtain ⟨cs', h1, h2⟩ := hi i (by omega)
    rw [hc] at h1
    obtain ⟨_, hcl, _⟩ := World.cells?_some h1
    obtain ⟨x, rfl, hg⟩ := hel _ _ _ h2 hcl (hD i hil)
    exact ⟨x, hg, h1⟩
   have hlist : ∀ k, k ≤ len → ∃ l : List α, l.length = k ∧ (∀ x ∈ l, good x) ∧ ∀ i (hi : i < l.length), w.cells? 0 (a.add (i * c)) c = some (cells l[i]) := by
    intro k
    induction k with
    | zero => intro _; exact ⟨[], rfl, by simp, by simp⟩
    | succ k ih =>
      intro hk'
      obtain ⟨l, h1, h2, h3⟩ := ih (by omega)
      obtain ⟨x, hg, hx⟩ := hk k (by omega)
      refine ⟨l ++ [x], by simp [h1], ?_, ?_⟩
      · intro y hy
        rcases List.mem_append.1 hy with hy | hy
        · exact h2 y hy
        · simp at hy; subst hy; exact hg
      · intro i hi
        by_cases hil : i < l.length
        · rw [List.getElem_append_left hil]; exact h3 i hil
        · have : i = l.length := by simp at hi; omega
          subst this
          rw [List.getElem_concat_length (by rfl), h1]; exact hx
   obtain ⟨l, h1, h2, h3⟩ := hlist len (Nat.le_refl _)
   refine ⟨l, len, h1, h2, fun row r0 r1 => ?_⟩
   by_cases h0 : len = 0
   · subst h0
     obtain rfl := List.eq_nil_of_length_eq_zero h1
     exact .inl ⟨some a, cap, rfl, rfl, r0⟩
   · have hat : ∀ i (hi : i < l.length) j, j < c → w.cell? (a.add (i * c + j)) = (cells l[i])[j]? := by
      intro i hi j hj
      obtain ⟨_, _, hcell⟩ := World.cells?_some (h3 i hi)
      have := hcell j hj
      rw [Go.Deep.add_add] at this
      exact this
     have hfirst := hat 0 (by omega) 0 hc0
     rw [Nat.zero_mul, Nat.zero_add] at hfirst
     have ha : a.add 0 = a := by simp [Addr.add]
     rw [ha] at hfirst
     have hsome : (cells l[0])[0]? = some ((cells l[0])[0]'(by rw [hlen]; exact hc0)) := List.getElem?_eq_getElem _
     rw [hsome] at hfirst
     obtain ⟨e1, hb⟩ := spot_none hfirst
     have hrow : ∀ (l' : List α) (i : Nat) (u : Value), (row l')[i]? = some u → i / c < l'.length ∧ ∀ (h : i / c < l'.length), (cells l'[i / c])[i % c]? = some u := by
      intro l'
      induction l' with
      | nil => intro i u hu; rw [r0] at hu; simp at hu
      | cons x l' ih =>
        intro i u hu
        rw [r1] at hu
        by_cases hic : i < c
        · rw [List.getElem?_append_left (by rw [hlen]; exact hic)] at hu
          rw [Nat.div_eq_of_lt hic, Nat.mod_eq_of_lt hic]
          exact ⟨by simp, fun _ => hu⟩
        · rw [List.getElem?_append_right (by rw [hlen]; omega), hlen] at hu
          obtain ⟨g1, g2⟩ := ih _ _ hu
          have e2 : i / c = (i - c) / c + 1 := by
           conv => lhs; rw [show i = (i - c) + c by omega]
           rw [Nat.add_div_right _ hc0]
          have e3 : i % c = (i - c) % c := by
           conv => lhs; rw [show i = (i - c) + c by omega]
           rw [Nat.add_mod_right]
          refine ⟨by rw [e2]; simpa using g1, fun hh => ?_⟩
          rw [e3]
          simp only [e2, List.getElem_cons_succ]
          exact g2 g1
     refine .inr ⟨a.block, a.off, cap, by rw [← e1], hl, hm, hb, fun i u hu => ?_⟩
     obtain ⟨g1, g2⟩ := hrow l i u hu
     have := hat (i / c) g1 (i % c) (Nat.mod_lt _ hc0)
     rw [g2 g1, show i / c * c + i % c = i by rw [Nat.mul_comm]; exact Nat.div_add_mod i c, e1, add_plain] at this
     exact this
end
theorem rule_leavesB : leaves Tryz.prog 5 61 = some [9, 3, 3, 3, 3, 3, 3, 3, 3, 3, 9] := by kernel_rfl
theorem era_leavesB : leaves Tryz.prog 5 56 = some [3, 3, 3, 9, 9, 4, 3, 3, 3, 3, 3, 3, 3] := by kernel_rfl
theorem zone_leavesB : leaves Tryz.prog 5 59 = some [9, 57] := by kernel_rfl
theorem link_leavesB : leaves Tryz.prog 5 63 = some [9, 9] := by kernel_rfl
theorem source_leavesB : leaves Tryz.prog 5 26 = some [22, 23, 24] := by kernel_rfl
section
variable {H : Type} {enc : TypeId × Value → H} {w : World} {held : Bool}
theorem eras_bound {u : Value} {m0 : Nat} {y : DataW H × List MemPlace} (h : DataW.trod enc Tryz.prog w 0 (fun _ => true) held m0 57 [u] = some y) (hB : Rows.uptoBulk y.1 ≤ 1048576) :
 ∃ l : List Era, (∀ x ∈ l, fitsE x) ∧ Reads w u l.length (eraRow l) := by
 obtain ⟨l, n, hn, hg, hr⟩ := rows_bound Tryz.underlying57 13 (by kernel_rfl) (by omega) 1048576 h hB (fun x : Era => eraCells x) fitsE (fun _ => rfl) (by
  intro m cs x hx hl hb
  have L := leaves_readB 1048576 5 _ _ m cs x era_leavesB hx hb
  obtain ⟨a0, e0, -⟩ := L.int 0 _ _ rfl Tryz.underlying3
  obtain ⟨a1, e1, -⟩ := L.int 1 _ _ rfl Tryz.underlying3
  obtain ⟨a2, e2, -⟩ := L.int 2 _ _ rfl Tryz.underlying3
  obtain ⟨a3, e3, b3⟩ := L.str 3 _ rfl Tryz.underlying9
  obtain ⟨a4, e4, b4⟩ := L.str 4 _ rfl Tryz.underlying9
  obtain ⟨a5, e5⟩ := L.bool 5 _ rfl Tryz.underlying4
  obtain ⟨a6, e6, -⟩ := L.int 6 _ _ rfl Tryz.underlying3
  obtain ⟨a7, e7, -⟩ := L.int 7 _ _ rfl Tryz.underlying3
  obtain ⟨a8, e8, -⟩ := L.int 8 _ _ rfl Tryz.underlying3
  obtain ⟨a9, e9, -⟩ := L.int 9 _ _ rfl Tryz.underlying3
  obtain ⟨a10, e10, -⟩ := L.int 10 _ _ rfl Tryz.underlying3
  obtain ⟨a11, e11, -⟩ := L.int 11 _ _ rfl Tryz.underlying3
  obtain ⟨a12, e12, -⟩ := L.int 12 _ _ rfl Tryz.underlying3
  match cs, hl with
  | [c0, c1, c2, c3, c4, c5, c6, c7, c8, c9, c10, c11, c12], _ =>
    simp at e0 e1 e2 e3 e4 e5 e6 e7 e8 e9 e10 e11 e12
    subst e0 e1 e2 e3 e4 e5 e6 e7 e8 e9 e10 e11 e12
    exact ⟨⟨a0, a1, a2, a3, a4, a5, a6, a7, a8, a9, a10, a11, a12⟩, rfl, b3, b4⟩)
 subst hn
 exact ⟨l, hg, hr eraRow rfl (fun _ _ => rfl)⟩
theorem rules_bound {u : Value} {m0 : Nat} {y : DataW H × List MemPlace} (h : DataW.trod enc Tryz.prog w 0 (fun _ => true) held m0 22 [u] = some y) (hB : Rows.uptoBulk y.1 ≤ 1048576) :
 ∃ l : List Rule, (∀ x ∈ l, fitsR x) ∧ Reads w u l.length (ruleRow l) := by
 obtain ⟨l, n, hn, hg, hr⟩ := rows_bound Tryz.underlying22 11 (by kernel_rfl) (by omega) 1048576 h hB (fun x : Rule => ruleCells x) fitsR (fun _ => rfl) (by
  intro m cs x hx hl hb
  have L := leaves_readB 1048576 5 _ _ m cs x rule_leavesB hx hb
  obtain ⟨a0, e0, b0⟩ := L.str 0 _ rfl Tryz.underlying9
  obtain ⟨a1, e1, -⟩ := L.int 1 _ _ rfl Tryz.underlying3
  obtain ⟨a2, e2, -⟩ := L.int 2 _ _ rfl Tryz.underlying3
  obtain ⟨a3, e3, -⟩ := L.int 3 _ _ rfl Tryz.underlying3
  obtain ⟨a4, e4, -⟩ := L.int 4 _ _ rfl Tryz.underlying3
  obtain ⟨a5, e5, -⟩ := L.int 5 _ _ rfl Tryz.underlying3
  obtain ⟨a6, e6, -⟩ := L.int 6 _ _ rfl Tryz.underlying3
  obtain ⟨a7, e7, -⟩ := L.int 7 _ _ rfl Tryz.underlying3
  obtain ⟨a8, e8, -⟩ := L.int 8 _ _ rfl Tryz.underlying3
  obtain ⟨a9, e9, -⟩ := L.int 9 _ _ rfl Tryz.underlying3
  obtain ⟨a10, e10, b10⟩ := L.str 10 _ rfl Tryz.underlying9
  match cs, hl with
  | [c0, c1, c2, c3, c4, c5, c6, c7, c8, c9, c10], _ =>
    simp at e0 e1 e2 e3 e4 e5 e6 e7 e8 e9 e10
    subst e0 e1 e2 e3 e4 e5 e6 e7 e8 e9 e10
    exact ⟨⟨a0, a1, a2, a3, a4, a5, a6, a7, a8, a9, a10⟩, rfl, b0, b10⟩)
 subst hn
 exact ⟨l, hg, hr ruleRow rfl (fun _ _ => rfl)⟩
theorem links_bound {u : Value} {m0 : Nat} {y : DataW H × List MemPlace} (h : DataW.trod enc Tryz.prog w 0 (fun _ => true) held m0 24 [u] = some y) (hB : Rows.uptoBulk y.1 ≤ 1048576) :
 ∃ l : List Link, (∀ x ∈ l, fitsL x) ∧ Reads w u l.length (linkRow l) := by
 obtain ⟨l, n, hn, hg, hr⟩ := rows_bound Tryz.underlying24 2 (by kernel_rfl) (by omega) 1048576 h hB (fun x : Link => linkCells x) fitsL (fun _ => rfl) (by
  intro m cs x hx hl hb
  have L := leaves_readB 1048576 5 _ _ m cs x link_leavesB hx hb
  obtain ⟨a0, e0, b0⟩ := L.str 0 _ rfl Tryz.underlying9
  obtain ⟨a1, e1, b1⟩ := L.str 1 _ rfl Tryz.underlying9
  match cs, hl with
  | [c0, c1], _ =>
    simp at e0 e1
    subst e0 e1
    exact ⟨⟨a0, a1⟩, rfl, b0, b1⟩)
 subst hn
 exact ⟨l, hg, hr linkRow rfl (fun _ _ => rfl)⟩
theorem zones_bound {u : Value} {m0 : Nat} {y : DataW H × List MemPlace} (h : DataW.trod enc Tryz.prog w 0 (fun _ => true) held m0 23 [u] = some y) (hB : Rows.uptoBulk y.1 ≤ 1048576) :
 ∃ l : List Zone, (∀ x ∈ l, fitsZ x) ∧ ReadsZ w u l := by
 obtain ⟨l, n, hn, hg, hr⟩ := rows_bound Tryz.underlying23 2 (by kernel_rfl) (by omega) 1048576 h hB (fun p : Zone × Value => zoneCells p) (fun p => fitsZ p.1 ∧ Reads w p.2 p.1.es.length (eraRow p.1.es)) (fun _ => rfl) (by
  intro m cs x hx hl hb
  have L := leaves_readB 1048576 5 _ _ m cs x zone_leavesB hx hb
  obtain ⟨a0, e0, b0⟩ := L.str 0 _ rfl Tryz.underlying9
  match cs, hl with
  | [c0, c1], _ =>
    obtain ⟨m', y', h1, h2⟩ := L.one 1 _ rfl c1 rfl
    obtain ⟨es, f, r⟩ := eras_bound h1 h2
    simp at e0
    subst e0
    exact ⟨(⟨a0, es⟩, c1), rfl, ⟨b0, f⟩, r⟩)
 subst hn
 refine ⟨l.map (·.1), ?_, l, rfl, ?_, fun p hp => (hg p hp).2⟩
 · intro x hx
   obtain ⟨p, hp, rfl⟩ := List.mem_map.1 hx
   exact (hg p hp).1
 · rw [List.length_map]
   exact hr zoneRow rfl (fun _ _ => rfl)
set_option maxRecDepth 100000 in
theorem arg_source {v : Value} {d : DataW H} {p : List MemPlace} {r : Reach} {b0 : Nat}
 (hval : Value.okWide Tryz.prog w r b0 26 v) (h : DataW.Trod enc Tryz.prog w 0 (fun _ => true) held 26 v d p) (hB : Rows.uptoBulk d ≤ 1048576) :
 ∃ s : Source, ReadsS w v s ∧ fits s := by
 obtain ⟨⟨l⟩, rfl, hsz⟩ := okWide_struct Tryz.underlying26 hval
 obtain ⟨fuel, hf⟩ := h
 have hC : Tryz.prog.cellsOf 26 = 3 := by kernel_rfl
 have L := leaves_readB 1048576 5 _ _ fuel _ _ source_leavesB hf hB
 match l, hsz.trans hC with
 | [c0, c1, c2], _ =>
   obtain ⟨m0, y0, h0, b0⟩ := L.one 0 _ rfl c0 rfl
   obtain ⟨m1, y1, h1, b1⟩ := L.one 1 _ rfl c1 rfl
   obtain ⟨m2, y2, h2, b2⟩ := L.one 2 _ rfl c2 rfl
   obtain ⟨rs, f0, r0⟩ := rules_bound h0 b0
   obtain ⟨zs, f1, r1⟩ := zones_bound h1 b1
   obtain ⟨ls, f2, r2⟩ := links_bound h2 b2
   exact ⟨⟨rs, zs, ls⟩, ⟨c0, c1, c2, rfl, r0, r1, r2⟩, f0, f1, f2⟩
end
end Go.Proofs.YtdhbgelijjlifaaGreatDoor
