/- The shelf contracts of this seat that are used, in plain declarations, as the kit tool lays them. -/
import Derived.Shelf.Small.Strs
import Derived.Shelf.Small.Wraps
import Derived.Shelf.Strconv.Itoa0
import Derived.Shelf.LaysM
import Derived.Shelf.Strconv.Clone
import Derived.Shelf.Strconv.SyntaxError
import Derived.Shelf.LaysC
import Derived.Shelf.Strconv.ToError
import Derived.Shelf.Strconv.Lower
import Derived.Shelf.Strconv.ParseUint10
import Derived.Shelf.Strconv.ParseUint10Empty
import Derived.Shelf.Strconv.ParseUint10Any
import Derived.Shelf.Strconv.RangeError
import Derived.Shelf.Strconv.ToErrorRange
import Derived.Shelf.Strconv.ParseUintEmpty
import Derived.Shelf.Strconv.ParseUint10b64
import Derived.Shelf.Strconv.ParseUint10b32
import Derived.Shelf.Strconv.ParseUint10b16
import Derived.Shelf.Strconv.ParseUint10b8
import Derived.Shelf.Strconv.ParseUint10At
import Derived.Ground.MpProg
import Derived.Shelf.Pu.ParseUintPublic10
import Derived.Shelf.Pu.ErrVarParseUint
import Derived.Shelf.Strings.Search1
import Derived.Shelf.Strings.Search2
import Derived.Shelf.Strings.Search3
import Derived.Shelf.Strings.Cut
import Derived.Shelf.Strings.Count
import Derived.Shelf.Strings.Shaped
import Derived.Shelf.Strings.Prefix
import Derived.Shelf.Strings.Split
import Derived.Shelf.Strings.SplitShaped
import Derived.Shelf.Unicode.DecodeSlow
import Derived.Shelf.Unicode.DecodeAny
import Derived.Test.YtdhbgelijjlifaaDoorProg
namespace Go.Proofs
open Go.Shelf
def Tryd.lays137_ren : Go.Shelf.Ren := ⟨fun | 137 => 23 | 217 => 39 | 266 => 48 | n => n, fun | 9 => 9 | 5 => 5 | 3 => 3 | n => n, fun | n => n⟩
theorem Tryd.lays137 : Go.Proofs.Lays.n137 Tryd.prog Tryd.lays137_ren := {
  mixed := by kernel_rfl
  f137 := Tryd.func23.trans (congrArg some (by kernel_rfl))
  f217 := Tryd.func39.trans (congrArg some (by kernel_rfl))
  f266 := Tryd.func48.trans (congrArg some (by kernel_rfl))
  t3 := Tryd.underlying3
  a3 := Tryd.isAgg3
  z3 := Tryd.sizeOf3
  v3 := Tryd.zeroValue3
  t5 := Tryd.underlying5
  a5 := Tryd.isAgg5
  z5 := Tryd.sizeOf5
  v5 := Tryd.zeroValue5
  t9 := Tryd.underlying9
  a9 := Tryd.isAgg9
  z9 := Tryd.sizeOf9
  v9 := Tryd.zeroValue9 }
open Go.RowKit in
theorem Tryd.strings_IndexByte (s : ByteArray) (c : Int) (w : World) :
    Calls Tryd.prog 23 #[.string s, .int .u8 c] w fun e w' => e = .returned (.int .i64 (Lib.indexByte s.data.toList c.toNat.toUInt8)) ∧ w' = w := Any.strings_IndexByte Tryd.lays137 s c w
def Tryd.lays210_ren : Go.Shelf.Ren := ⟨fun | 210 => 82 | 206 => 85 | n => n, fun | 9 => 9 | 4 => 4 | 3 => 3 | n => n, fun | n => n⟩
theorem Tryd.lays210 : Go.Proofs.Lays.n210 Tryd.prog Tryd.lays210_ren := {
  mixed := by kernel_rfl
  f206 := Tryd.func85.trans (congrArg some (by kernel_rfl))
  f210 := Tryd.func82.trans (congrArg some (by kernel_rfl))
  t3 := Tryd.underlying3
  a3 := Tryd.isAgg3
  z3 := Tryd.sizeOf3
  v3 := Tryd.zeroValue3
  t4 := Tryd.underlying4
  a4 := Tryd.isAgg4
  z4 := Tryd.sizeOf4
  v4 := Tryd.zeroValue4
  t9 := Tryd.underlying9
  a9 := Tryd.isAgg9
  z9 := Tryd.sizeOf9
  v9 := Tryd.zeroValue9 }
open Go.RowKit in
theorem Tryd.stringslite_CutPrefix (s p : ByteArray) (w : World) :
    Calls Tryd.prog 82 #[.string s, .string p] w fun e w' => e = .returned (.tuple #[.string ⟨(Lib.trimPrefix s.data.toList p.data.toList).toArray⟩, .bool (Lib.hasPrefix s.data.toList p.data.toList)]) ∧ w' = w := Any.stringslite_CutPrefix Tryd.lays210 s p w
def Tryd.lays103_ren : Go.Shelf.Ren := ⟨fun | 103 => 72 | 210 => 82 | 206 => 85 | n => n, fun | 9 => 9 | 4 => 4 | 24 => 112 | 3 => 3 | n => n, fun | n => n⟩
theorem Tryd.lays103 : Go.Proofs.Lays.n103 Tryd.prog Tryd.lays103_ren := {
  mixed := by kernel_rfl
  f103 := Tryd.func72.trans (congrArg some (by kernel_rfl))
  f206 := Tryd.func85.trans (congrArg some (by kernel_rfl))
  f210 := Tryd.func82.trans (congrArg some (by kernel_rfl))
  t3 := Tryd.underlying3
  a3 := Tryd.isAgg3
  z3 := Tryd.sizeOf3
  v3 := Tryd.zeroValue3
  t4 := Tryd.underlying4
  a4 := Tryd.isAgg4
  z4 := Tryd.sizeOf4
  v4 := Tryd.zeroValue4
  t9 := Tryd.underlying9
  a9 := Tryd.isAgg9
  z9 := Tryd.sizeOf9
  v9 := Tryd.zeroValue9
  t24 := Tryd.underlying112
  a24 := Tryd.isAgg112
  z24 := Tryd.sizeOf112
  v24 := Tryd.zeroValue112 }
open Go.RowKit in
theorem Tryd.strings_CutPrefix (s p : ByteArray) (w : World) :
    Calls Tryd.prog 72 #[.string s, .string p] w fun e w' => e = .returned (.tuple #[.string ⟨(Lib.trimPrefix s.data.toList p.data.toList).toArray⟩, .bool (Lib.hasPrefix s.data.toList p.data.toList)]) ∧ w' = w := Any.strings_CutPrefix Tryd.lays103 s p w
def Tryd.laysPu14_ren : Go.Shelf.Ren := ⟨fun | 14 => 45 | 16 => 54 | 17 => 55 | 19 => 64 | 20 => 65 | 21 => 66 | 22 => 67 | 23 => 68 | 24 => 69 | 25 => 77 | 27 => 79 | 26 => 78 | 28 => 84 | 29 => 86 | 30 => 87 | 31 => 88 | 32 => 89 | 33 => 90 | 35 => 92 | 34 => 91 | 36 => 93 | 37 => 94 | 38 => 95 | 39 => 96 | 40 => 97 | n => n, fun | 9 => 9 | 3 => 3 | 22 => 82 | 24 => 84 | 25 => 85 | 4 => 4 | 34 => 104 | 5 => 5 | 36 => 103 | 37 => 106 | 0 => 0 | 39 => 107 | 21 => 21 | 44 => 126 | 47 => 129 | 50 => 132 | 48 => 130 | 2 => 2 | 52 => 134 | 55 => 137 | 59 => 140 | 60 => 121 | 20 => 20 | 61 => 141 | 65 => 145 | 66 => 146 | 67 => 147 | n => n, fun | 0 => 3 | 1 => 4 | 2 => 5 | 3 => 6 | 4 => 7 | n => n⟩
theorem Tryd.laysPu14 : Go.Proofs.LaysPu.n14 Tryd.prog Tryd.laysPu14_ren := {
  mixed := by kernel_rfl
  f14 := Tryd.func45.trans (congrArg some (by kernel_rfl))
  f16 := Tryd.func54.trans (congrArg some (by kernel_rfl))
  f17 := Tryd.func55.trans (congrArg some (by kernel_rfl))
  f19 := Tryd.func64.trans (congrArg some (by kernel_rfl))
  f20 := Tryd.func65.trans (congrArg some (by kernel_rfl))
  f21 := Tryd.func66.trans (congrArg some (by kernel_rfl))
  f22 := Tryd.func67.trans (congrArg some (by kernel_rfl))
  f23 := Tryd.func68.trans (congrArg some (by kernel_rfl))
  f24 := Tryd.func69.trans (congrArg some (by kernel_rfl))
  f25 := Tryd.func77.trans (congrArg some (by kernel_rfl))
  f26 := Tryd.func78.trans (congrArg some (by kernel_rfl))
  f27 := Tryd.func79.trans (congrArg some (by kernel_rfl))
  f28 := Tryd.func84.trans (congrArg some (by kernel_rfl))
  f29 := Tryd.func86.trans (congrArg some (by kernel_rfl))
  f30 := Tryd.func87.trans (congrArg some (by kernel_rfl))
  f31 := Tryd.func88.trans (congrArg some (by kernel_rfl))
  f32 := Tryd.func89.trans (congrArg some (by kernel_rfl))
  f33 := Tryd.func90.trans (congrArg some (by kernel_rfl))
  f34 := Tryd.func91.trans (congrArg some (by kernel_rfl))
  f35 := Tryd.func92.trans (congrArg some (by kernel_rfl))
  f36 := Tryd.func93.trans (congrArg some (by kernel_rfl))
  f37 := Tryd.func94.trans (congrArg some (by kernel_rfl))
  f38 := Tryd.func95.trans (congrArg some (by kernel_rfl))
  f39 := Tryd.func96.trans (congrArg some (by kernel_rfl))
  f40 := Tryd.func97.trans (congrArg some (by kernel_rfl))
  t0 := Tryd.underlying0
  a0 := Tryd.isAgg0
  z0 := Tryd.sizeOf0
  v0 := Tryd.zeroValue0
  i0 := by kernel_rfl
  t2 := Tryd.underlying2
  a2 := Tryd.isAgg2
  z2 := Tryd.sizeOf2
  v2 := Tryd.zeroValue2
  i2 := by kernel_rfl
  t3 := Tryd.underlying3
  a3 := Tryd.isAgg3
  z3 := Tryd.sizeOf3
  v3 := Tryd.zeroValue3
  i3 := by kernel_rfl
  t4 := Tryd.underlying4
  a4 := Tryd.isAgg4
  z4 := Tryd.sizeOf4
  v4 := Tryd.zeroValue4
  i4 := by kernel_rfl
  t5 := Tryd.underlying5
  a5 := Tryd.isAgg5
  z5 := Tryd.sizeOf5
  v5 := Tryd.zeroValue5
  i5 := by kernel_rfl
  t9 := Tryd.underlying9
  a9 := Tryd.isAgg9
  z9 := Tryd.sizeOf9
  v9 := Tryd.zeroValue9
  i9 := by kernel_rfl
  t20 := Tryd.underlying20
  a20 := Tryd.isAgg20
  z20 := Tryd.sizeOf20
  v20 := Tryd.zeroValue20
  i20 := by kernel_rfl
  t21 := Tryd.underlying21
  a21 := Tryd.isAgg21
  z21 := Tryd.sizeOf21
  v21 := Tryd.zeroValue21
  i21 := by kernel_rfl
  t22 := Tryd.underlying82
  a22 := Tryd.isAgg82
  z22 := Tryd.sizeOf82
  v22 := Tryd.zeroValue82
  i22 := by kernel_rfl
  t24 := Tryd.underlying84
  a24 := Tryd.isAgg84
  z24 := Tryd.sizeOf84
  v24 := Tryd.zeroValue84
  i24 := by kernel_rfl
  t25 := Tryd.underlying85
  a25 := Tryd.isAgg85
  z25 := Tryd.sizeOf85
  v25 := Tryd.zeroValue85
  i25 := by kernel_rfl
  t34 := Tryd.underlying104
  a34 := Tryd.isAgg104
  z34 := Tryd.sizeOf104
  v34 := Tryd.zeroValue104
  i34 := by kernel_rfl
  c34 := by kernel_rfl
  t36 := Tryd.underlying103
  a36 := Tryd.isAgg103
  z36 := Tryd.sizeOf103
  v36 := Tryd.zeroValue103
  i36 := by kernel_rfl
  t37 := Tryd.underlying106
  a37 := Tryd.isAgg106
  z37 := Tryd.sizeOf106
  v37 := Tryd.zeroValue106
  i37 := by kernel_rfl
  t39 := Tryd.underlying107
  a39 := Tryd.isAgg107
  z39 := Tryd.sizeOf107
  v39 := Tryd.zeroValue107
  i39 := by kernel_rfl
  t44 := Tryd.underlying126
  a44 := Tryd.isAgg126
  z44 := Tryd.sizeOf126
  v44 := Tryd.zeroValue126
  i44 := by kernel_rfl
  t47 := Tryd.underlying129
  a47 := Tryd.isAgg129
  z47 := Tryd.sizeOf129
  v47 := Tryd.zeroValue129
  i47 := by kernel_rfl
  t48 := Tryd.underlying130
  a48 := Tryd.isAgg130
  z48 := Tryd.sizeOf130
  v48 := Tryd.zeroValue130
  i48 := by kernel_rfl
  t50 := Tryd.underlying132
  a50 := Tryd.isAgg132
  z50 := Tryd.sizeOf132
  v50 := Tryd.zeroValue132
  i50 := by kernel_rfl
  t52 := Tryd.underlying134
  a52 := Tryd.isAgg134
  z52 := Tryd.sizeOf134
  v52 := Tryd.zeroValue134
  i52 := by kernel_rfl
  t55 := Tryd.underlying137
  a55 := Tryd.isAgg137
  z55 := Tryd.sizeOf137
  v55 := Tryd.zeroValue137
  i55 := by kernel_rfl
  t59 := Tryd.underlying140
  a59 := Tryd.isAgg140
  z59 := Tryd.sizeOf140
  v59 := Tryd.zeroValue140
  i59 := by kernel_rfl
  t60 := Tryd.underlying121
  a60 := Tryd.isAgg121
  z60 := Tryd.sizeOf121
  v60 := Tryd.zeroValue121
  i60 := by kernel_rfl
  t61 := Tryd.underlying141
  a61 := Tryd.isAgg141
  z61 := Tryd.sizeOf141
  t65 := Tryd.underlying145
  a65 := Tryd.isAgg145
  z65 := Tryd.sizeOf145
  v65 := Tryd.zeroValue145
  i65 := by kernel_rfl
  t66 := Tryd.underlying146
  a66 := Tryd.isAgg146
  z66 := Tryd.sizeOf146
  v66 := Tryd.zeroValue146
  i66 := by kernel_rfl
  t67 := Tryd.underlying147
  a67 := Tryd.isAgg147
  z67 := Tryd.sizeOf147
  v67 := Tryd.zeroValue147
  i67 := by kernel_rfl
  g0 := by kernel_rfl
  m0 := by kernel_rfl
  g1 := by kernel_rfl
  m1 := by kernel_rfl
  g2 := by kernel_rfl
  m2 := by kernel_rfl
  g3 := by kernel_rfl
  m3 := by kernel_rfl
  g4 := by kernel_rfl
  m4 := by kernel_rfl }
open Go.RowKit in
theorem Tryd.strconv_ParseUint_10_at16_ok (s : ByteArray) (hmax : s.size ≤ 9223372036854775806) (u : Nat) (h : Lib.parseUintB 16 s.data.toList = .ok u) (w : World) :
    Calls Tryd.prog 45 #[.string s, .int .i64 10, .int .i64 16] w fun e w' => e = .returned (.tuple #[.int .u64 u, .nilIface]) ∧ (w' = w ∨ w' = Lib.bytesWorld w 5 s) := Any.strconv_ParseUint_10_at16_ok Tryd.laysPu14 s hmax u h w
open Go.RowKit in
theorem Tryd.strconv_ParseUint_10_at16_syntax (s : ByteArray) (hlim : s.size ≤ 281474976710656) (h : Lib.parseUintB 16 s.data.toList = Lib.NumEnd.syntax) (ev : Value) (w : World) (hv : w.cell? ⟨3, 0, none⟩ = some ev) (hev : ev = .nilIface ∨ ∃ te pe, ev = .iface te pe) :
    Calls Tryd.prog 45 #[.string s, .int .i64 10, .int .i64 16] w fun e w' => ∃ N, e = .returned (.tuple #[.int .u64 0, .iface 107 (.pointer (some ⟨N, 0, none⟩))]) ∧ w.heap.size ≤ N ∧ w'.heap[N]? = some (.cells #[.string ⟨#[80, 97, 114, 115, 101, 85, 105, 110, 116]⟩, .string s, ev] 126 (0, 0)) ∧ Below w.heap.size w w' := Any.strconv_ParseUint_10_at16_syntax Tryd.laysPu14 s hlim h ev w hv hev
open Go.RowKit in
theorem Tryd.strconv_ParseUint_10_at16_range (s : ByteArray) (hlim : s.size ≤ 281474976710656) (h : Lib.parseUintB 16 s.data.toList = .range) (ev : Value) (w : World) (hv : w.cell? ⟨4, 0, none⟩ = some ev) (hev : ev = .nilIface ∨ ∃ te pe, ev = .iface te pe) :
    Calls Tryd.prog 45 #[.string s, .int .i64 10, .int .i64 16] w fun e w' => ∃ N, e = .returned (.tuple #[.int .u64 65535, .iface 107 (.pointer (some ⟨N, 0, none⟩))]) ∧ w.heap.size ≤ N ∧ w'.heap[N]? = some (.cells #[.string ⟨#[80, 97, 114, 115, 101, 85, 105, 110, 116]⟩, .string s, ev] 126 (0, 0)) ∧ Below w.heap.size w w' := Any.strconv_ParseUint_10_at16_range Tryd.laysPu14 s hlim h ev w hv hev
def Tryd.lays217_ren : Go.Shelf.Ren := ⟨fun | 217 => 39 | 266 => 48 | n => n, fun | 9 => 9 | 5 => 5 | 3 => 3 | n => n, fun | n => n⟩
theorem Tryd.lays217 : Go.Proofs.Lays.n217 Tryd.prog Tryd.lays217_ren := {
  mixed := by kernel_rfl
  f217 := Tryd.func39.trans (congrArg some (by kernel_rfl))
  f266 := Tryd.func48.trans (congrArg some (by kernel_rfl))
  t3 := Tryd.underlying3
  a3 := Tryd.isAgg3
  z3 := Tryd.sizeOf3
  v3 := Tryd.zeroValue3
  t5 := Tryd.underlying5
  a5 := Tryd.isAgg5
  z5 := Tryd.sizeOf5
  v5 := Tryd.zeroValue5
  t9 := Tryd.underlying9
  a9 := Tryd.isAgg9
  z9 := Tryd.sizeOf9
  v9 := Tryd.zeroValue9 }
open Go.RowKit Go.Lib in
theorem Tryd.stringslite_IndexByte (s : ByteArray) (c : Int) (w : World) :
    Calls Tryd.prog 39 #[.string s, .int .u8 c] w fun e w' => e = .returned (.int .i64 (Lib.indexByte s.data.toList c.toNat.toUInt8)) ∧ w' = w := Any.stringslite_IndexByte Tryd.lays217 s c w
def Tryd.lays219_ren : Go.Shelf.Ren := ⟨fun | 219 => 52 | 217 => 39 | 225 => 61 | 224 => 62 | 267 => 63 | 266 => 48 | 314 => 76 | n => n, fun | 9 => 9 | 3 => 3 | 4 => 4 | 5 => 5 | 46 => 103 | 146 => 122 | 51 => 121 | n => n, fun | 1 => 0 | n => n⟩
theorem Tryd.lays219 : Go.Proofs.Lays.n219 Tryd.prog Tryd.lays219_ren := {
  mixed := by kernel_rfl
  f217 := Tryd.func39.trans (congrArg some (by kernel_rfl))
  f219 := Tryd.func52.trans (congrArg some (by kernel_rfl))
  f224 := Tryd.func62.trans (congrArg some (by kernel_rfl))
  f225 := Tryd.func61.trans (congrArg some (by kernel_rfl))
  f266 := Tryd.func48.trans (congrArg some (by kernel_rfl))
  f267 := Tryd.func63.trans (congrArg some (by kernel_rfl))
  f314 := Tryd.func76.trans (congrArg some (by kernel_rfl))
  t3 := Tryd.underlying3
  a3 := Tryd.isAgg3
  z3 := Tryd.sizeOf3
  v3 := Tryd.zeroValue3
  t4 := Tryd.underlying4
  a4 := Tryd.isAgg4
  z4 := Tryd.sizeOf4
  v4 := Tryd.zeroValue4
  t5 := Tryd.underlying5
  a5 := Tryd.isAgg5
  z5 := Tryd.sizeOf5
  v5 := Tryd.zeroValue5
  t9 := Tryd.underlying9
  a9 := Tryd.isAgg9
  z9 := Tryd.sizeOf9
  v9 := Tryd.zeroValue9
  t46 := Tryd.underlying103
  a46 := Tryd.isAgg103
  z46 := Tryd.sizeOf103
  v46 := Tryd.zeroValue103
  t51 := Tryd.underlying121
  a51 := Tryd.isAgg121
  z51 := Tryd.sizeOf121
  v51 := Tryd.zeroValue121
  t146 := Tryd.underlying122
  a146 := Tryd.isAgg122
  z146 := Tryd.sizeOf122
  v146 := Tryd.zeroValue122
  g1 := by kernel_rfl }
open Go.RowKit Go.Lib in
theorem Tryd.stringslite_Index_one (s : ByteArray) (c : UInt8) (w : World) :
    Calls Tryd.prog 52 #[.string s, .string ⟨#[c]⟩] w fun e w' => e = .returned (.int .i64 (Lib.indexByte s.data.toList c)) ∧ w' = w := Any.stringslite_Index_one Tryd.lays219 s c w
open Go.RowKit Go.Lib in
theorem Tryd.stringslite_Index (s sub : ByteArray) (m : Int) (w : World) (hs : s.size < 4294967281) (hm : w.cell? ⟨0, 0, none⟩ = some (.int .i64 m)) :
    Calls Tryd.prog 52 #[.string s, .string sub] w fun e w' => e = .returned (.int .i64 (Lib.index s.data.toList sub.data.toList)) ∧ w' = w := Any.stringslite_Index Tryd.lays219 s sub m w hs hm
def Tryd.lays144_ren : Go.Shelf.Ren := ⟨fun | 144 => 53 | 143 => 42 | 219 => 52 | 217 => 39 | 225 => 61 | 224 => 62 | 267 => 63 | 266 => 48 | 314 => 76 | n => n, fun | 9 => 9 | 4 => 4 | 3 => 3 | 5 => 5 | 46 => 103 | 146 => 122 | 51 => 121 | n => n, fun | 1 => 0 | n => n⟩
theorem Tryd.lays144 : Go.Proofs.Lays.n144 Tryd.prog Tryd.lays144_ren := {
  mixed := by kernel_rfl
  f143 := Tryd.func42.trans (congrArg some (by kernel_rfl))
  f144 := Tryd.func53.trans (congrArg some (by kernel_rfl))
  f217 := Tryd.func39.trans (congrArg some (by kernel_rfl))
  f219 := Tryd.func52.trans (congrArg some (by kernel_rfl))
  f224 := Tryd.func62.trans (congrArg some (by kernel_rfl))
  f225 := Tryd.func61.trans (congrArg some (by kernel_rfl))
  f266 := Tryd.func48.trans (congrArg some (by kernel_rfl))
  f267 := Tryd.func63.trans (congrArg some (by kernel_rfl))
  f314 := Tryd.func76.trans (congrArg some (by kernel_rfl))
  t3 := Tryd.underlying3
  a3 := Tryd.isAgg3
  z3 := Tryd.sizeOf3
  v3 := Tryd.zeroValue3
  t4 := Tryd.underlying4
  a4 := Tryd.isAgg4
  z4 := Tryd.sizeOf4
  v4 := Tryd.zeroValue4
  t5 := Tryd.underlying5
  a5 := Tryd.isAgg5
  z5 := Tryd.sizeOf5
  v5 := Tryd.zeroValue5
  t9 := Tryd.underlying9
  a9 := Tryd.isAgg9
  z9 := Tryd.sizeOf9
  v9 := Tryd.zeroValue9
  t46 := Tryd.underlying103
  a46 := Tryd.isAgg103
  z46 := Tryd.sizeOf103
  v46 := Tryd.zeroValue103
  t51 := Tryd.underlying121
  a51 := Tryd.isAgg121
  z51 := Tryd.sizeOf121
  v51 := Tryd.zeroValue121
  t146 := Tryd.underlying122
  a146 := Tryd.isAgg122
  z146 := Tryd.sizeOf122
  v146 := Tryd.zeroValue122
  g1 := by kernel_rfl }
open Go.RowKit Go.Lib in
theorem Tryd.strings_Contains_one (s : ByteArray) (c : UInt8) (w : World) :
    Calls Tryd.prog 53 #[.string s, .string ⟨#[c]⟩] w fun e w' => e = .returned (.bool (decide (0 ≤ Lib.indexByte s.data.toList c))) ∧ w' = w := Any.strings_Contains_one Tryd.lays144 s c w
open Go.RowKit Go.Lib in
theorem Tryd.strings_Contains (s sub : ByteArray) (m : Int) (w : World) (hs : s.size < 4294967281) (hm : w.cell? ⟨0, 0, none⟩ = some (.int .i64 m)) :
    Calls Tryd.prog 53 #[.string s, .string sub] w fun e w' => e = .returned (.bool (Lib.contains s.data.toList sub.data.toList)) ∧ w' = w := Any.strings_Contains Tryd.lays144 s sub m w hs hm
def Tryd.lays145_ren : Go.Shelf.Ren := ⟨fun | 145 => 26 | 220 => 43 | 219 => 52 | 217 => 39 | 225 => 61 | 224 => 62 | 267 => 63 | 266 => 48 | 314 => 76 | n => n, fun | 9 => 9 | 4 => 4 | 59 => 65 | 3 => 3 | 5 => 5 | 46 => 103 | 146 => 122 | 51 => 121 | n => n, fun | 1 => 0 | n => n⟩
theorem Tryd.lays145 : Go.Proofs.Lays.n145 Tryd.prog Tryd.lays145_ren := {
  mixed := by kernel_rfl
  f145 := Tryd.func26.trans (congrArg some (by kernel_rfl))
  f217 := Tryd.func39.trans (congrArg some (by kernel_rfl))
  f219 := Tryd.func52.trans (congrArg some (by kernel_rfl))
  f220 := Tryd.func43.trans (congrArg some (by kernel_rfl))
  f224 := Tryd.func62.trans (congrArg some (by kernel_rfl))
  f225 := Tryd.func61.trans (congrArg some (by kernel_rfl))
  f266 := Tryd.func48.trans (congrArg some (by kernel_rfl))
  f267 := Tryd.func63.trans (congrArg some (by kernel_rfl))
  f314 := Tryd.func76.trans (congrArg some (by kernel_rfl))
  t3 := Tryd.underlying3
  a3 := Tryd.isAgg3
  z3 := Tryd.sizeOf3
  v3 := Tryd.zeroValue3
  t4 := Tryd.underlying4
  a4 := Tryd.isAgg4
  z4 := Tryd.sizeOf4
  v4 := Tryd.zeroValue4
  t5 := Tryd.underlying5
  a5 := Tryd.isAgg5
  z5 := Tryd.sizeOf5
  v5 := Tryd.zeroValue5
  t9 := Tryd.underlying9
  a9 := Tryd.isAgg9
  z9 := Tryd.sizeOf9
  v9 := Tryd.zeroValue9
  t46 := Tryd.underlying103
  a46 := Tryd.isAgg103
  z46 := Tryd.sizeOf103
  v46 := Tryd.zeroValue103
  t51 := Tryd.underlying121
  a51 := Tryd.isAgg121
  z51 := Tryd.sizeOf121
  v51 := Tryd.zeroValue121
  t59 := Tryd.underlying65
  a59 := Tryd.isAgg65
  z59 := Tryd.sizeOf65
  v59 := Tryd.zeroValue65
  t146 := Tryd.underlying122
  a146 := Tryd.isAgg122
  z146 := Tryd.sizeOf122
  v146 := Tryd.zeroValue122
  g1 := by kernel_rfl }
open Go.RowKit Go.Lib in
theorem Tryd.strings_Cut (s sep : ByteArray) (m : Int) (w : World) (hs : s.size < 4294967281) (hm : w.cell? ⟨0, 0, none⟩ = some (.int .i64 m)) :
    Calls Tryd.prog 26 #[.string s, .string sep] w fun e w' => e = .returned (.tuple #[.string ⟨(Lib.cut s.data.toList sep.data.toList).1.toArray⟩, .string ⟨(Lib.cut s.data.toList sep.data.toList).2.1.toArray⟩, .bool (Lib.cut s.data.toList sep.data.toList).2.2]) ∧ ∃ n, w' = w.drewN n := Any.strings_Cut Tryd.lays145 s sep m w hs hm
def Tryd.lays206_ren : Go.Shelf.Ren := ⟨fun | 206 => 85 | n => n, fun | 9 => 9 | 4 => 4 | 3 => 3 | n => n, fun | n => n⟩
theorem Tryd.lays206 : Go.Proofs.Lays.n206 Tryd.prog Tryd.lays206_ren := {
  mixed := by kernel_rfl
  f206 := Tryd.func85.trans (congrArg some (by kernel_rfl))
  t3 := Tryd.underlying3
  a3 := Tryd.isAgg3
  z3 := Tryd.sizeOf3
  v3 := Tryd.zeroValue3
  t4 := Tryd.underlying4
  a4 := Tryd.isAgg4
  z4 := Tryd.sizeOf4
  v4 := Tryd.zeroValue4
  t9 := Tryd.underlying9
  a9 := Tryd.isAgg9
  z9 := Tryd.sizeOf9
  v9 := Tryd.zeroValue9 }
open Go.RowKit Go.Lib in
theorem Tryd.stringslite_HasPrefix (s p : ByteArray) (w : World) :
    Calls Tryd.prog 85 #[.string s, .string p] w fun e w' => e = .returned (.bool (Lib.hasPrefix s.data.toList p.data.toList)) ∧ w' = w := Any.stringslite_HasPrefix Tryd.lays206 s p w
def Tryd.lays99_ren : Go.Shelf.Ren := ⟨fun | 99 => 80 | 206 => 85 | n => n, fun | 9 => 9 | 4 => 4 | 3 => 3 | n => n, fun | n => n⟩
theorem Tryd.lays99 : Go.Proofs.Lays.n99 Tryd.prog Tryd.lays99_ren := {
  mixed := by kernel_rfl
  f99 := Tryd.func80.trans (congrArg some (by kernel_rfl))
  f206 := Tryd.func85.trans (congrArg some (by kernel_rfl))
  t3 := Tryd.underlying3
  a3 := Tryd.isAgg3
  z3 := Tryd.sizeOf3
  v3 := Tryd.zeroValue3
  t4 := Tryd.underlying4
  a4 := Tryd.isAgg4
  z4 := Tryd.sizeOf4
  v4 := Tryd.zeroValue4
  t9 := Tryd.underlying9
  a9 := Tryd.isAgg9
  z9 := Tryd.sizeOf9
  v9 := Tryd.zeroValue9 }
open Go.RowKit Go.Lib in
theorem Tryd.strings_HasPrefix (s p : ByteArray) (w : World) :
    Calls Tryd.prog 80 #[.string s, .string p] w fun e w' => e = .returned (.bool (Lib.hasPrefix s.data.toList p.data.toList)) ∧ w' = w := Any.strings_HasPrefix Tryd.lays99 s p w
def Tryd.lays146_ren : Go.Shelf.Ren := ⟨fun | 146 => 15 | 221 => 24 | 268 => 40 | 138 => 41 | 143 => 42 | 195 => 49 | 197 => 50 | 218 => 51 | 219 => 52 | 260 => 60 | 217 => 39 | 225 => 61 | 224 => 62 | 267 => 63 | 266 => 48 | 314 => 76 | n => n, fun | 9 => 9 | 31 => 33 | 3 => 3 | 4 => 4 | 0 => 0 | 105 => 92 | 21 => 21 | 5 => 5 | 46 => 103 | 119 => 117 | 139 => 120 | 138 => 119 | 146 => 122 | 51 => 121 | n => n, fun | 1 => 0 | 3 => 1 | 4 => 2 | n => n⟩
theorem Tryd.lays146 : Go.Proofs.Lays.n146 Tryd.prog Tryd.lays146_ren := {
  mixed := by kernel_rfl
  f138 := Tryd.func41.trans (congrArg some (by kernel_rfl))
  f143 := Tryd.func42.trans (congrArg some (by kernel_rfl))
  f146 := Tryd.func15.trans (congrArg some (by kernel_rfl))
  f195 := Tryd.func49.trans (congrArg some (by kernel_rfl))
  f197 := Tryd.func50.trans (congrArg some (by kernel_rfl))
  f217 := Tryd.func39.trans (congrArg some (by kernel_rfl))
  f218 := Tryd.func51.trans (congrArg some (by kernel_rfl))
  f219 := Tryd.func52.trans (congrArg some (by kernel_rfl))
  f221 := Tryd.func24.trans (congrArg some (by kernel_rfl))
  f224 := Tryd.func62.trans (congrArg some (by kernel_rfl))
  f225 := Tryd.func61.trans (congrArg some (by kernel_rfl))
  f260 := Tryd.func60.trans (congrArg some (by kernel_rfl))
  f266 := Tryd.func48.trans (congrArg some (by kernel_rfl))
  f267 := Tryd.func63.trans (congrArg some (by kernel_rfl))
  f268 := Tryd.func40.trans (congrArg some (by kernel_rfl))
  f314 := Tryd.func76.trans (congrArg some (by kernel_rfl))
  t0 := Tryd.underlying0
  a0 := Tryd.isAgg0
  z0 := Tryd.sizeOf0
  v0 := Tryd.zeroValue0
  t3 := Tryd.underlying3
  a3 := Tryd.isAgg3
  z3 := Tryd.sizeOf3
  v3 := Tryd.zeroValue3
  t4 := Tryd.underlying4
  a4 := Tryd.isAgg4
  z4 := Tryd.sizeOf4
  v4 := Tryd.zeroValue4
  t5 := Tryd.underlying5
  a5 := Tryd.isAgg5
  z5 := Tryd.sizeOf5
  v5 := Tryd.zeroValue5
  t9 := Tryd.underlying9
  a9 := Tryd.isAgg9
  z9 := Tryd.sizeOf9
  v9 := Tryd.zeroValue9
  t21 := Tryd.underlying21
  a21 := Tryd.isAgg21
  z21 := Tryd.sizeOf21
  v21 := Tryd.zeroValue21
  t31 := Tryd.underlying33
  a31 := Tryd.isAgg33
  z31 := Tryd.sizeOf33
  v31 := Tryd.zeroValue33
  t46 := Tryd.underlying103
  a46 := Tryd.isAgg103
  z46 := Tryd.sizeOf103
  v46 := Tryd.zeroValue103
  t51 := Tryd.underlying121
  a51 := Tryd.isAgg121
  z51 := Tryd.sizeOf121
  v51 := Tryd.zeroValue121
  t105 := Tryd.underlying92
  a105 := Tryd.isAgg92
  z105 := Tryd.sizeOf92
  v105 := Tryd.zeroValue92
  t119 := Tryd.underlying117
  a119 := Tryd.isAgg117
  z119 := Tryd.sizeOf117
  t138 := Tryd.underlying119
  a138 := Tryd.isAgg119
  z138 := Tryd.sizeOf119
  v138 := Tryd.zeroValue119
  t139 := Tryd.underlying120
  a139 := Tryd.isAgg120
  z139 := Tryd.sizeOf120
  v139 := Tryd.zeroValue120
  t146 := Tryd.underlying122
  a146 := Tryd.isAgg122
  z146 := Tryd.sizeOf122
  v146 := Tryd.zeroValue122
  g1 := by kernel_rfl
  g3 := by kernel_rfl
  g4 := by kernel_rfl }
open Go.RowKit Go.Lib in
theorem Tryd.strings_Split (s sep : ByteArray) (m : Int) (w : World) (hs : s.size < 4294967281) (hm : w.cell? ⟨0, 0, none⟩ = some (.int .i64 m)) (h1 : 1 ≤ sep.size) :
    Calls Tryd.prog 15 #[.string s, .string sep] w fun e w' =>
      e = .returned (.slice (some ⟨w.heap.size, 0, none⟩) (Lib.countB s sep + 1) (Lib.countB s sep + 1)) ∧ w' = w.alloc (.cells ((Lib.splitB sep 0 (Lib.countB s sep) s).map Value.string).toArray 9) := Any.strings_Split Tryd.lays146 (by kernel_rfl) s sep m w hs hm h1
end Go.Proofs
