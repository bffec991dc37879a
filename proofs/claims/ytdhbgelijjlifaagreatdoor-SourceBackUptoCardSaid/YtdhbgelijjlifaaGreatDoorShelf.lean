/- The shelf contracts of this seat that are used, in plain declarations, as the kit tool lays them. -/
import Derived.Shelf.Strings.Builder1
import Derived.Shelf.Strings.Builder2
import Derived.Shelf.Strings.OnBuilder
import Derived.Shelf.Small.Strs
import Derived.Shelf.Small.Wraps
import Derived.Shelf.Strings.BuilderF
import Derived.Shelf.Strings.BuilderK
import Derived.Shelf.Strings.Builder2Cap
import Derived.Shelf.Strconv.Itoa0
import Derived.Shelf.Strconv.Itoa1
import Derived.Shelf.LaysM
import Derived.Shelf.Strconv.Itoa2
import Derived.Shelf.Strconv.Itoa3
import Derived.Shelf.Strconv.Clone
import Derived.Shelf.Strconv.SyntaxError
import Derived.Shelf.LaysC
import Derived.Shelf.Strconv.ToError
import Derived.Shelf.Strconv.Lower
import Derived.Shelf.Strconv.ParseUint10
import Derived.Shelf.Strconv.ParseUint10Empty
import Derived.Shelf.Strconv.ParseUint10Any
import Derived.Shelf.Strconv.RangeError
import Derived.Shelf.Strconv.ToErrorRange
import Derived.Shelf.Strconv.ParseUintEmpty
import Derived.Shelf.Strconv.ParseUint10b64
import Derived.Shelf.Strconv.ParseUint10b32
import Derived.Shelf.Strconv.ParseUint10b16
import Derived.Shelf.Strconv.ParseUint10b8
import Derived.Shelf.Strconv.ParseUint10At
import Derived.Ground.MpProg
import Derived.Shelf.Pu.ParseUintPublic10
import Derived.Shelf.Pu.ErrVarParseUint
import Derived.Shelf.Strings.Search1
import Derived.Shelf.Strings.Search2
import Derived.Shelf.Strings.Search3
import Derived.Shelf.Strings.Cut
import Derived.Shelf.Strings.Count
import Derived.Shelf.Strings.Shaped
import Derived.Shelf.Strings.Prefix
import Derived.Shelf.Strings.Split
import Derived.Shelf.Strings.SplitShaped
import Derived.Shelf.Unicode.DecodeSlow
import Derived.Shelf.Strings.BuilderCap
import Derived.Test.YtdhbgelijjlifaaGreatDoorProg
namespace Go.Proofs
open Go.Shelf
def Tryz.lays137_ren : Go.Shelf.Ren := ⟨fun | 137 => 57 | 217 => 94 | 266 => 115 | n => n, fun | 9 => 9 | 5 => 5 | 3 => 3 | n => n, fun | n => n⟩
theorem Tryz.lays137 : Go.Proofs.Lays.n137 Tryz.prog Tryz.lays137_ren := {
 mixed := by kernel_rfl
 f137 := Tryz.func57.trans (congrArg some (by kernel_rfl))
 f217 := Tryz.func94.trans (congrArg some (by kernel_rfl))
 f266 := Tryz.func115.trans (congrArg some (by kernel_rfl))
 t3 := Tryz.underlying3
 a3 := Tryz.isAgg3
 z3 := Tryz.sizeOf3
 v3 := Tryz.zeroValue3
 t5 := Tryz.underlying5
 a5 := Tryz.isAgg5
 z5 := Tryz.sizeOf5
 v5 := Tryz.zeroValue5
 t9 := Tryz.underlying9
 a9 := Tryz.isAgg9
 z9 := Tryz.sizeOf9
 v9 := Tryz.zeroValue9 }
open Go.RowKit in
theorem Tryz.strings_IndexByte (s : ByteArray) (c : Int) (w : World) :
 Calls Tryz.prog 57 #[.string s, .int .u8 c] w fun e w' => e = .returned (.int .i64 (Lib.indexByte s.data.toList c.toNat.toUInt8)) ∧ w' = w := Any.strings_IndexByte Tryz.lays137 s c w
def Tryz.lays103_ren : Go.Shelf.Ren := ⟨fun | 103 => 148 | 210 => 168 | 206 => 172 | n => n, fun | 9 => 9 | 4 => 4 | 24 => 175 | 3 => 3 | n => n, fun | n => n⟩
theorem Tryz.lays103 : Go.Proofs.Lays.n103 Tryz.prog Tryz.lays103_ren := {
 mixed := by kernel_rfl
 f103 := Tryz.func148.trans (congrArg some (by kernel_rfl))
 f206 := Tryz.func172.trans (congrArg some (by kernel_rfl))
 f210 := Tryz.func168.trans (congrArg some (by kernel_rfl))
 t3 := Tryz.underlying3
 a3 := Tryz.isAgg3
 z3 := Tryz.sizeOf3
 v3 := Tryz.zeroValue3
 t4 := Tryz.underlying4
 a4 := Tryz.isAgg4
 z4 := Tryz.sizeOf4
 v4 := Tryz.zeroValue4
 t9 := Tryz.underlying9
 a9 := Tryz.isAgg9
 z9 := Tryz.sizeOf9
 v9 := Tryz.zeroValue9
 t24 := Tryz.underlying175
 a24 := Tryz.isAgg175
 z24 := Tryz.sizeOf175
 v24 := Tryz.zeroValue175 }
open Go.RowKit in
theorem Tryz.strings_CutPrefix (s p : ByteArray) (w : World) :
 Calls Tryz.prog 148 #[.string s, .string p] w fun e w' => e = .returned (.tuple #[.string ⟨(Lib.trimPrefix s.data.toList p.data.toList).toArray⟩, .bool (Lib.hasPrefix s.data.toList p.data.toList)]) ∧ w' = w := Any.strings_CutPrefix Tryz.lays103 s p w
def Tryz.laysPu14_ren : Go.Shelf.Ren := ⟨fun | 14 => 110 | 16 => 122 | 17 => 123 | 19 => 141 | 20 => 142 | 21 => 143 | 22 => 144 | 23 => 145 | 24 => 146 | 25 => 164 | 27 => 60 | 26 => 165 | 28 => 99 | 29 => 120 | 30 => 136 | 31 => 137 | 32 => 138 | 33 => 139 | 35 => 160 | 34 => 159 | 36 => 161 | 37 => 162 | 38 => 163 | 39 => 170 | 40 => 171 | n => n, fun | 9 => 9 | 3 => 3 | 22 => 137 | 24 => 75 | 25 => 138 | 4 => 4 | 34 => 169 | 5 => 5 | 36 => 162 | 37 => 71 | 0 => 0 | 39 => 171 | 21 => 21 | 44 => 193 | 47 => 107 | 50 => 198 | 48 => 196 | 2 => 2 | 52 => 163 | 55 => 166 | 59 => 189 | 60 => 185 | 20 => 20 | 61 => 190 | 65 => 199 | 66 => 200 | 67 => 82 | n => n, fun | 0 => 4 | 1 => 5 | 2 => 3 | 3 => 6 | 4 => 7 | n => n⟩
theorem Tryz.laysPu14 : Go.Proofs.LaysPu.n14 Tryz.prog Tryz.laysPu14_ren := {
 mixed := by kernel_rfl
 f14 := Tryz.func110.trans (congrArg some (by kernel_rfl))
 f16 := Tryz.func122.trans (congrArg some (by kernel_rfl))
 f17 := Tryz.func123.trans (congrArg some (by kernel_rfl))
 f19 := Tryz.func141.trans (congrArg some (by kernel_rfl))
 f20 := Tryz.func142.trans (congrArg some (by kernel_rfl))
 f21 := Tryz.func143.trans (congrArg some (by kernel_rfl))
 f22 := Tryz.func144.trans (congrArg some (by kernel_rfl))
 f23 := Tryz.func145.trans (congrArg some (by kernel_rfl))
 f24 := Tryz.func146.trans (congrArg some (by kernel_rfl))
 f25 := Tryz.func164.trans (congrArg some (by kernel_rfl))
 f26 := Tryz.func165.trans (congrArg some (by kernel_rfl))
 f27 := Tryz.func60.trans (congrArg some (by kernel_rfl))
 f28 := Tryz.func99.trans (congrArg some (by kernel_rfl))
 f29 := Tryz.func120.trans (congrArg some (by kernel_rfl))
 f30 := Tryz.func136.trans (congrArg some (by kernel_rfl))
 f31 := Tryz.func137.trans (congrArg some (by kernel_rfl))
 f32 := Tryz.func138.trans (congrArg some (by kernel_rfl))
 f33 := Tryz.func139.trans (congrArg some (by kernel_rfl))
 f34 := Tryz.func159.trans (congrArg some (by kernel_rfl))
 f35 := Tryz.func160.trans (congrArg some (by kernel_rfl))
 f36 := Tryz.func161.trans (congrArg some (by kernel_rfl))
 f37 := Tryz.func162.trans (congrArg some (by kernel_rfl))
 f38 := Tryz.func163.trans (congrArg some (by kernel_rfl))
 f39 := Tryz.func170.trans (congrArg some (by kernel_rfl))
 f40 := Tryz.func171.trans (congrArg some (by kernel_rfl))
 t0 := Tryz.underlying0
 a0 := Tryz.isAgg0
 z0 := Tryz.sizeOf0
 v0 := Tryz.zeroValue0
 i0 := by kernel_rfl
 t2 := Tryz.underlying2
 a2 := Tryz.isAgg2
 z2 := Tryz.sizeOf2
 v2 := Tryz.zeroValue2
 i2 := by kernel_rfl
 t3 := Tryz.underlying3
 a3 := Tryz.isAgg3
 z3 := Tryz.sizeOf3
 v3 := Tryz.zeroValue3
 i3 := by kernel_rfl
 t4 := Tryz.underlying4
 a4 := Tryz.isAgg4
 z4 := Tryz.sizeOf4
 v4 := Tryz.zeroValue4
 i4 := by kernel_rfl
 t5 := Tryz.underlying5
 a5 := Tryz.isAgg5
 z5 := Tryz.sizeOf5
 v5 := Tryz.zeroValue5
 i5 := by kernel_rfl
 t9 := Tryz.underlying9
 a9 := Tryz.isAgg9
 z9 := Tryz.sizeOf9
 v9 := Tryz.zeroValue9
 i9 := by kernel_rfl
 t20 := Tryz.underlying20
 a20 := Tryz.isAgg20
 z20 := Tryz.sizeOf20
 v20 := Tryz.zeroValue20
 i20 := by kernel_rfl
 t21 := Tryz.underlying21
 a21 := Tryz.isAgg21
 z21 := Tryz.sizeOf21
 v21 := Tryz.zeroValue21
 i21 := by kernel_rfl
 t22 := Tryz.underlying137
 a22 := Tryz.isAgg137
 z22 := Tryz.sizeOf137
 v22 := Tryz.zeroValue137
 i22 := by kernel_rfl
 t24 := Tryz.underlying75
 a24 := Tryz.isAgg75
 z24 := Tryz.sizeOf75
 v24 := Tryz.zeroValue75
 i24 := by kernel_rfl
 t25 := Tryz.underlying138
 a25 := Tryz.isAgg138
 z25 := Tryz.sizeOf138
 v25 := Tryz.zeroValue138
 i25 := by kernel_rfl
 t34 := Tryz.underlying169
 a34 := Tryz.isAgg169
 z34 := Tryz.sizeOf169
 v34 := Tryz.zeroValue169
 i34 := by kernel_rfl
 c34 := by kernel_rfl
 t36 := Tryz.underlying162
 a36 := Tryz.isAgg162
 z36 := Tryz.sizeOf162
 v36 := Tryz.zeroValue162
 i36 := by kernel_rfl
 t37 := Tryz.underlying71
 a37 := Tryz.isAgg71
 z37 := Tryz.sizeOf71
 v37 := Tryz.zeroValue71
 i37 := by kernel_rfl
 t39 := Tryz.underlying171
 a39 := Tryz.isAgg171
 z39 := Tryz.sizeOf171
 v39 := Tryz.zeroValue171
 i39 := by kernel_rfl
 t44 := Tryz.underlying193
 a44 := Tryz.isAgg193
 z44 := Tryz.sizeOf193
 v44 := Tryz.zeroValue193
 i44 := by kernel_rfl
 t47 := Tryz.underlying107
 a47 := Tryz.isAgg107
 z47 := Tryz.sizeOf107
 v47 := Tryz.zeroValue107
 i47 := by kernel_rfl
 t48 := Tryz.underlying196
 a48 := Tryz.isAgg196
 z48 := Tryz.sizeOf196
 v48 := Tryz.zeroValue196
 i48 := by kernel_rfl
 t50 := Tryz.underlying198
 a50 := Tryz.isAgg198
 z50 := Tryz.sizeOf198
 v50 := Tryz.zeroValue198
 i50 := by kernel_rfl
 t52 := Tryz.underlying163
 a52 := Tryz.isAgg163
 z52 := Tryz.sizeOf163
 v52 := Tryz.zeroValue163
 i52 := by kernel_rfl
 t55 := Tryz.underlying166
 a55 := Tryz.isAgg166
 z55 := Tryz.sizeOf166
 v55 := Tryz.zeroValue166
 i55 := by kernel_rfl
 t59 := Tryz.underlying189
 a59 := Tryz.isAgg189
 z59 := Tryz.sizeOf189
 v59 := Tryz.zeroValue189
 i59 := by kernel_rfl
 t60 := Tryz.underlying185
 a60 := Tryz.isAgg185
 z60 := Tryz.sizeOf185
 v60 := Tryz.zeroValue185
 i60 := by kernel_rfl
 t61 := Tryz.underlying190
 a61 := Tryz.isAgg190
 z61 := Tryz.sizeOf190
 t65 := Tryz.underlying199
 a65 := Tryz.isAgg199
 z65 := Tryz.sizeOf199
 v65 := Tryz.zeroValue199
 i65 := by kernel_rfl
 t66 := Tryz.underlying200
 a66 := Tryz.isAgg200
 z66 := Tryz.sizeOf200
 v66 := Tryz.zeroValue200
 i66 := by kernel_rfl
 t67 := Tryz.underlying82
 a67 := Tryz.isAgg82
 z67 := Tryz.sizeOf82
 v67 := Tryz.zeroValue82
 i67 := by kernel_rfl
 g0 := by kernel_rfl
 m0 := by kernel_rfl
 g1 := by kernel_rfl
 m1 := by kernel_rfl
 g2 := by kernel_rfl
 m2 := by kernel_rfl
 g3 := by kernel_rfl
 m3 := by kernel_rfl
 g4 := by kernel_rfl
 m4 := by kernel_rfl }
open Go.RowKit in
theorem Tryz.strconv_ParseUint_10_at16_ok (s : ByteArray) (hmax : s.size ≤ 9223372036854775806) (u : Nat) (h : Lib.parseUintB 16 s.data.toList = .ok u) (w : World) :
 Calls Tryz.prog 110 #[.string s, .int .i64 10, .int .i64 16] w fun e w' => e = .returned (.tuple #[.int .u64 u, .nilIface]) ∧ (w' = w ∨ w' = Lib.bytesWorld w 5 s) := Any.strconv_ParseUint_10_at16_ok Tryz.laysPu14 s hmax u h w
open Go.RowKit in
theorem Tryz.strconv_ParseUint_10_at16_syntax (s : ByteArray) (hlim : s.size ≤ 281474976710656) (h : Lib.parseUintB 16 s.data.toList = Lib.NumEnd.syntax) (ev : Value) (w : World) (hv : w.cell? ⟨4, 0, none⟩ = some ev) (hev : ev = .nilIface ∨ ∃ te pe, ev = .iface te pe) :
 Calls Tryz.prog 110 #[.string s, .int .i64 10, .int .i64 16] w fun e w' => ∃ N, e = .returned (.tuple #[.int .u64 0, .iface 171 (.pointer (some ⟨N, 0, none⟩))]) ∧ w.heap.size ≤ N ∧ w'.heap[N]? = some (.cells #[.string ⟨#[80, 97, 114, 115, 101, 85, 105, 110, 116]⟩, .string s, ev] 193 (0, 0)) ∧ Below w.heap.size w w' := Any.strconv_ParseUint_10_at16_syntax Tryz.laysPu14 s hlim h ev w hv hev
open Go.RowKit in
theorem Tryz.strconv_ParseUint_10_at16_range (s : ByteArray) (hlim : s.size ≤ 281474976710656) (h : Lib.parseUintB 16 s.data.toList = .range) (ev : Value) (w : World) (hv : w.cell? ⟨5, 0, none⟩ = some ev) (hev : ev = .nilIface ∨ ∃ te pe, ev = .iface te pe) :
 Calls Tryz.prog 110 #[.string s, .int .i64 10, .int .i64 16] w fun e w' => ∃ N, e = .returned (.tuple #[.int .u64 65535, .iface 171 (.pointer (some ⟨N, 0, none⟩))]) ∧ w.heap.size ≤ N ∧ w'.heap[N]? = some (.cells #[.string ⟨#[80, 97, 114, 115, 101, 85, 105, 110, 116]⟩, .string s, ev] 193 (0, 0)) ∧ Below w.heap.size w w' := Any.strconv_ParseUint_10_at16_range Tryz.laysPu14 s hlim h ev w hv hev
def Tryz.lays219_ren : Go.Shelf.Ren := ⟨fun | 219 => 119 | 217 => 94 | 225 => 133 | 224 => 134 | 267 => 135 | 266 => 115 | 314 => 158 | n => n, fun | 9 => 9 | 3 => 3 | 4 => 4 | 5 => 5 | 46 => 162 | 146 => 186 | 51 => 185 | n => n, fun | 1 => 0 | n => n⟩
theorem Tryz.lays219 : Go.Proofs.Lays.n219 Tryz.prog Tryz.lays219_ren := {
 mixed := by kernel_rfl
 f217 := Tryz.func94.trans (congrArg some (by kernel_rfl))
 f219 := Tryz.func119.trans (congrArg some (by kernel_rfl))
 f224 := Tryz.func134.trans (congrArg some (by kernel_rfl))
 f225 := Tryz.func133.trans (congrArg some (by kernel_rfl))
 f266 := Tryz.func115.trans (congrArg some (by kernel_rfl))
 f267 := Tryz.func135.trans (congrArg some (by kernel_rfl))
 f314 := Tryz.func158.trans (congrArg some (by kernel_rfl))
 t3 := Tryz.underlying3
 a3 := Tryz.isAgg3
 z3 := Tryz.sizeOf3
 v3 := Tryz.zeroValue3
 t4 := Tryz.underlying4
 a4 := Tryz.isAgg4
 z4 := Tryz.sizeOf4
 v4 := Tryz.zeroValue4
 t5 := Tryz.underlying5
 a5 := Tryz.isAgg5
 z5 := Tryz.sizeOf5
 v5 := Tryz.zeroValue5
 t9 := Tryz.underlying9
 a9 := Tryz.isAgg9
 z9 := Tryz.sizeOf9
 v9 := Tryz.zeroValue9
 t46 := Tryz.underlying162
 a46 := Tryz.isAgg162
 z46 := Tryz.sizeOf162
 v46 := Tryz.zeroValue162
 t51 := Tryz.underlying185
 a51 := Tryz.isAgg185
 z51 := Tryz.sizeOf185
 v51 := Tryz.zeroValue185
 t146 := Tryz.underlying186
 a146 := Tryz.isAgg186
 z146 := Tryz.sizeOf186
 v146 := Tryz.zeroValue186
 g1 := by kernel_rfl }
open Go.RowKit Go.Lib in
theorem Tryz.stringslite_Index_one (s : ByteArray) (c : UInt8) (w : World) :
 Calls Tryz.prog 119 #[.string s, .string ⟨#[c]⟩] w fun e w' => e = .returned (.int .i64 (Lib.indexByte s.data.toList c)) ∧ w' = w := Any.stringslite_Index_one Tryz.lays219 s c w
def Tryz.lays144_ren : Go.Shelf.Ren := ⟨fun | 144 => 108 | 143 => 97 | 219 => 119 | 217 => 94 | 225 => 133 | 224 => 134 | 267 => 135 | 266 => 115 | 314 => 158 | n => n, fun | 9 => 9 | 4 => 4 | 3 => 3 | 5 => 5 | 46 => 162 | 146 => 186 | 51 => 185 | n => n, fun | 1 => 0 | n => n⟩
theorem Tryz.lays144 : Go.Proofs.Lays.n144 Tryz.prog Tryz.lays144_ren := {
 mixed := by kernel_rfl
 f143 := Tryz.func97.trans (congrArg some (by kernel_rfl))
 f144 := Tryz.func108.trans (congrArg some (by kernel_rfl))
 f217 := Tryz.func94.trans (congrArg some (by kernel_rfl))
 f219 := Tryz.func119.trans (congrArg some (by kernel_rfl))
 f224 := Tryz.func134.trans (congrArg some (by kernel_rfl))
 f225 := Tryz.func133.trans (congrArg some (by kernel_rfl))
 f266 := Tryz.func115.trans (congrArg some (by kernel_rfl))
 f267 := Tryz.func135.trans (congrArg some (by kernel_rfl))
 f314 := Tryz.func158.trans (congrArg some (by kernel_rfl))
 t3 := Tryz.underlying3
 a3 := Tryz.isAgg3
 z3 := Tryz.sizeOf3
 v3 := Tryz.zeroValue3
 t4 := Tryz.underlying4
 a4 := Tryz.isAgg4
 z4 := Tryz.sizeOf4
 v4 := Tryz.zeroValue4
 t5 := Tryz.underlying5
 a5 := Tryz.isAgg5
 z5 := Tryz.sizeOf5
 v5 := Tryz.zeroValue5
 t9 := Tryz.underlying9
 a9 := Tryz.isAgg9
 z9 := Tryz.sizeOf9
 v9 := Tryz.zeroValue9
 t46 := Tryz.underlying162
 a46 := Tryz.isAgg162
 z46 := Tryz.sizeOf162
 v46 := Tryz.zeroValue162
 t51 := Tryz.underlying185
 a51 := Tryz.isAgg185
 z51 := Tryz.sizeOf185
 v51 := Tryz.zeroValue185
 t146 := Tryz.underlying186
 a146 := Tryz.isAgg186
 z146 := Tryz.sizeOf186
 v146 := Tryz.zeroValue186
 g1 := by kernel_rfl }
open Go.RowKit Go.Lib in
theorem Tryz.strings_Contains_one (s : ByteArray) (c : UInt8) (w : World) :
 Calls Tryz.prog 108 #[.string s, .string ⟨#[c]⟩] w fun e w' => e = .returned (.bool (decide (0 ≤ Lib.indexByte s.data.toList c))) ∧ w' = w := Any.strings_Contains_one Tryz.lays144 s c w
def Tryz.lays145_ren : Go.Shelf.Ren := ⟨fun | 145 => 77 | 220 => 109 | 219 => 119 | 217 => 94 | 225 => 133 | 224 => 134 | 267 => 135 | 266 => 115 | 314 => 158 | n => n, fun | 9 => 9 | 4 => 4 | 59 => 112 | 3 => 3 | 5 => 5 | 46 => 162 | 146 => 186 | 51 => 185 | n => n, fun | 1 => 0 | n => n⟩
theorem Tryz.lays145 : Go.Proofs.Lays.n145 Tryz.prog Tryz.lays145_ren := {
 mixed := by kernel_rfl
 f145 := Tryz.func77.trans (congrArg some (by kernel_rfl))
 f217 := Tryz.func94.trans (congrArg some (by kernel_rfl))
 f219 := Tryz.func119.trans (congrArg some (by kernel_rfl))
 f220 := Tryz.func109.trans (congrArg some (by kernel_rfl))
 f224 := Tryz.func134.trans (congrArg some (by kernel_rfl))
 f225 := Tryz.func133.trans (congrArg some (by kernel_rfl))
 f266 := Tryz.func115.trans (congrArg some (by kernel_rfl))
 f267 := Tryz.func135.trans (congrArg some (by kernel_rfl))
 f314 := Tryz.func158.trans (congrArg some (by kernel_rfl))
 t3 := Tryz.underlying3
 a3 := Tryz.isAgg3
 z3 := Tryz.sizeOf3
 v3 := Tryz.zeroValue3
 t4 := Tryz.underlying4
 a4 := Tryz.isAgg4
 z4 := Tryz.sizeOf4
 v4 := Tryz.zeroValue4
 t5 := Tryz.underlying5
 a5 := Tryz.isAgg5
 z5 := Tryz.sizeOf5
 v5 := Tryz.zeroValue5
 t9 := Tryz.underlying9
 a9 := Tryz.isAgg9
 z9 := Tryz.sizeOf9
 v9 := Tryz.zeroValue9
 t46 := Tryz.underlying162
 a46 := Tryz.isAgg162
 z46 := Tryz.sizeOf162
 v46 := Tryz.zeroValue162
 t51 := Tryz.underlying185
 a51 := Tryz.isAgg185
 z51 := Tryz.sizeOf185
 v51 := Tryz.zeroValue185
 t59 := Tryz.underlying112
 a59 := Tryz.isAgg112
 z59 := Tryz.sizeOf112
 v59 := Tryz.zeroValue112
 t146 := Tryz.underlying186
 a146 := Tryz.isAgg186
 z146 := Tryz.sizeOf186
 v146 := Tryz.zeroValue186
 g1 := by kernel_rfl }
open Go.RowKit Go.Lib in
theorem Tryz.strings_Cut (s sep : ByteArray) (m : Int) (w : World) (hs : s.size < 4294967281) (hm : w.cell? ⟨0, 0, none⟩ = some (.int .i64 m)) :
 Calls Tryz.prog 77 #[.string s, .string sep] w fun e w' => e = .returned (.tuple #[.string ⟨(Lib.cut s.data.toList sep.data.toList).1.toArray⟩, .string ⟨(Lib.cut s.data.toList sep.data.toList).2.1.toArray⟩, .bool (Lib.cut s.data.toList sep.data.toList).2.2]) ∧ ∃ n, w' = w.drewN n := Any.strings_Cut Tryz.lays145 s sep m w hs hm
def Tryz.lays99_ren : Go.Shelf.Ren := ⟨fun | 99 => 166 | 206 => 172 | n => n, fun | 9 => 9 | 4 => 4 | 3 => 3 | n => n, fun | n => n⟩
theorem Tryz.lays99 : Go.Proofs.Lays.n99 Tryz.prog Tryz.lays99_ren := {
 mixed := by kernel_rfl
 f99 := Tryz.func166.trans (congrArg some (by kernel_rfl))
 f206 := Tryz.func172.trans (congrArg some (by kernel_rfl))
 t3 := Tryz.underlying3
 a3 := Tryz.isAgg3
 z3 := Tryz.sizeOf3
 v3 := Tryz.zeroValue3
 t4 := Tryz.underlying4
 a4 := Tryz.isAgg4
 z4 := Tryz.sizeOf4
 v4 := Tryz.zeroValue4
 t9 := Tryz.underlying9
 a9 := Tryz.isAgg9
 z9 := Tryz.sizeOf9
 v9 := Tryz.zeroValue9 }
open Go.RowKit Go.Lib in
theorem Tryz.strings_HasPrefix (s p : ByteArray) (w : World) :
 Calls Tryz.prog 166 #[.string s, .string p] w fun e w' => e = .returned (.bool (Lib.hasPrefix s.data.toList p.data.toList)) ∧ w' = w := Any.strings_HasPrefix Tryz.lays99 s p w
def Tryz.lays146_ren : Go.Shelf.Ren := ⟨fun | 146 => 32 | 221 => 58 | 268 => 95 | 138 => 96 | 143 => 97 | 195 => 116 | 197 => 117 | 218 => 118 | 219 => 119 | 260 => 132 | 217 => 94 | 225 => 133 | 224 => 134 | 267 => 135 | 266 => 115 | 314 => 158 | n => n, fun | 9 => 9 | 31 => 35 | 3 => 3 | 4 => 4 | 0 => 0 | 105 => 148 | 21 => 21 | 5 => 5 | 46 => 162 | 119 => 181 | 139 => 184 | 138 => 183 | 146 => 186 | 51 => 185 | n => n, fun | 1 => 0 | 3 => 1 | 4 => 2 | n => n⟩
theorem Tryz.lays146 : Go.Proofs.Lays.n146 Tryz.prog Tryz.lays146_ren := {
 mixed := by kernel_rfl
 f138 := Tryz.func96.trans (congrArg some (by kernel_rfl))
 f143 := Tryz.func97.trans (congrArg some (by kernel_rfl))
 f146 := Tryz.func32.trans (congrArg some (by kernel_rfl))
 f195 := Tryz.func116.trans (congrArg some (by kernel_rfl))
 f197 := Tryz.func117.trans (congrArg some (by kernel_rfl))
 f217 := Tryz.func94.trans (congrArg some (by kernel_rfl))
 f218 := Tryz.func118.trans (congrArg some (by kernel_rfl))
 f219 := Tryz.func119.trans (congrArg some (by kernel_rfl))
 f221 := Tryz.func58.trans (congrArg some (by kernel_rfl))
 f224 := Tryz.func134.trans (congrArg some (by kernel_rfl))
 f225 := Tryz.func133.trans (congrArg some (by kernel_rfl))
 f260 := Tryz.func132.trans (congrArg some (by kernel_rfl))
 f266 := Tryz.func115.trans (congrArg some (by kernel_rfl))
 f267 := Tryz.func135.trans (congrArg some (by kernel_rfl))
 f268 := Tryz.func95.trans (congrArg some (by kernel_rfl))
 f314 := Tryz.func158.trans (congrArg some (by kernel_rfl))
 t0 := Tryz.underlying0
 a0 := Tryz.isAgg0
 z0 := Tryz.sizeOf0
 v0 := Tryz.zeroValue0
 t3 := Tryz.underlying3
 a3 := Tryz.isAgg3
 z3 := Tryz.sizeOf3
 v3 := Tryz.zeroValue3
 t4 := Tryz.underlying4
 a4 := Tryz.isAgg4
 z4 := Tryz.sizeOf4
 v4 := Tryz.zeroValue4
 t5 := Tryz.underlying5
 a5 := Tryz.isAgg5
 z5 := Tryz.sizeOf5
 v5 := Tryz.zeroValue5
 t9 := Tryz.underlying9
 a9 := Tryz.isAgg9
 z9 := Tryz.sizeOf9
 v9 := Tryz.zeroValue9
 t21 := Tryz.underlying21
 a21 := Tryz.isAgg21
 z21 := Tryz.sizeOf21
 v21 := Tryz.zeroValue21
 t31 := Tryz.underlying35
 a31 := Tryz.isAgg35
 z31 := Tryz.sizeOf35
 v31 := Tryz.zeroValue35
 t46 := Tryz.underlying162
 a46 := Tryz.isAgg162
 z46 := Tryz.sizeOf162
 v46 := Tryz.zeroValue162
 t51 := Tryz.underlying185
 a51 := Tryz.isAgg185
 z51 := Tryz.sizeOf185
 v51 := Tryz.zeroValue185
 t105 := Tryz.underlying148
 a105 := Tryz.isAgg148
 z105 := Tryz.sizeOf148
 v105 := Tryz.zeroValue148
 t119 := Tryz.underlying181
 a119 := Tryz.isAgg181
 z119 := Tryz.sizeOf181
 t138 := Tryz.underlying183
 a138 := Tryz.isAgg183
 z138 := Tryz.sizeOf183
 v138 := Tryz.zeroValue183
 t139 := Tryz.underlying184
 a139 := Tryz.isAgg184
 z139 := Tryz.sizeOf184
 v139 := Tryz.zeroValue184
 t146 := Tryz.underlying186
 a146 := Tryz.isAgg186
 z146 := Tryz.sizeOf186
 v146 := Tryz.zeroValue186
 g1 := by kernel_rfl
 g3 := by kernel_rfl
 g4 := by kernel_rfl }
open Go.RowKit Go.Lib in
theorem Tryz.strings_Split (s sep : ByteArray) (m : Int) (w : World) (hs : s.size < 4294967281) (hm : w.cell? ⟨0, 0, none⟩ = some (.int .i64 m)) (h1 : 1 ≤ sep.size) :
 Calls Tryz.prog 32 #[.string s, .string sep] w fun e w' =>
  e = .returned (.slice (some ⟨w.heap.size, 0, none⟩) (Lib.countB s sep + 1) (Lib.countB s sep + 1)) ∧ w' = w.alloc (.cells ((Lib.splitB sep 0 (Lib.countB s sep) s).map Value.string).toArray 9) := Any.strings_Split Tryz.lays146 (by kernel_rfl) s sep m w hs hm h1
end Go.Proofs
