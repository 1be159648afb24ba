/- The contracts of the library that the walks take, laid at this translation (by the kit's two tools, in plain words). -/
import Derived.Shelf.Strings.Trim
import Derived.Shelf.Small.Utf8
import Derived.Shelf.Small.Strs
import Derived.Shelf.Small.Wraps
import Derived.Shelf.Strconv.Itoa0
import Derived.Shelf.Strconv.Itoa1
import Derived.Shelf.LaysM
import Derived.Shelf.Strconv.Itoa2
import Derived.Shelf.Strconv.Itoa3
import Derived.Shelf.Strconv.Clone
import Derived.Shelf.Strconv.SyntaxError
import Derived.Shelf.LaysC
import Derived.Shelf.Strconv.ToError
import Derived.Shelf.Strconv.Lower
import Derived.Shelf.Strconv.ParseUint10
import Derived.Shelf.Strconv.ParseUint10Empty
import Derived.Shelf.Strconv.ParseUint10Any
import Derived.Shelf.Strconv.RangeError
import Derived.Shelf.Strconv.ToErrorRange
import Derived.Shelf.Strconv.ParseUintEmpty
import Derived.Shelf.Strconv.ParseUint10b64
import Derived.Shelf.Strconv.ParseUint10b32
import Derived.Shelf.Strconv.ParseUint10b16
import Derived.Shelf.Strconv.ParseUint10b8
import Derived.Shelf.Strconv.ParseUint10At
import Derived.Ground.MpProg
import Derived.Shelf.Pu.ParseUintPublic10
import Derived.Shelf.Pu.ErrVarParseUint
import Derived.Shelf.Strings.Search1
import Derived.Shelf.Strings.Search2
import Derived.Shelf.Strings.Cut
import Derived.Shelf.Strings.Shaped
import Derived.Shelf.Strings.Prefix
import Derived.Shelf.Unicode.Decode
import Derived.Shelf.Strings.Runes
import Derived.Shelf.Strings.AsciiSet
import Derived.Shelf.Unicode.DecodeSlow
import Derived.Shelf.Unicode.DecodeAny
import Derived.Shelf.Unicode.DecodeLast
import Derived.Test.YtdjpkkgcoainhaaGreatDoorProg
import Derived.Test.YtdjpkkgcoainhaaGreatDoorJ01
import Derived.Shelf.Strings.SlTrimAscii
import Derived.Lib.AppendIntMem
import Derived.Lib.ItoaMem
import Derived.Lib.Walk
import Derived.WalkKit
import Derived.BigCall
import Derived.BigGuard
import Derived.Lib.CutLaws
import Derived.Lib.IndexLaws
import Derived.Lib.IndexBytes
import Derived.Lib.AtoiErrMem
import Derived.Test.YtdjpkkgcoainhaaGreatDoorJ09
/- The contracts of the library that the walks take, laid at this translation (by the kit's two tools, in plain words). -/
namespace Go.Proofs
open Go.Shelf
def Tryz.lays160_ren : Go.Shelf.Ren := ⟨fun | 160 => 101 | 232 => 109 | 231 => 108 | 227 => 110 | 234 => 112 | 233 => 111 | 236 => 114 | 235 => 113 | 228 => 120 | 271 => 123 | 151 => 122 | 197 => 121 | 120 => 134 | 152 => 133 | 260 => 132 | 137 => 142 | 119 => 143 | 224 => 137 | 225 => 136 | 217 => 135 | 266 => 144 | n => n, fun | 9 => 9 | 4 => 4 | 3 => 3 | 5 => 5 | 117 => 162 | 116 => 161 | 0 => 0 | 124 => 165 | 21 => 21 | 105 => 168 | 46 => 174 | 119 => 185 | 139 => 188 | 138 => 187 | n => n, fun | 3 => 3 | 4 => 4 | n => n⟩
theorem Tryz.lays160 : Go.Proofs.Lays.n160 Tryz.prog Tryz.lays160_ren := {
  mixed := by kernel_rfl
  f119 := Tryz.func143.trans (congrArg some (by kernel_rfl))
  f120 := Tryz.func134.trans (congrArg some (by kernel_rfl))
  f137 := Tryz.func142.trans (congrArg some (by kernel_rfl))
  f151 := Tryz.func122.trans (congrArg some (by kernel_rfl))
  f152 := Tryz.func133.trans (congrArg some (by kernel_rfl))
  f160 := Tryz.func101.trans (congrArg some (by kernel_rfl))
  f197 := Tryz.func121.trans (congrArg some (by kernel_rfl))
  f217 := Tryz.func135.trans (congrArg some (by kernel_rfl))
  f224 := Tryz.func137.trans (congrArg some (by kernel_rfl))
  f225 := Tryz.func136.trans (congrArg some (by kernel_rfl))
  f227 := Tryz.func110.trans (congrArg some (by kernel_rfl))
  f228 := Tryz.func120.trans (congrArg some (by kernel_rfl))
  f231 := Tryz.func108.trans (congrArg some (by kernel_rfl))
  f232 := Tryz.func109.trans (congrArg some (by kernel_rfl))
  f233 := Tryz.func111.trans (congrArg some (by kernel_rfl))
  f234 := Tryz.func112.trans (congrArg some (by kernel_rfl))
  f235 := Tryz.func113.trans (congrArg some (by kernel_rfl))
  f236 := Tryz.func114.trans (congrArg some (by kernel_rfl))
  f260 := Tryz.func132.trans (congrArg some (by kernel_rfl))
  f266 := Tryz.func144.trans (congrArg some (by kernel_rfl))
  f271 := Tryz.func123.trans (congrArg some (by kernel_rfl))
  t0 := Tryz.underlying0
  a0 := Tryz.isAgg0
  z0 := Tryz.sizeOf0
  v0 := Tryz.zeroValue0
  t3 := Tryz.underlying3
  a3 := Tryz.isAgg3
  z3 := Tryz.sizeOf3
  v3 := Tryz.zeroValue3
  t4 := Tryz.underlying4
  a4 := Tryz.isAgg4
  z4 := Tryz.sizeOf4
  v4 := Tryz.zeroValue4
  t5 := Tryz.underlying5
  a5 := Tryz.isAgg5
  z5 := Tryz.sizeOf5
  v5 := Tryz.zeroValue5
  t9 := Tryz.underlying9
  a9 := Tryz.isAgg9
  z9 := Tryz.sizeOf9
  v9 := Tryz.zeroValue9
  t21 := Tryz.underlying21
  a21 := Tryz.isAgg21
  z21 := Tryz.sizeOf21
  v21 := Tryz.zeroValue21
  t46 := Tryz.underlying174
  a46 := Tryz.isAgg174
  z46 := Tryz.sizeOf174
  v46 := Tryz.zeroValue174
  t105 := Tryz.underlying168
  a105 := Tryz.isAgg168
  z105 := Tryz.sizeOf168
  v105 := Tryz.zeroValue168
  t116 := Tryz.underlying161
  a116 := Tryz.isAgg161
  z116 := Tryz.sizeOf161
  t117 := Tryz.underlying162
  a117 := Tryz.isAgg162
  z117 := Tryz.sizeOf162
  v117 := Tryz.zeroValue162
  t119 := Tryz.underlying185
  a119 := Tryz.isAgg185
  z119 := Tryz.sizeOf185
  t124 := Tryz.underlying165
  a124 := Tryz.isAgg165
  z124 := Tryz.sizeOf165
  v124 := Tryz.zeroValue165
  t138 := Tryz.underlying187
  a138 := Tryz.isAgg187
  z138 := Tryz.sizeOf187
  v138 := Tryz.zeroValue187
  t139 := Tryz.underlying188
  a139 := Tryz.isAgg188
  z139 := Tryz.sizeOf188
  v139 := Tryz.zeroValue188
  g3 := by kernel_rfl
  g4 := by kernel_rfl }
open Go.RowKit in
theorem Tryz.strings_Trim_one (s : ByteArray) (c : UInt8) (hc : c.toNat < 128) (w : World) (hs : s.size ≤ 9223372036854775807) :
    Calls Tryz.prog 101 #[.string s, .string ⟨#[c]⟩] w fun e w' => e = .returned (.string ⟨(Lib.trimB s.data.toList c).toArray⟩) ∧ (w' = w ∨ w' = w.drew) := Any.strings_Trim_one Tryz.lays160 s c hc w hs
def Tryz.lays103_ren : Go.Shelf.Ren := ⟨fun | 103 => 104 | 210 => 116 | 206 => 124 | n => n, fun | 9 => 9 | 4 => 4 | 24 => 150 | 3 => 3 | n => n, fun | n => n⟩
theorem Tryz.lays103 : Go.Proofs.Lays.n103 Tryz.prog Tryz.lays103_ren := {
  mixed := by kernel_rfl
  f103 := Tryz.func104.trans (congrArg some (by kernel_rfl))
  f206 := Tryz.func124.trans (congrArg some (by kernel_rfl))
  f210 := Tryz.func116.trans (congrArg some (by kernel_rfl))
  t3 := Tryz.underlying3
  a3 := Tryz.isAgg3
  z3 := Tryz.sizeOf3
  v3 := Tryz.zeroValue3
  t4 := Tryz.underlying4
  a4 := Tryz.isAgg4
  z4 := Tryz.sizeOf4
  v4 := Tryz.zeroValue4
  t9 := Tryz.underlying9
  a9 := Tryz.isAgg9
  z9 := Tryz.sizeOf9
  v9 := Tryz.zeroValue9
  t24 := Tryz.underlying150
  a24 := Tryz.isAgg150
  z24 := Tryz.sizeOf150
  v24 := Tryz.zeroValue150 }
open Go.RowKit in
theorem Tryz.strings_CutPrefix (s p : ByteArray) (w : World) :
    Calls Tryz.prog 104 #[.string s, .string p] w fun e w' => e = .returned (.tuple #[.string ⟨(Lib.trimPrefix s.data.toList p.data.toList).toArray⟩, .bool (Lib.hasPrefix s.data.toList p.data.toList)]) ∧ w' = w := Any.strings_CutPrefix Tryz.lays103 s p w
def Tryz.lays129_ren : Go.Shelf.Ren := ⟨fun | 129 => 153 | n => n, fun | 53 => 154 | 3 => 3 | 4 => 4 | 46 => 174 | 5 => 5 | 9 => 9 | n => n, fun | n => n⟩
theorem Tryz.lays129 : Go.Proofs.Lays.n129 Tryz.prog Tryz.lays129_ren := {
  mixed := by kernel_rfl
  f129 := Tryz.func153.trans (congrArg some (by kernel_rfl))
  t3 := Tryz.underlying3
  a3 := Tryz.isAgg3
  z3 := Tryz.sizeOf3
  v3 := Tryz.zeroValue3
  t4 := Tryz.underlying4
  a4 := Tryz.isAgg4
  z4 := Tryz.sizeOf4
  v4 := Tryz.zeroValue4
  t5 := Tryz.underlying5
  a5 := Tryz.isAgg5
  z5 := Tryz.sizeOf5
  v5 := Tryz.zeroValue5
  t9 := Tryz.underlying9
  a9 := Tryz.isAgg9
  z9 := Tryz.sizeOf9
  v9 := Tryz.zeroValue9
  t46 := Tryz.underlying174
  a46 := Tryz.isAgg174
  z46 := Tryz.sizeOf174
  v46 := Tryz.zeroValue174
  t53 := Tryz.underlying154
  a53 := Tryz.isAgg154
  z53 := Tryz.sizeOf154
  v53 := Tryz.zeroValue154 }
theorem Tryz.bits_Len64 (x : Int) (w : World) (h0 : 0 ≤ x) (h1 : x ≤ 18446744073709551615) :
    Calls Tryz.prog 153 #[.int .u64 x] w fun e w' => e = .returned (.int .i64 (Lib.bitLen x.toNat)) ∧ w' = w := Any.bits_Len64 Tryz.lays129 x w h0 h1
def Tryz.lays317_ren : Go.Shelf.Ren := ⟨fun | 317 => 152 | n => n, fun | 3 => 3 | 46 => 174 | n => n, fun | n => n⟩
theorem Tryz.lays317 : Go.Proofs.Lays.n317 Tryz.prog Tryz.lays317_ren := {
  mixed := by kernel_rfl
  f317 := Tryz.func152.trans (congrArg some (by kernel_rfl))
  t3 := Tryz.underlying3
  a3 := Tryz.isAgg3
  z3 := Tryz.sizeOf3
  v3 := Tryz.zeroValue3
  t46 := Tryz.underlying174
  a46 := Tryz.isAgg174
  z46 := Tryz.sizeOf174
  v46 := Tryz.zeroValue174 }
open Go.Lib in
theorem Tryz.internal_strconv_log10Pow2 (x : Nat) (h : x ≤ 64) (w : World) :
    Calls Tryz.prog 152 #[.int .i64 x] w fun e w' => e = .returned (.int .i64 (Lib.l10 x)) ∧ w' = w := Any.internal_strconv_log10Pow2 Tryz.lays317 x h w
def Tryz.lays318_ren : Go.Shelf.Ren := ⟨fun | 318 => 154 | n => n, fun | 3 => 3 | 4 => 4 | n => n, fun | n => n⟩
theorem Tryz.lays318 : Go.Proofs.Lays.n318 Tryz.prog Tryz.lays318_ren := {
  mixed := by kernel_rfl
  f318 := Tryz.func154.trans (congrArg some (by kernel_rfl))
  t3 := Tryz.underlying3
  a3 := Tryz.isAgg3
  z3 := Tryz.sizeOf3
  v3 := Tryz.zeroValue3
  t4 := Tryz.underlying4
  a4 := Tryz.isAgg4
  z4 := Tryz.sizeOf4
  v4 := Tryz.zeroValue4 }
open Go.Lib in
theorem Tryz.internal_strconv_bool2_int (b : Bool) (w : World) :
    Calls Tryz.prog 154 #[.bool b] w fun e w' => e = .returned (.int .i64 (if b then 1 else 0)) ∧ w' = w := Any.internal_strconv_bool2_int Tryz.lays318 b w
def Tryz.lays283_ren : Go.Shelf.Ren := ⟨fun | 283 => 148 | n => n, fun | 3 => 3 | 9 => 9 | 4 => 4 | n => n, fun | n => n⟩
theorem Tryz.lays283 : Go.Proofs.Lays.n283 Tryz.prog Tryz.lays283_ren := {
  mixed := by kernel_rfl
  f283 := Tryz.func148.trans (congrArg some (by kernel_rfl))
  t3 := Tryz.underlying3
  a3 := Tryz.isAgg3
  z3 := Tryz.sizeOf3
  v3 := Tryz.zeroValue3
  t4 := Tryz.underlying4
  a4 := Tryz.isAgg4
  z4 := Tryz.sizeOf4
  v4 := Tryz.zeroValue4
  t9 := Tryz.underlying9
  a9 := Tryz.isAgg9
  z9 := Tryz.sizeOf9
  v9 := Tryz.zeroValue9 }
open Go.Lib in
theorem Tryz.internal_strconv_small (i : Nat) (h : i < 100) (w : World) :
    Calls Tryz.prog 148 #[.int .i64 i] w fun e w' => e = .returned (.string ⟨(Lib.decDigits i).toArray⟩) ∧ w' = w := Any.internal_strconv_small Tryz.lays283 i h w
def Tryz.lays285_ren : Go.Shelf.Ren := ⟨fun | 285 => 150 | n => n, fun | 37 => 121 | 53 => 154 | 3 => 3 | 4 => 4 | 51 => 190 | 9 => 9 | 5 => 5 | 0 => 0 | n => n, fun | n => n⟩
theorem Tryz.lays285 : Go.Proofs.Lays.n285 Tryz.prog Tryz.lays285_ren := {
  mixed := by kernel_rfl
  f285 := Tryz.func150.trans (congrArg some (by kernel_rfl))
  t0 := Tryz.underlying0
  a0 := Tryz.isAgg0
  z0 := Tryz.sizeOf0
  v0 := Tryz.zeroValue0
  t3 := Tryz.underlying3
  a3 := Tryz.isAgg3
  z3 := Tryz.sizeOf3
  v3 := Tryz.zeroValue3
  t4 := Tryz.underlying4
  a4 := Tryz.isAgg4
  z4 := Tryz.sizeOf4
  v4 := Tryz.zeroValue4
  t5 := Tryz.underlying5
  a5 := Tryz.isAgg5
  z5 := Tryz.sizeOf5
  v5 := Tryz.zeroValue5
  t9 := Tryz.underlying9
  a9 := Tryz.isAgg9
  z9 := Tryz.sizeOf9
  v9 := Tryz.zeroValue9
  t37 := Tryz.underlying121
  a37 := Tryz.isAgg121
  z37 := Tryz.sizeOf121
  v37 := Tryz.zeroValue121
  t51 := Tryz.underlying190
  a51 := Tryz.isAgg190
  z51 := Tryz.sizeOf190
  v51 := Tryz.zeroValue190
  t53 := Tryz.underlying154
  a53 := Tryz.isAgg154
  z53 := Tryz.sizeOf154
  v53 := Tryz.zeroValue154 }
open Go.RowKit Go.Sort Go.Lib in
theorem Tryz.internal_strconv_formatBase10 (blk off cap : Nat) (u : Nat) (d : Array UInt8) (w : World) (hH : Holds (fun (b : UInt8) => Value.int .u8 (b.toNat : Int)) w blk off d) (hu : u < 10 ^ d.size) (hu64 : u < 18446744073709551616) (hsz : d.size < 4611686018427387904) :
    Calls Tryz.prog 150 #[.slice (some ⟨blk, off, none⟩) d.size cap, .int .u64 u] w fun e w' =>
      e = .returned (.tuple #[]) ∧ ∃ (n v' : Nat) (dk : Array UInt8), w' = (putRow (fun (b : UInt8) => Value.int .u8 (b.toNat : Int)) w blk off dk).drewN n ∧ FmtInv d.size u 0 v' dk := Any.internal_strconv_formatBase10 Tryz.lays285 blk off cap u d w hH hu hu64 hsz
def Tryz.laysPu14_ren : Go.Shelf.Ren := ⟨fun | 14 => 107 | 16 => 118 | 17 => 119 | 19 => 126 | 20 => 127 | 21 => 128 | 22 => 129 | 23 => 130 | 24 => 131 | 25 => 139 | 27 => 141 | 26 => 140 | 28 => 146 | 29 => 147 | 30 => 148 | 31 => 149 | 32 => 150 | 33 => 151 | 35 => 153 | 34 => 152 | 36 => 154 | 37 => 155 | 38 => 156 | 39 => 157 | 40 => 158 | n => n, fun | 9 => 9 | 3 => 3 | 22 => 154 | 24 => 156 | 25 => 157 | 4 => 4 | 34 => 172 | 5 => 5 | 36 => 174 | 37 => 121 | 0 => 0 | 39 => 175 | 21 => 21 | 44 => 182 | 47 => 193 | 50 => 196 | 48 => 194 | 2 => 2 | 52 => 198 | 55 => 201 | 59 => 203 | 60 => 190 | 20 => 20 | 61 => 204 | 65 => 208 | 66 => 209 | 67 => 210 | n => n, fun | 0 => 1 | 1 => 2 | 2 => 5 | 3 => 6 | 4 => 7 | n => n⟩
theorem Tryz.laysPu14 : Go.Proofs.LaysPu.n14 Tryz.prog Tryz.laysPu14_ren := {
  mixed := by kernel_rfl
  f14 := Tryz.func107.trans (congrArg some (by kernel_rfl))
  f16 := Tryz.func118.trans (congrArg some (by kernel_rfl))
  f17 := Tryz.func119.trans (congrArg some (by kernel_rfl))
  f19 := Tryz.func126.trans (congrArg some (by kernel_rfl))
  f20 := Tryz.func127.trans (congrArg some (by kernel_rfl))
  f21 := Tryz.func128.trans (congrArg some (by kernel_rfl))
  f22 := Tryz.func129.trans (congrArg some (by kernel_rfl))
  f23 := Tryz.func130.trans (congrArg some (by kernel_rfl))
  f24 := Tryz.func131.trans (congrArg some (by kernel_rfl))
  f25 := Tryz.func139.trans (congrArg some (by kernel_rfl))
  f26 := Tryz.func140.trans (congrArg some (by kernel_rfl))
  f27 := Tryz.func141.trans (congrArg some (by kernel_rfl))
  f28 := Tryz.func146.trans (congrArg some (by kernel_rfl))
  f29 := Tryz.func147.trans (congrArg some (by kernel_rfl))
  f30 := Tryz.func148.trans (congrArg some (by kernel_rfl))
  f31 := Tryz.func149.trans (congrArg some (by kernel_rfl))
  f32 := Tryz.func150.trans (congrArg some (by kernel_rfl))
  f33 := Tryz.func151.trans (congrArg some (by kernel_rfl))
  f34 := Tryz.func152.trans (congrArg some (by kernel_rfl))
  f35 := Tryz.func153.trans (congrArg some (by kernel_rfl))
  f36 := Tryz.func154.trans (congrArg some (by kernel_rfl))
  f37 := Tryz.func155.trans (congrArg some (by kernel_rfl))
  f38 := Tryz.func156.trans (congrArg some (by kernel_rfl))
  f39 := Tryz.func157.trans (congrArg some (by kernel_rfl))
  f40 := Tryz.func158.trans (congrArg some (by kernel_rfl))
  t0 := Tryz.underlying0
  a0 := Tryz.isAgg0
  z0 := Tryz.sizeOf0
  v0 := Tryz.zeroValue0
  i0 := by kernel_rfl
  t2 := Tryz.underlying2
  a2 := Tryz.isAgg2
  z2 := Tryz.sizeOf2
  v2 := Tryz.zeroValue2
  i2 := by kernel_rfl
  t3 := Tryz.underlying3
  a3 := Tryz.isAgg3
  z3 := Tryz.sizeOf3
  v3 := Tryz.zeroValue3
  i3 := by kernel_rfl
  t4 := Tryz.underlying4
  a4 := Tryz.isAgg4
  z4 := Tryz.sizeOf4
  v4 := Tryz.zeroValue4
  i4 := by kernel_rfl
  t5 := Tryz.underlying5
  a5 := Tryz.isAgg5
  z5 := Tryz.sizeOf5
  v5 := Tryz.zeroValue5
  i5 := by kernel_rfl
  t9 := Tryz.underlying9
  a9 := Tryz.isAgg9
  z9 := Tryz.sizeOf9
  v9 := Tryz.zeroValue9
  i9 := by kernel_rfl
  t20 := Tryz.underlying20
  a20 := Tryz.isAgg20
  z20 := Tryz.sizeOf20
  v20 := Tryz.zeroValue20
  i20 := by kernel_rfl
  t21 := Tryz.underlying21
  a21 := Tryz.isAgg21
  z21 := Tryz.sizeOf21
  v21 := Tryz.zeroValue21
  i21 := by kernel_rfl
  t22 := Tryz.underlying154
  a22 := Tryz.isAgg154
  z22 := Tryz.sizeOf154
  v22 := Tryz.zeroValue154
  i22 := by kernel_rfl
  t24 := Tryz.underlying156
  a24 := Tryz.isAgg156
  z24 := Tryz.sizeOf156
  v24 := Tryz.zeroValue156
  i24 := by kernel_rfl
  t25 := Tryz.underlying157
  a25 := Tryz.isAgg157
  z25 := Tryz.sizeOf157
  v25 := Tryz.zeroValue157
  i25 := by kernel_rfl
  t34 := Tryz.underlying172
  a34 := Tryz.isAgg172
  z34 := Tryz.sizeOf172
  v34 := Tryz.zeroValue172
  i34 := by kernel_rfl
  c34 := by kernel_rfl
  t36 := Tryz.underlying174
  a36 := Tryz.isAgg174
  z36 := Tryz.sizeOf174
  v36 := Tryz.zeroValue174
  i36 := by kernel_rfl
  t37 := Tryz.underlying121
  a37 := Tryz.isAgg121
  z37 := Tryz.sizeOf121
  v37 := Tryz.zeroValue121
  i37 := by kernel_rfl
  t39 := Tryz.underlying175
  a39 := Tryz.isAgg175
  z39 := Tryz.sizeOf175
  v39 := Tryz.zeroValue175
  i39 := by kernel_rfl
  t44 := Tryz.underlying182
  a44 := Tryz.isAgg182
  z44 := Tryz.sizeOf182
  v44 := Tryz.zeroValue182
  i44 := by kernel_rfl
  t47 := Tryz.underlying193
  a47 := Tryz.isAgg193
  z47 := Tryz.sizeOf193
  v47 := Tryz.zeroValue193
  i47 := by kernel_rfl
  t48 := Tryz.underlying194
  a48 := Tryz.isAgg194
  z48 := Tryz.sizeOf194
  v48 := Tryz.zeroValue194
  i48 := by kernel_rfl
  t50 := Tryz.underlying196
  a50 := Tryz.isAgg196
  z50 := Tryz.sizeOf196
  v50 := Tryz.zeroValue196
  i50 := by kernel_rfl
  t52 := Tryz.underlying198
  a52 := Tryz.isAgg198
  z52 := Tryz.sizeOf198
  v52 := Tryz.zeroValue198
  i52 := by kernel_rfl
  t55 := Tryz.underlying201
  a55 := Tryz.isAgg201
  z55 := Tryz.sizeOf201
  v55 := Tryz.zeroValue201
  i55 := by kernel_rfl
  t59 := Tryz.underlying203
  a59 := Tryz.isAgg203
  z59 := Tryz.sizeOf203
  v59 := Tryz.zeroValue203
  i59 := by kernel_rfl
  t60 := Tryz.underlying190
  a60 := Tryz.isAgg190
  z60 := Tryz.sizeOf190
  v60 := Tryz.zeroValue190
  i60 := by kernel_rfl
  t61 := Tryz.underlying204
  a61 := Tryz.isAgg204
  z61 := Tryz.sizeOf204
  t65 := Tryz.underlying208
  a65 := Tryz.isAgg208
  z65 := Tryz.sizeOf208
  v65 := Tryz.zeroValue208
  i65 := by kernel_rfl
  t66 := Tryz.underlying209
  a66 := Tryz.isAgg209
  z66 := Tryz.sizeOf209
  v66 := Tryz.zeroValue209
  i66 := by kernel_rfl
  t67 := Tryz.underlying210
  a67 := Tryz.isAgg210
  z67 := Tryz.sizeOf210
  v67 := Tryz.zeroValue210
  i67 := by kernel_rfl
  g0 := by kernel_rfl
  m0 := by kernel_rfl
  g1 := by kernel_rfl
  m1 := by kernel_rfl
  g2 := by kernel_rfl
  m2 := by kernel_rfl
  g3 := by kernel_rfl
  m3 := by kernel_rfl
  g4 := by kernel_rfl
  m4 := by kernel_rfl }
open Go.RowKit in
theorem Tryz.strconv_ParseUint_10_at64_ok (s : ByteArray) (hmax : s.size ≤ 9223372036854775806) (u : Nat) (h : Lib.parseUintB 64 s.data.toList = .ok u) (w : World) :
    Calls Tryz.prog 107 #[.string s, .int .i64 10, .int .i64 64] w fun e w' => e = .returned (.tuple #[.int .u64 u, .nilIface]) ∧ (w' = w ∨ w' = Lib.bytesWorld w 5 s) := Any.strconv_ParseUint_10_at64_ok Tryz.laysPu14 s hmax u h w
def Tryz.lays219_ren : Go.Shelf.Ren := ⟨fun | 219 => 125 | 217 => 135 | 225 => 136 | 224 => 137 | 267 => 138 | 266 => 144 | 314 => 145 | n => n, fun | 9 => 9 | 3 => 3 | 4 => 4 | 5 => 5 | 46 => 174 | 146 => 191 | 51 => 190 | n => n, fun | 1 => 0 | n => n⟩
theorem Tryz.lays219 : Go.Proofs.Lays.n219 Tryz.prog Tryz.lays219_ren := {
  mixed := by kernel_rfl
  f217 := Tryz.func135.trans (congrArg some (by kernel_rfl))
  f219 := Tryz.func125.trans (congrArg some (by kernel_rfl))
  f224 := Tryz.func137.trans (congrArg some (by kernel_rfl))
  f225 := Tryz.func136.trans (congrArg some (by kernel_rfl))
  f266 := Tryz.func144.trans (congrArg some (by kernel_rfl))
  f267 := Tryz.func138.trans (congrArg some (by kernel_rfl))
  f314 := Tryz.func145.trans (congrArg some (by kernel_rfl))
  t3 := Tryz.underlying3
  a3 := Tryz.isAgg3
  z3 := Tryz.sizeOf3
  v3 := Tryz.zeroValue3
  t4 := Tryz.underlying4
  a4 := Tryz.isAgg4
  z4 := Tryz.sizeOf4
  v4 := Tryz.zeroValue4
  t5 := Tryz.underlying5
  a5 := Tryz.isAgg5
  z5 := Tryz.sizeOf5
  v5 := Tryz.zeroValue5
  t9 := Tryz.underlying9
  a9 := Tryz.isAgg9
  z9 := Tryz.sizeOf9
  v9 := Tryz.zeroValue9
  t46 := Tryz.underlying174
  a46 := Tryz.isAgg174
  z46 := Tryz.sizeOf174
  v46 := Tryz.zeroValue174
  t51 := Tryz.underlying190
  a51 := Tryz.isAgg190
  z51 := Tryz.sizeOf190
  v51 := Tryz.zeroValue190
  t146 := Tryz.underlying191
  a146 := Tryz.isAgg191
  z146 := Tryz.sizeOf191
  v146 := Tryz.zeroValue191
  g1 := by kernel_rfl }
open Go.RowKit Go.Lib in
theorem Tryz.stringslite_Index_one (s : ByteArray) (c : UInt8) (w : World) :
    Calls Tryz.prog 125 #[.string s, .string ⟨#[c]⟩] w fun e w' => e = .returned (.int .i64 (Lib.indexByte s.data.toList c)) ∧ w' = w := Any.stringslite_Index_one Tryz.lays219 s c w
end Go.Proofs
/- The walks of strconv.FormatUint at base 10, after the kit's worked FormatInt. -/
set_option maxRecDepth 100000
namespace Go.Proofs.YtdjpkkgcoainhaaGreatDoor
open Go.RowKit Go.Lat Go.Shelf Go.Sort Go.Lib

/-- The table of the powers of 10 lies in the world. -/
def Pow (w : World) : Prop := 5 < w.heap.size ∧ ∀ q : Nat, q < 20 → w.cell? ⟨5, q, none⟩ = some (.int .u64 ((10 ^ q : Nat) : Int))

theorem Pow.upd {w w' : World} {S : Nat → Prop} (h : Pow w) (u : Upd w w' S) (hn : ¬ S 5) : Pow w' :=
  ⟨Nat.lt_of_lt_of_le h.1 u.size, fun q hq => (u.cell _ q h.1 hn).trans (h.2 q hq)⟩

set_option maxHeartbeats 2000000 in
theorem numDigits_any (w : World) (u : Nat) (h1 : 1 ≤ u) (h2 : u < 18446744073709551616) (ht : Pow w) :
    Calls Tryz.prog 149 #[.int .u64 u] w fun e w' => e = .returned (.int .i64 (Lib.nDigits u)) ∧ w' = w := by
  obtain ⟨hnd, h19⟩ := Lib.numDigits_eq u h1 h2
  have hL : Lib.bitLen u ≤ 64 := Lib.bitLen_le u 64 (Nat.le_refl _) h2
  have hcell := ht.2 (Lib.l10 (Lib.bitLen u)) (by omega)
  have hto : ((u : Int)).toNat = u := by omega
  have A := fun w => Tryz.bits_Len64 (u : Int) w (by omega) (by omega)
  rw [hto] at A
  have B := fun w => Tryz.internal_strconv_log10Pow2 (Lib.bitLen u) hL w
  generalize hq : Lib.l10 (Lib.bitLen u) = q at hnd h19 hcell B
  generalize hT : 10 ^ q = T at hnd hcell
  have h20 : q < 20 := by omega
  have Hnd := Lib.hid hnd
  clear hnd hq hT hto ht
  go_enter Tryz.func149, Tryz.ntmps149
  go_wp2_with fail
  refine Calls.mono (A _) ?_
  rintro e w1 ⟨rfl, rfl⟩
  go_wp2_with fail
  refine Calls.mono (B _) ?_
  rintro e w2 ⟨rfl, rfl⟩
  go_wp2_with fail
  refine Calls.mono (Tryz.internal_strconv_bool2_int _ _) ?_
  rintro e w3 ⟨rfl, rfl⟩
  go_wp2_with fail
  all_goals go_ret
  all_goals (
    refine ⟨?_, rfl⟩
    have hnd := Hnd.out
    congr 2
    split at hnd <;> simp_all <;> omega)

end Go.Proofs.YtdjpkkgcoainhaaGreatDoor
/- The walk of fixed.Num.Text. -/
set_option maxRecDepth 100000
namespace Go.Proofs.YtdjpkkgcoainhaaGreatDoor
open Go.RowKit Go.Lat Go.Shelf Go.Sort Go.Lib

theorem list_size (l : List UInt8) : (⟨l.toArray⟩ : ByteArray).size = l.length := rfl
theorem trimRight_le (l : List UInt8) (c : UInt8) : (trimRightB l c).length ≤ l.length := by
  have h := (List.dropWhile_suffix (l := l.reverse) (· == c)).length_le
  unfold trimRightB
  simpa using h
theorem nDigits_step (u : Nat) : nDigits u = if u < 10 then 1 else nDigits (u / 10) + 1 := by
  rw [nDigits]
  by_cases h : u < 10
  · rw [dif_pos h, if_pos h]
  · rw [dif_neg h, if_neg h]
theorem nDigits5 (u : Nat) (h1 : 10000 ≤ u) (h2 : u < 20000) : nDigits u = 5 := by
  rw [nDigits_step, if_neg (by omega), nDigits_step, if_neg (by omega), nDigits_step, if_neg (by omega), nDigits_step, if_neg (by omega), nDigits_step, if_pos (by omega)]
theorem nDigits_le20 (u : Nat) (h : u < 18446744073709551616) : nDigits u ≤ 20 := by
  rcases Nat.eq_zero_or_pos u with e | e
  · rw [e, nDigits_step, if_pos (by omega)]; omega
  · have := Lib.numDigits_eq u e h
    split at this <;> omega

theorem i64_signed (s : Bool) (n : Nat) (hn : n ≤ 9000000000000000000) : okNum (if s then -(n : Int) else n) = true := by
  cases s <;> simp [okNum] <;> omega

end Go.Proofs.YtdjpkkgcoainhaaGreatDoor
/- The walks of strings.Cut at one byte (after the kit's worked one), of fixed.run at digits, and of fixed.Parse at one text. -/
set_option maxRecDepth 100000
namespace Go.Proofs.YtdjpkkgcoainhaaGreatDoor
open Go.RowKit Go.Lat Go.Shelf Go.Sort Go.Lib

theorem indexB_one (s : ByteArray) (c : UInt8) : indexB s ⟨#[c]⟩ = indexByte s.data.toList c := index_one s.data.toList c

set_option maxHeartbeats 2000000 in
theorem CutI_any (w : World) (s : ByteArray) (c : UInt8) (hs : s.size ≤ 9223372036854775806) : Calls Tryz.prog 117 #[.string s, .string ⟨#[c]⟩] w fun e w' =>
    e = .returned (.tuple #[.string ⟨(Lib.cut s.data.toList [c]).1.toArray⟩, .string ⟨(Lib.cut s.data.toList [c]).2.1.toArray⟩, .bool (Lib.cut s.data.toList [c]).2.2]) ∧ ∃ n, w' = w.drewN n := by
  have hI := fun w => Tryz.stringslite_Index_one s c w
  have e0 : (⟨#[c]⟩ : ByteArray).data.toList = [c] := rfl
  have z0 : (⟨#[c]⟩ : ByteArray).size = 1 := rfl
  rcases Lib.indexB_cases s ⟨#[c]⟩ with hix | ⟨i, hix, hroom⟩
  · obtain ⟨e1, e2, e3⟩ := Lib.cutB_miss s ⟨#[c]⟩ hix
    rw [e0] at e1 e2 e3
    rw [e1, e2, e3]
    rw [indexB_one] at hix
    rw [hix] at hI
    clear e0 e1 e2 e3
    go_enter Tryz.func117, Tryz.ntmps117
    go_wp2_with fail
    refine Calls.mono (hI _) ?_
    rintro e w' ⟨rfl, rfl⟩
    go_wp2_with fail
    go_ret3
    exact ⟨rfl, 0, rfl⟩
  · obtain ⟨e1, e2, e3⟩ := Lib.cutB_hit s ⟨#[c]⟩ i hix
    rw [e0] at e1 e2 e3
    rw [e1, e2, e3]
    rw [indexB_one] at hix
    rw [hix] at hI
    rw [z0] at hroom ⊢
    have c1 : (0 : Int) ≤ ↑i := by omega
    have c2 : (↑i : Int) ≤ ↑s.size := by omega
    have c3 : (0 : Int) ≤ ↑i + 1 := by omega
    have c4 : (↑i + 1 : Int) ≤ ↑s.size := by omega
    have c5 : IntKind.i64.wrap (↑i + 1) = ↑i + 1 := IntWalk.i64_in _ (by omega)
    have c6 : (↑i + 1 : Int).toNat = i + 1 := by omega
    have mixed := Tryz.lays219.mixed
    clear e0 e1 e2 e3
    go_enter Tryz.func117, Tryz.ntmps117
    go_wp2_with fail
    refine Calls.mono (hI _) ?_
    rintro e w' ⟨rfl, rfl⟩
    go_wp2_with fail
    go_region_o
    go_wp2_with fail
    go_ret3
    exact ⟨rfl, 1, rfl⟩

theorem Cut_any (w : World) (s : ByteArray) (c : UInt8) (hs : s.size ≤ 9223372036854775806) : Calls Tryz.prog 105 #[.string s, .string ⟨#[c]⟩] w fun e w' =>
    e = .returned (.tuple #[.string ⟨(Lib.cut s.data.toList [c]).1.toArray⟩, .string ⟨(Lib.cut s.data.toList [c]).2.1.toArray⟩, .bool (Lib.cut s.data.toList [c]).2.2]) ∧ ∃ n, w' = w.drewN n := by
  have h := fun w => CutI_any w s c hs
  generalize (⟨(Lib.cut s.data.toList [c]).1.toArray⟩ : ByteArray) = a at *
  generalize (⟨(Lib.cut s.data.toList [c]).2.1.toArray⟩ : ByteArray) = b at *
  generalize (Lib.cut s.data.toList [c]).2.2 = d at *
  go_enter Tryz.func105, Tryz.ntmps105
  go_wp2_with fail
  refine Calls.mono (h _) ?_
  rintro e w' ⟨rfl, n, rfl⟩
  go_wp2_with fail
  go_ret3
  exact ⟨rfl, n, rfl⟩

/-- The digits. -/
def dgs : List UInt8 := [48, 49, 50, 51, 52, 53, 54, 55, 56, 57]

theorem run_good (w : World) (s : ByteArray) (h1 : 1 ≤ s.size) (h2 : s.size ≤ 18) (ht : trimS s.data.toList dgs = []) :
    Calls Tryz.prog 106 #[.string s] w fun e w' => e = .returned (.bool true) ∧ Upd w w' (fun _ => False) := by
  have hT := fun w => Any.strings_Trim_laid Tryz.lays160 (by kernel_rfl) s ⟨#[48, 49, 50, 51, 52, 53, 54, 55, 56, 57]⟩ w (by omega) (by decide) (ascii_of_all (by decide))
  have e1 : (⟨(Lib.trimS s.data.toList (⟨#[48, 49, 50, 51, 52, 53, 54, 55, 56, 57]⟩ : ByteArray).data.toList).toArray⟩ : ByteArray) = ⟨#[]⟩ := by
    rw [show (⟨#[48, 49, 50, 51, 52, 53, 54, 55, 56, 57]⟩ : ByteArray).data.toList = dgs from rfl, ht]
  rw [e1] at hT
  change ∀ w, Calls Tryz.prog 101 _ _ _ at hT
  have d1 : decide ((1 : Int) ≤ (s.size : Int)) = true := by simp; omega
  have d2 : decide ((s.size : Int) ≤ 18) = true := by simp; omega
  have d3 : decide (1 ≤ s.size) = true := by simpa using h1
  have d4 : decide (s.size ≤ 18) = true := by simpa using h2
  clear ht e1
  go_enter Tryz.func106, Tryz.ntmps106
  go_wp2_with fail
  refine Calls.mono (hT _) ?_
  rintro e w1 ⟨rfl, hB⟩
  go_wp2_with fail
  go_ret
  exact ⟨rfl, Upd.of_below hB _⟩

set_option maxHeartbeats 3200000 in
theorem Parse_one (w : World) : Calls Tryz.prog 100 #[.string ⟨#[49, 46, 50, 51]⟩] w fun e w' => e = .returned (.tuple #[.int .i64 12300, .int .i64 0]) ∧ Upd w w' (fun _ => False) := by
  have h1 : ∀ w, Calls Tryz.prog 104 #[.string ⟨#[49, 46, 50, 51]⟩, .string ⟨#[45]⟩] w fun e w' => e = .returned (.tuple #[.string ⟨#[49, 46, 50, 51]⟩, .bool false]) ∧ w' = w := fun w => Tryz.strings_CutPrefix ⟨#[49, 46, 50, 51]⟩ ⟨#[45]⟩ w
  have h2 : ∀ w, Calls Tryz.prog 105 #[.string ⟨#[49, 46, 50, 51]⟩, .string ⟨#[46]⟩] w fun e w' => e = .returned (.tuple #[.string ⟨#[49]⟩, .string ⟨#[50, 51]⟩, .bool true]) ∧ ∃ n, w' = w.drewN n := fun w => Cut_any w ⟨#[49, 46, 50, 51]⟩ 46 (by decide)
  have h3 := fun w => run_good w ⟨#[49]⟩ (by decide) (by decide) (by decide)
  have h4 := fun w => run_good w ⟨#[50, 51]⟩ (by decide) (by decide) (by decide)
  have h5 := fun w => Tryz.strconv_ParseUint_10_at64_ok ⟨#[49]⟩ (by decide) 1 (by decide) w
  have h6 := fun w => Tryz.strconv_ParseUint_10_at64_ok ⟨#[50, 51, 48, 48, 48]⟩ (by decide) 23000 (by decide) w
  go_enter Tryz.func100, Tryz.ntmps100
  go_wp2_with fail
  refine Calls.mono (h1 _) ?_
  rintro e w1 ⟨rfl, rfl⟩
  go_wp2_with fail
  refine Calls.mono (h2 _) ?_
  rintro e w2 ⟨rfl, n, rfl⟩
  go_wp2_with fail
  refine Calls.mono (h3 _) ?_
  rintro e w3 ⟨rfl, u3⟩
  go_wp2_with fail
  refine Calls.mono (h4 _) ?_
  rintro e w4 ⟨rfl, u4⟩
  go_wp2_with fail
  refine Calls.mono (h5 _) ?_
  rintro e w5 ⟨rfl, u5⟩
  go_wp2_with fail
  refine Calls.mono (h6 _) ?_
  rintro e w6 ⟨rfl, u6⟩
  go_wp2_with fail
  go_ret2
  refine ⟨rfl, ?_⟩
  have b5 : Upd w4 w5 (fun _ => False) := by
    rcases u5 with rfl | rfl
    · exact Upd.refl _ _
    · exact Upd.of_below (Lib.bytesWorld_below _ _ _) _
  have b6 : Upd w5 w6 (fun _ => False) := by
    rcases u6 with rfl | rfl
    · exact Upd.refl _ _
    · exact Upd.of_below (Lib.bytesWorld_below _ _ _) _
  exact ((((Upd.refl w1 _).drewN n).then u3 (fun _ _ => id)).then u4 (fun _ _ => id)).then (b5.then b6 (fun _ _ => id)) (fun _ _ => id)
end Go.Proofs.YtdjpkkgcoainhaaGreatDoor
/- The walks of fixed.run and of the reference's all, at every text. -/
set_option maxRecDepth 100000
namespace Go.Proofs.YtdjpkkgcoainhaaGreatDoor
open Go.RowKit Go.Lat Go.Shelf Go.Sort Go.Lib

theorem dgs_contains (b : UInt8) : dgs.contains b = dgB b := by
  have h : ∀ n, n < 256 → dgs.contains (UInt8.ofNat n) = dgB (UInt8.ofNat n) := by decide +kernel
  have := h b.toNat b.toNat_lt
  simpa using this

theorem dropWhile_nil (p : UInt8 → Bool) : ∀ l : List UInt8, l.dropWhile p = [] ↔ ∀ x ∈ l, p x = true
  | [] => by simp
  | b :: l => by
    have ih := dropWhile_nil p l
    cases h : p b with
    | true => simp [List.dropWhile, h, ih]
    | false => simp [List.dropWhile, h]

theorem takeWhile_all (p : UInt8 → Bool) : ∀ (l : List UInt8) (x : UInt8), x ∈ l.takeWhile p → p x = true
  | [], x, h => by simp at h
  | b :: l, x, h => by
    cases hb : p b with
    | true =>
      simp only [List.takeWhile, hb, List.mem_cons] at h
      rcases h with h | h
      · rw [h]; exact hb
      · exact takeWhile_all p l x h
    | false => simp [List.takeWhile, hb] at h

theorem trim_all (l : List UInt8) (h : l.all dgB = true) : trimS l dgs = [] := by
  have e : trimRightS l dgs = [] := by
    unfold trimRightS
    rw [List.reverse_eq_nil_iff, dropWhile_nil]
    intro x hx
    rw [dgs_contains]
    exact List.all_eq_true.1 h x (List.mem_reverse.1 hx)
  unfold trimS
  rw [e]
  rfl

theorem trim_some (l : List UInt8) (h : l.all dgB = false) : trimS l dgs ≠ [] := by
  intro e
  have hall : l.all dgB = true := by
    unfold trimS trimLeftS at e
    rw [dropWhile_nil] at e
    unfold trimRightS at e
    rw [List.all_eq_true]
    intro x hx
    have hx' : x ∈ l.reverse := List.mem_reverse.2 hx
    rw [← List.takeWhile_append_dropWhile (p := (dgs.contains ·)) (l := l.reverse)] at hx'
    rw [← dgs_contains]
    rcases List.mem_append.1 hx' with k | k
    · exact takeWhile_all _ _ _ k
    · exact e x (List.mem_reverse.2 k)
  rw [h] at hall
  cases hall

set_option maxHeartbeats 1600000 in
theorem run_any (w : World) (s : ByteArray) (hs : s.size ≤ 1000) :
    Calls Tryz.prog 106 #[.string s] w fun e w' => e = .returned (.bool (isD s.data.toList)) ∧ Upd w w' (fun _ => False) := by
  have hsz : s.data.toList.length = s.size := rfl
  have hT := fun w => Any.strings_Trim_laid Tryz.lays160 (by kernel_rfl) s ⟨#[48, 49, 50, 51, 52, 53, 54, 55, 56, 57]⟩ w (by omega) (by decide) (ascii_of_all (by decide))
  rw [show (⟨#[48, 49, 50, 51, 52, 53, 54, 55, 56, 57]⟩ : ByteArray).data.toList = dgs from rfl] at hT
  change ∀ w, Calls Tryz.prog 101 _ _ _ at hT
  unfold isD
  rw [hsz]
  by_cases h1 : 1 ≤ s.size
  · have d1 : decide ((1 : Int) ≤ (s.size : Int)) = true := by simp; omega
    have d3 : decide (1 ≤ s.size) = true := by simpa using h1
    rw [d3]
    by_cases h2 : s.size ≤ 18
    · have d2 : decide ((s.size : Int) ≤ 18) = true := by simp; omega
      have d4 : decide (s.size ≤ 18) = true := by simpa using h2
      rw [d4]
      simp only [Bool.true_and]
      cases h : s.data.toList.all dgB with
      | true =>
        rw [trim_all _ h] at hT
        clear h h1 h2
        go_enter Tryz.func106, Tryz.ntmps106
        go_wp2_with fail
        refine Calls.mono (hT _) ?_
        rintro e w1 ⟨rfl, hB⟩
        go_wp2_with fail
        go_ret
        exact ⟨rfl, Upd.of_below hB _⟩
      | false =>
        have hne := trim_some _ h
        have hr : (⟨(trimS s.data.toList dgs).toArray⟩ : ByteArray).toList ≠ [] := by
          rw [ByteArray.toList_eq]
          exact hne
        generalize (⟨(trimS s.data.toList dgs).toArray⟩ : ByteArray) = r at *
        clear h h1 h2 hne
        go_enter Tryz.func106, Tryz.ntmps106
        go_wp2_with fail
        refine Calls.mono (hT _) ?_
        rintro e w1 ⟨rfl, hB⟩
        go_wp2_with fail
        go_ret
        exact ⟨by simpa using hr, Upd.of_below hB _⟩
    · have d2 : decide ((s.size : Int) ≤ 18) = false := by simp; omega
      have d4 : decide (s.size ≤ 18) = false := by simpa using h2
      rw [d4]
      simp only [Bool.true_and, Bool.false_and]
      clear h1 h2 hT
      go_enter Tryz.func106, Tryz.ntmps106
      go_wp2_with fail
      go_ret
      exact ⟨rfl, Upd.refl _ _⟩
  · have d1 : decide ((1 : Int) ≤ (s.size : Int)) = false := by simp; omega
    have d3 : decide (1 ≤ s.size) = false := by simpa using h1
    rw [d3]
    simp only [Bool.false_and]
    clear h1 hT
    go_enter Tryz.func106, Tryz.ntmps106
    go_wp2_with fail
    go_ret
    exact ⟨rfl, Upd.refl _ _⟩

/-- A byte of a text. -/
theorem byte_list (s : ByteArray) (i : Nat) (h : i < s.size) : s.data.toList[i]? = some s[i] := by
  have h' : i < s.data.toList.length := h
  rw [List.getElem?_eq_getElem h']
  rfl

set_option maxHeartbeats 1600000 in
theorem all_any (w : World) (s : ByteArray) (hs : s.size ≤ 1000) :
    Calls Tryz.prog 94 #[.string s] w fun e w' => e = .returned (.bool (isD s.data.toList)) ∧ w' = w := by
  have hsz : s.data.toList.length = s.size := rfl
  unfold isD
  rw [hsz]
  by_cases h1 : 1 ≤ s.size
  · have d1 : decide ((s.size : Int) < 1) = false := by simp; omega
    have d1' : decide (s.size < 1) = false := decide_eq_false (by omega)
    have d3 : decide (1 ≤ s.size) = true := by simpa using h1
    rw [d3]
    by_cases h2 : s.size ≤ 18
    · have d2 : decide ((18 : Int) < (s.size : Int)) = false := by simp; omega
      have d2' : decide (18 < s.size) = false := by simp; omega
      have d4 : decide (s.size ≤ 18) = true := by simpa using h2
      rw [d4]
      simp only [Bool.true_and]
      obtain ⟨X, hX⟩ : ∃ X, s.data.toList.all dgB = X := ⟨_, rfl⟩
      rw [hX]
      have HX := hide hX
      clear hX hsz
      go_enter Tryz.func94, Tryz.ntmps94
      go_wp2_with fail
      go_loopg [3] s.size (fun q v wr => wr = w ∧ ∃ i : Nat, i + q = s.size ∧ v = .int .i64 i ∧ ∀ k, k < i → ∀ b, s.data.toList[k]? = some b → dgB b = true)
      case atStart => exact ⟨rfl, 0, by omega, rfl, fun k hk => absurd hk (by omega)⟩
      case round =>
        obtain ⟨hwr, i, hi, rfl, hall⟩ := hrel
        replace hwr := hwr.symm
        subst hwr
        have HA := hide hall
        clear hall
        by_cases hin : i < s.size
        · have c1 : decide (i < s.size) = true := by simpa using hin
          have hb := byte_list s i hin
          obtain ⟨z, hz⟩ : ∃ z, s[i].toNat = z := ⟨_, rfl⟩
          have HB : Hid (∀ b, s.data.toList[i]? = some b → b.toNat = z) := hide (fun b k => by rw [hb] at k; cases k; exact hz)
          have HB2 : Hid (z < 48 ∨ 57 < z → X = false) := hide (fun hn => by
            rw [← HX.out, Bool.eq_false_iff]
            intro hall
            have := List.all_eq_true.1 hall _ (List.mem_of_getElem? hb)
            simp [dgB] at this
            omega)
          clear hb
          by_cases z1 : z < 48
          · have e1 : decide ((z : Int) < 48) = true := by simp; omega
            have hX := HB2.out (.inl z1)
            subst hX
            go_wp2_with fail
            go_ret
            exact ⟨rfl, rfl⟩
          · have e1 : decide ((z : Int) < 48) = false := by simp; omega
            by_cases z2 : 57 < z
            · have e2 : decide ((57 : Int) < (z : Int)) = true := by simp; omega
              have hX := HB2.out (.inr z2)
              subst hX
              go_wp2_with fail
              go_ret
              exact ⟨rfl, rfl⟩
            · have e2 : decide ((57 : Int) < (z : Int)) = false := by simp; omega
              go_wp2_with fail
              go_roundg (gk - 1)
              case measure => omega
              case rel =>
                refine ⟨rfl, i + 1, by omega, by go_num, fun k hk b hb => ?_⟩
                by_cases hki : k < i
                · exact HA.out k hki b hb
                · obtain rfl : k = i := by omega
                  have := HB.out b hb
                  simp [dgB]
                  omega
        · have c1 : decide (i < s.size) = false := by simpa using hin
          have he : i = s.size := by omega
          subst he
          go_wp2_with fail
          go_ret
          refine ⟨?_, rfl⟩
          have hXt : s.data.toList.all dgB = true := by
            rw [List.all_eq_true]
            intro b hb
            obtain ⟨k, hk, e⟩ := List.mem_iff_getElem.1 hb
            exact HA.out k hk b (by rw [List.getElem?_eq_getElem hk, e])
          rw [← HX.out, hXt]
          rfl
    · have d2 : decide ((18 : Int) < (s.size : Int)) = true := by simp; omega
      have d2' : decide (18 < s.size) = true := by simp; omega
      have d4 : decide (s.size ≤ 18) = false := by simpa using h2
      rw [d4]
      simp only [Bool.true_and, Bool.false_and]
      clear h1 h2
      go_enter Tryz.func94, Tryz.ntmps94
      go_wp2_with fail
      go_ret
      exact ⟨rfl, rfl⟩
  · have d1 : decide ((s.size : Int) < 1) = true := by simp; omega
    have d1' : decide (s.size < 1) = true := decide_eq_true (by omega)
    have d3 : decide (1 ≤ s.size) = false := by simpa using h1
    rw [d3]
    simp only [Bool.false_and]
    clear h1
    go_enter Tryz.func94, Tryz.ntmps94
    go_wp2_with fail
    go_ret
    exact ⟨rfl, rfl⟩
end Go.Proofs.YtdjpkkgcoainhaaGreatDoor
