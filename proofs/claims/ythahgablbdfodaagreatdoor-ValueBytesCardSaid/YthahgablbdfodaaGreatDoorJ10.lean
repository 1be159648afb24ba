/- The contracts of the library that the walks take, laid at this translation (by the kit's two tools, in plain words). -/
import Derived.Shelf.Strings.Trim
import Derived.Shelf.Small.Utf8
import Derived.Shelf.Small.Strs
import Derived.Shelf.Small.Wraps
import Derived.Shelf.Strconv.Itoa0
import Derived.Shelf.Strconv.Itoa1
import Derived.Shelf.LaysM
import Derived.Shelf.Strconv.Itoa2
import Derived.Shelf.Strconv.Itoa3
import Derived.Shelf.Strconv.Clone
import Derived.Shelf.Strconv.Lower
import Derived.Shelf.Strconv.ParseUint10
import Derived.Shelf.Strconv.ParseUint10Empty
import Derived.Shelf.Strconv.ParseUintEmpty
import Derived.Shelf.Strconv.ParseUint10b64
import Derived.Shelf.Strconv.ParseUint10b32
import Derived.Shelf.Strconv.ParseUint10b16
import Derived.Shelf.Strconv.ParseUint10b8
import Derived.Shelf.Strconv.ParseUint10At
import Derived.Ground.MpProg
import Derived.Shelf.Pu.ParseUintPublic10
import Derived.Shelf.Strings.Search1
import Derived.Shelf.Strings.Search2
import Derived.Shelf.Strings.Cut
import Derived.Shelf.Strings.Shaped
import Derived.Shelf.Strings.Prefix
import Derived.Shelf.Unicode.Decode
import Derived.Shelf.Strings.Runes
import Derived.Shelf.Strings.AsciiSet
import Derived.Shelf.Unicode.DecodeSlow
import Derived.Shelf.Unicode.DecodeAny
import Derived.Shelf.Unicode.DecodeLast
import Derived.Test.YthahgablbdfodaaGreatDoorProg
import Derived.Test.YthahgablbdfodaaGreatDoorJ01
import Derived.Shelf.Strings.SlTrimAscii
import Derived.Lib.AppendIntMem
import Derived.Lib.ItoaMem
import Derived.Lib.Walk
import Derived.WalkKit
import Derived.BigCall
import Derived.BigGuard
import Derived.Lib.CutLaws
import Derived.Lib.IndexLaws
import Derived.Lib.IndexBytes
import Derived.Lib.AtoiErrMem
/- The contracts of the library that the walks take, laid at this translation (by the kit's two tools, in plain words). -/
namespace Go.Proofs
open Go.Shelf
def Tryz.lays162_ren : Go.Shelf.Ren := ⟨fun | 162 => 88 | 232 => 73 | 227 => 74 | 234 => 76 | 236 => 78 | 228 => 94 | 271 => 97 | 151 => 96 | 120 => 112 | 197 => 95 | 152 => 111 | 260 => 110 | 137 => 125 | 119 => 126 | 224 => 120 | 225 => 119 | 217 => 118 | 266 => 132 | n => n, fun | 9 => 9 | 4 => 4 | 3 => 3 | 5 => 5 | 117 => 114 | 116 => 113 | 0 => 0 | 124 => 117 | 21 => 21 | 105 => 130 | 46 => 126 | 119 => 154 | 139 => 157 | 138 => 156 | n => n, fun | 3 => 4 | 4 => 5 | n => n⟩
theorem Tryz.lays162 : Go.Proofs.Lays.n162 Tryz.prog Tryz.lays162_ren := {
  mixed := by kernel_rfl
  f119 := Tryz.func126.trans (congrArg some (by kernel_rfl))
  f120 := Tryz.func112.trans (congrArg some (by kernel_rfl))
  f137 := Tryz.func125.trans (congrArg some (by kernel_rfl))
  f151 := Tryz.func96.trans (congrArg some (by kernel_rfl))
  f152 := Tryz.func111.trans (congrArg some (by kernel_rfl))
  f162 := Tryz.func88.trans (congrArg some (by kernel_rfl))
  f197 := Tryz.func95.trans (congrArg some (by kernel_rfl))
  f217 := Tryz.func118.trans (congrArg some (by kernel_rfl))
  f224 := Tryz.func120.trans (congrArg some (by kernel_rfl))
  f225 := Tryz.func119.trans (congrArg some (by kernel_rfl))
  f227 := Tryz.func74.trans (congrArg some (by kernel_rfl))
  f228 := Tryz.func94.trans (congrArg some (by kernel_rfl))
  f232 := Tryz.func73.trans (congrArg some (by kernel_rfl))
  f234 := Tryz.func76.trans (congrArg some (by kernel_rfl))
  f236 := Tryz.func78.trans (congrArg some (by kernel_rfl))
  f260 := Tryz.func110.trans (congrArg some (by kernel_rfl))
  f266 := Tryz.func132.trans (congrArg some (by kernel_rfl))
  f271 := Tryz.func97.trans (congrArg some (by kernel_rfl))
  t0 := Tryz.underlying0
  a0 := Tryz.isAgg0
  z0 := Tryz.sizeOf0
  v0 := Tryz.zeroValue0
  t3 := Tryz.underlying3
  a3 := Tryz.isAgg3
  z3 := Tryz.sizeOf3
  v3 := Tryz.zeroValue3
  t4 := Tryz.underlying4
  a4 := Tryz.isAgg4
  z4 := Tryz.sizeOf4
  v4 := Tryz.zeroValue4
  t5 := Tryz.underlying5
  a5 := Tryz.isAgg5
  z5 := Tryz.sizeOf5
  v5 := Tryz.zeroValue5
  t9 := Tryz.underlying9
  a9 := Tryz.isAgg9
  z9 := Tryz.sizeOf9
  v9 := Tryz.zeroValue9
  t21 := Tryz.underlying21
  a21 := Tryz.isAgg21
  z21 := Tryz.sizeOf21
  v21 := Tryz.zeroValue21
  t46 := Tryz.underlying126
  a46 := Tryz.isAgg126
  z46 := Tryz.sizeOf126
  v46 := Tryz.zeroValue126
  t105 := Tryz.underlying130
  a105 := Tryz.isAgg130
  z105 := Tryz.sizeOf130
  v105 := Tryz.zeroValue130
  t116 := Tryz.underlying113
  a116 := Tryz.isAgg113
  z116 := Tryz.sizeOf113
  t117 := Tryz.underlying114
  a117 := Tryz.isAgg114
  z117 := Tryz.sizeOf114
  v117 := Tryz.zeroValue114
  t119 := Tryz.underlying154
  a119 := Tryz.isAgg154
  z119 := Tryz.sizeOf154
  t124 := Tryz.underlying117
  a124 := Tryz.isAgg117
  z124 := Tryz.sizeOf117
  v124 := Tryz.zeroValue117
  t138 := Tryz.underlying156
  a138 := Tryz.isAgg156
  z138 := Tryz.sizeOf156
  v138 := Tryz.zeroValue156
  t139 := Tryz.underlying157
  a139 := Tryz.isAgg157
  z139 := Tryz.sizeOf157
  v139 := Tryz.zeroValue157
  g3 := by kernel_rfl
  g4 := by kernel_rfl }
open Go.RowKit in
theorem Tryz.strings_TrimRight_one (s : ByteArray) (c : UInt8) (hc : c.toNat < 128) (w : World) (hs : s.size ≤ 9223372036854775807) :
    Calls Tryz.prog 88 #[.string s, .string ⟨#[c]⟩] w fun e w' => e = .returned (.string ⟨(Lib.trimRightB s.data.toList c).toArray⟩) ∧ w' = w := Any.strings_TrimRight_one Tryz.lays162 s c hc w hs
def Tryz.lays160_ren : Go.Shelf.Ren := ⟨fun | 160 => 56 | 232 => 73 | 231 => 72 | 227 => 74 | 234 => 76 | 233 => 75 | 236 => 78 | 235 => 77 | 228 => 94 | 271 => 97 | 151 => 96 | 197 => 95 | 120 => 112 | 152 => 111 | 260 => 110 | 137 => 125 | 119 => 126 | 224 => 120 | 225 => 119 | 217 => 118 | 266 => 132 | n => n, fun | 9 => 9 | 4 => 4 | 3 => 3 | 5 => 5 | 117 => 114 | 116 => 113 | 0 => 0 | 124 => 117 | 21 => 21 | 105 => 130 | 46 => 126 | 119 => 154 | 139 => 157 | 138 => 156 | n => n, fun | 3 => 4 | 4 => 5 | n => n⟩
theorem Tryz.lays160 : Go.Proofs.Lays.n160 Tryz.prog Tryz.lays160_ren := {
  mixed := by kernel_rfl
  f119 := Tryz.func126.trans (congrArg some (by kernel_rfl))
  f120 := Tryz.func112.trans (congrArg some (by kernel_rfl))
  f137 := Tryz.func125.trans (congrArg some (by kernel_rfl))
  f151 := Tryz.func96.trans (congrArg some (by kernel_rfl))
  f152 := Tryz.func111.trans (congrArg some (by kernel_rfl))
  f160 := Tryz.func56.trans (congrArg some (by kernel_rfl))
  f197 := Tryz.func95.trans (congrArg some (by kernel_rfl))
  f217 := Tryz.func118.trans (congrArg some (by kernel_rfl))
  f224 := Tryz.func120.trans (congrArg some (by kernel_rfl))
  f225 := Tryz.func119.trans (congrArg some (by kernel_rfl))
  f227 := Tryz.func74.trans (congrArg some (by kernel_rfl))
  f228 := Tryz.func94.trans (congrArg some (by kernel_rfl))
  f231 := Tryz.func72.trans (congrArg some (by kernel_rfl))
  f232 := Tryz.func73.trans (congrArg some (by kernel_rfl))
  f233 := Tryz.func75.trans (congrArg some (by kernel_rfl))
  f234 := Tryz.func76.trans (congrArg some (by kernel_rfl))
  f235 := Tryz.func77.trans (congrArg some (by kernel_rfl))
  f236 := Tryz.func78.trans (congrArg some (by kernel_rfl))
  f260 := Tryz.func110.trans (congrArg some (by kernel_rfl))
  f266 := Tryz.func132.trans (congrArg some (by kernel_rfl))
  f271 := Tryz.func97.trans (congrArg some (by kernel_rfl))
  t0 := Tryz.underlying0
  a0 := Tryz.isAgg0
  z0 := Tryz.sizeOf0
  v0 := Tryz.zeroValue0
  t3 := Tryz.underlying3
  a3 := Tryz.isAgg3
  z3 := Tryz.sizeOf3
  v3 := Tryz.zeroValue3
  t4 := Tryz.underlying4
  a4 := Tryz.isAgg4
  z4 := Tryz.sizeOf4
  v4 := Tryz.zeroValue4
  t5 := Tryz.underlying5
  a5 := Tryz.isAgg5
  z5 := Tryz.sizeOf5
  v5 := Tryz.zeroValue5
  t9 := Tryz.underlying9
  a9 := Tryz.isAgg9
  z9 := Tryz.sizeOf9
  v9 := Tryz.zeroValue9
  t21 := Tryz.underlying21
  a21 := Tryz.isAgg21
  z21 := Tryz.sizeOf21
  v21 := Tryz.zeroValue21
  t46 := Tryz.underlying126
  a46 := Tryz.isAgg126
  z46 := Tryz.sizeOf126
  v46 := Tryz.zeroValue126
  t105 := Tryz.underlying130
  a105 := Tryz.isAgg130
  z105 := Tryz.sizeOf130
  v105 := Tryz.zeroValue130
  t116 := Tryz.underlying113
  a116 := Tryz.isAgg113
  z116 := Tryz.sizeOf113
  t117 := Tryz.underlying114
  a117 := Tryz.isAgg114
  z117 := Tryz.sizeOf114
  v117 := Tryz.zeroValue114
  t119 := Tryz.underlying154
  a119 := Tryz.isAgg154
  z119 := Tryz.sizeOf154
  t124 := Tryz.underlying117
  a124 := Tryz.isAgg117
  z124 := Tryz.sizeOf117
  v124 := Tryz.zeroValue117
  t138 := Tryz.underlying156
  a138 := Tryz.isAgg156
  z138 := Tryz.sizeOf156
  v138 := Tryz.zeroValue156
  t139 := Tryz.underlying157
  a139 := Tryz.isAgg157
  z139 := Tryz.sizeOf157
  v139 := Tryz.zeroValue157
  g3 := by kernel_rfl
  g4 := by kernel_rfl }
open Go.RowKit in
theorem Tryz.strings_Trim_one (s : ByteArray) (c : UInt8) (hc : c.toNat < 128) (w : World) (hs : s.size ≤ 9223372036854775807) :
    Calls Tryz.prog 56 #[.string s, .string ⟨#[c]⟩] w fun e w' => e = .returned (.string ⟨(Lib.trimB s.data.toList c).toArray⟩) ∧ (w' = w ∨ w' = w.drew) := Any.strings_Trim_one Tryz.lays160 s c hc w hs
def Tryz.lays103_ren : Go.Shelf.Ren := ⟨fun | 103 => 68 | 210 => 90 | 206 => 102 | n => n, fun | 9 => 9 | 4 => 4 | 24 => 103 | 3 => 3 | n => n, fun | n => n⟩
theorem Tryz.lays103 : Go.Proofs.Lays.n103 Tryz.prog Tryz.lays103_ren := {
  mixed := by kernel_rfl
  f103 := Tryz.func68.trans (congrArg some (by kernel_rfl))
  f206 := Tryz.func102.trans (congrArg some (by kernel_rfl))
  f210 := Tryz.func90.trans (congrArg some (by kernel_rfl))
  t3 := Tryz.underlying3
  a3 := Tryz.isAgg3
  z3 := Tryz.sizeOf3
  v3 := Tryz.zeroValue3
  t4 := Tryz.underlying4
  a4 := Tryz.isAgg4
  z4 := Tryz.sizeOf4
  v4 := Tryz.zeroValue4
  t9 := Tryz.underlying9
  a9 := Tryz.isAgg9
  z9 := Tryz.sizeOf9
  v9 := Tryz.zeroValue9
  t24 := Tryz.underlying103
  a24 := Tryz.isAgg103
  z24 := Tryz.sizeOf103
  v24 := Tryz.zeroValue103 }
open Go.RowKit in
theorem Tryz.strings_CutPrefix (s p : ByteArray) (w : World) :
    Calls Tryz.prog 68 #[.string s, .string p] w fun e w' => e = .returned (.tuple #[.string ⟨(Lib.trimPrefix s.data.toList p.data.toList).toArray⟩, .bool (Lib.hasPrefix s.data.toList p.data.toList)]) ∧ w' = w := Any.strings_CutPrefix Tryz.lays103 s p w
def Tryz.lays129_ren : Go.Shelf.Ren := ⟨fun | 129 => 128 | n => n, fun | 53 => 97 | 3 => 3 | 4 => 4 | 46 => 126 | 5 => 5 | 9 => 9 | n => n, fun | n => n⟩
theorem Tryz.lays129 : Go.Proofs.Lays.n129 Tryz.prog Tryz.lays129_ren := {
  mixed := by kernel_rfl
  f129 := Tryz.func128.trans (congrArg some (by kernel_rfl))
  t3 := Tryz.underlying3
  a3 := Tryz.isAgg3
  z3 := Tryz.sizeOf3
  v3 := Tryz.zeroValue3
  t4 := Tryz.underlying4
  a4 := Tryz.isAgg4
  z4 := Tryz.sizeOf4
  v4 := Tryz.zeroValue4
  t5 := Tryz.underlying5
  a5 := Tryz.isAgg5
  z5 := Tryz.sizeOf5
  v5 := Tryz.zeroValue5
  t9 := Tryz.underlying9
  a9 := Tryz.isAgg9
  z9 := Tryz.sizeOf9
  v9 := Tryz.zeroValue9
  t46 := Tryz.underlying126
  a46 := Tryz.isAgg126
  z46 := Tryz.sizeOf126
  v46 := Tryz.zeroValue126
  t53 := Tryz.underlying97
  a53 := Tryz.isAgg97
  z53 := Tryz.sizeOf97
  v53 := Tryz.zeroValue97 }
theorem Tryz.bits_Len64 (x : Int) (w : World) (h0 : 0 ≤ x) (h1 : x ≤ 18446744073709551615) :
    Calls Tryz.prog 128 #[.int .u64 x] w fun e w' => e = .returned (.int .i64 (Lib.bitLen x.toNat)) ∧ w' = w := Any.bits_Len64 Tryz.lays129 x w h0 h1
def Tryz.lays317_ren : Go.Shelf.Ren := ⟨fun | 317 => 127 | n => n, fun | 3 => 3 | 46 => 126 | n => n, fun | n => n⟩
theorem Tryz.lays317 : Go.Proofs.Lays.n317 Tryz.prog Tryz.lays317_ren := {
  mixed := by kernel_rfl
  f317 := Tryz.func127.trans (congrArg some (by kernel_rfl))
  t3 := Tryz.underlying3
  a3 := Tryz.isAgg3
  z3 := Tryz.sizeOf3
  v3 := Tryz.zeroValue3
  t46 := Tryz.underlying126
  a46 := Tryz.isAgg126
  z46 := Tryz.sizeOf126
  v46 := Tryz.zeroValue126 }
open Go.Lib in
theorem Tryz.internal_strconv_log10Pow2 (x : Nat) (h : x ≤ 64) (w : World) :
    Calls Tryz.prog 127 #[.int .i64 x] w fun e w' => e = .returned (.int .i64 (Lib.l10 x)) ∧ w' = w := Any.internal_strconv_log10Pow2 Tryz.lays317 x h w
def Tryz.lays318_ren : Go.Shelf.Ren := ⟨fun | 318 => 129 | n => n, fun | 3 => 3 | 4 => 4 | n => n, fun | n => n⟩
theorem Tryz.lays318 : Go.Proofs.Lays.n318 Tryz.prog Tryz.lays318_ren := {
  mixed := by kernel_rfl
  f318 := Tryz.func129.trans (congrArg some (by kernel_rfl))
  t3 := Tryz.underlying3
  a3 := Tryz.isAgg3
  z3 := Tryz.sizeOf3
  v3 := Tryz.zeroValue3
  t4 := Tryz.underlying4
  a4 := Tryz.isAgg4
  z4 := Tryz.sizeOf4
  v4 := Tryz.zeroValue4 }
open Go.Lib in
theorem Tryz.internal_strconv_bool2_int (b : Bool) (w : World) :
    Calls Tryz.prog 129 #[.bool b] w fun e w' => e = .returned (.int .i64 (if b then 1 else 0)) ∧ w' = w := Any.internal_strconv_bool2_int Tryz.lays318 b w
def Tryz.lays283_ren : Go.Shelf.Ren := ⟨fun | 283 => 114 | n => n, fun | 3 => 3 | 9 => 9 | 4 => 4 | n => n, fun | n => n⟩
theorem Tryz.lays283 : Go.Proofs.Lays.n283 Tryz.prog Tryz.lays283_ren := {
  mixed := by kernel_rfl
  f283 := Tryz.func114.trans (congrArg some (by kernel_rfl))
  t3 := Tryz.underlying3
  a3 := Tryz.isAgg3
  z3 := Tryz.sizeOf3
  v3 := Tryz.zeroValue3
  t4 := Tryz.underlying4
  a4 := Tryz.isAgg4
  z4 := Tryz.sizeOf4
  v4 := Tryz.zeroValue4
  t9 := Tryz.underlying9
  a9 := Tryz.isAgg9
  z9 := Tryz.sizeOf9
  v9 := Tryz.zeroValue9 }
open Go.Lib in
theorem Tryz.internal_strconv_small (i : Nat) (h : i < 100) (w : World) :
    Calls Tryz.prog 114 #[.int .i64 i] w fun e w' => e = .returned (.string ⟨(Lib.decDigits i).toArray⟩) ∧ w' = w := Any.internal_strconv_small Tryz.lays283 i h w
def Tryz.lays285_ren : Go.Shelf.Ren := ⟨fun | 285 => 116 | n => n, fun | 37 => 80 | 53 => 97 | 3 => 3 | 4 => 4 | 51 => 160 | 9 => 9 | 5 => 5 | 0 => 0 | n => n, fun | n => n⟩
theorem Tryz.lays285 : Go.Proofs.Lays.n285 Tryz.prog Tryz.lays285_ren := {
  mixed := by kernel_rfl
  f285 := Tryz.func116.trans (congrArg some (by kernel_rfl))
  t0 := Tryz.underlying0
  a0 := Tryz.isAgg0
  z0 := Tryz.sizeOf0
  v0 := Tryz.zeroValue0
  t3 := Tryz.underlying3
  a3 := Tryz.isAgg3
  z3 := Tryz.sizeOf3
  v3 := Tryz.zeroValue3
  t4 := Tryz.underlying4
  a4 := Tryz.isAgg4
  z4 := Tryz.sizeOf4
  v4 := Tryz.zeroValue4
  t5 := Tryz.underlying5
  a5 := Tryz.isAgg5
  z5 := Tryz.sizeOf5
  v5 := Tryz.zeroValue5
  t9 := Tryz.underlying9
  a9 := Tryz.isAgg9
  z9 := Tryz.sizeOf9
  v9 := Tryz.zeroValue9
  t37 := Tryz.underlying80
  a37 := Tryz.isAgg80
  z37 := Tryz.sizeOf80
  v37 := Tryz.zeroValue80
  t51 := Tryz.underlying160
  a51 := Tryz.isAgg160
  z51 := Tryz.sizeOf160
  v51 := Tryz.zeroValue160
  t53 := Tryz.underlying97
  a53 := Tryz.isAgg97
  z53 := Tryz.sizeOf97
  v53 := Tryz.zeroValue97 }
open Go.RowKit Go.Sort Go.Lib in
theorem Tryz.internal_strconv_formatBase10 (blk off cap : Nat) (u : Nat) (d : Array UInt8) (w : World) (hH : Holds (fun (b : UInt8) => Value.int .u8 (b.toNat : Int)) w blk off d) (hu : u < 10 ^ d.size) (hu64 : u < 18446744073709551616) (hsz : d.size < 4611686018427387904) :
    Calls Tryz.prog 116 #[.slice (some ⟨blk, off, none⟩) d.size cap, .int .u64 u] w fun e w' =>
      e = .returned (.tuple #[]) ∧ ∃ (n v' : Nat) (dk : Array UInt8), w' = (putRow (fun (b : UInt8) => Value.int .u8 (b.toNat : Int)) w blk off dk).drewN n ∧ FmtInv d.size u 0 v' dk := Any.internal_strconv_formatBase10 Tryz.lays285 blk off cap u d w hH hu hu64 hsz
def Tryz.laysPu14_ren : Go.Shelf.Ren := ⟨fun | 14 => 71 | 16 => 92 | 17 => 93 | 19 => 104 | 20 => 105 | 21 => 106 | 22 => 107 | 23 => 108 | 24 => 109 | 25 => 122 | 27 => 124 | 26 => 123 | 28 => 134 | 29 => 137 | 30 => 114 | 31 => 115 | 32 => 116 | 33 => 117 | 35 => 128 | 34 => 127 | 36 => 129 | 37 => 130 | 38 => 131 | 39 => 135 | 40 => 136 | n => n, fun | 9 => 9 | 3 => 3 | 22 => 97 | 24 => 108 | 25 => 109 | 4 => 4 | 34 => 138 | 5 => 5 | 36 => 126 | 37 => 80 | 0 => 0 | 39 => 140 | 21 => 21 | 44 => 152 | 47 => 166 | 50 => 169 | 48 => 167 | 2 => 2 | 52 => 144 | 55 => 147 | 59 => 159 | 60 => 160 | 20 => 20 | 61 => 161 | 65 => 172 | 66 => 173 | 67 => 41 | n => n, fun | 0 => 2 | 1 => 3 | 2 => 6 | 3 => 7 | 4 => 8 | n => n⟩
theorem Tryz.laysPu14 : Go.Proofs.LaysPu.n14 Tryz.prog Tryz.laysPu14_ren := {
  mixed := by kernel_rfl
  f14 := Tryz.func71.trans (congrArg some (by kernel_rfl))
  f16 := Tryz.func92.trans (congrArg some (by kernel_rfl))
  f17 := Tryz.func93.trans (congrArg some (by kernel_rfl))
  f19 := Tryz.func104.trans (congrArg some (by kernel_rfl))
  f20 := Tryz.func105.trans (congrArg some (by kernel_rfl))
  f21 := Tryz.func106.trans (congrArg some (by kernel_rfl))
  f22 := Tryz.func107.trans (congrArg some (by kernel_rfl))
  f23 := Tryz.func108.trans (congrArg some (by kernel_rfl))
  f24 := Tryz.func109.trans (congrArg some (by kernel_rfl))
  f25 := Tryz.func122.trans (congrArg some (by kernel_rfl))
  f26 := Tryz.func123.trans (congrArg some (by kernel_rfl))
  f27 := Tryz.func124.trans (congrArg some (by kernel_rfl))
  f28 := Tryz.func134.trans (congrArg some (by kernel_rfl))
  f29 := Tryz.func137.trans (congrArg some (by kernel_rfl))
  f30 := Tryz.func114.trans (congrArg some (by kernel_rfl))
  f31 := Tryz.func115.trans (congrArg some (by kernel_rfl))
  f32 := Tryz.func116.trans (congrArg some (by kernel_rfl))
  f33 := Tryz.func117.trans (congrArg some (by kernel_rfl))
  f34 := Tryz.func127.trans (congrArg some (by kernel_rfl))
  f35 := Tryz.func128.trans (congrArg some (by kernel_rfl))
  f36 := Tryz.func129.trans (congrArg some (by kernel_rfl))
  f37 := Tryz.func130.trans (congrArg some (by kernel_rfl))
  f38 := Tryz.func131.trans (congrArg some (by kernel_rfl))
  f39 := Tryz.func135.trans (congrArg some (by kernel_rfl))
  f40 := Tryz.func136.trans (congrArg some (by kernel_rfl))
  t0 := Tryz.underlying0
  a0 := Tryz.isAgg0
  z0 := Tryz.sizeOf0
  v0 := Tryz.zeroValue0
  i0 := by kernel_rfl
  t2 := Tryz.underlying2
  a2 := Tryz.isAgg2
  z2 := Tryz.sizeOf2
  v2 := Tryz.zeroValue2
  i2 := by kernel_rfl
  t3 := Tryz.underlying3
  a3 := Tryz.isAgg3
  z3 := Tryz.sizeOf3
  v3 := Tryz.zeroValue3
  i3 := by kernel_rfl
  t4 := Tryz.underlying4
  a4 := Tryz.isAgg4
  z4 := Tryz.sizeOf4
  v4 := Tryz.zeroValue4
  i4 := by kernel_rfl
  t5 := Tryz.underlying5
  a5 := Tryz.isAgg5
  z5 := Tryz.sizeOf5
  v5 := Tryz.zeroValue5
  i5 := by kernel_rfl
  t9 := Tryz.underlying9
  a9 := Tryz.isAgg9
  z9 := Tryz.sizeOf9
  v9 := Tryz.zeroValue9
  i9 := by kernel_rfl
  t20 := Tryz.underlying20
  a20 := Tryz.isAgg20
  z20 := Tryz.sizeOf20
  v20 := Tryz.zeroValue20
  i20 := by kernel_rfl
  t21 := Tryz.underlying21
  a21 := Tryz.isAgg21
  z21 := Tryz.sizeOf21
  v21 := Tryz.zeroValue21
  i21 := by kernel_rfl
  t22 := Tryz.underlying97
  a22 := Tryz.isAgg97
  z22 := Tryz.sizeOf97
  v22 := Tryz.zeroValue97
  i22 := by kernel_rfl
  t24 := Tryz.underlying108
  a24 := Tryz.isAgg108
  z24 := Tryz.sizeOf108
  v24 := Tryz.zeroValue108
  i24 := by kernel_rfl
  t25 := Tryz.underlying109
  a25 := Tryz.isAgg109
  z25 := Tryz.sizeOf109
  v25 := Tryz.zeroValue109
  i25 := by kernel_rfl
  t34 := Tryz.underlying138
  a34 := Tryz.isAgg138
  z34 := Tryz.sizeOf138
  v34 := Tryz.zeroValue138
  i34 := by kernel_rfl
  c34 := by kernel_rfl
  t36 := Tryz.underlying126
  a36 := Tryz.isAgg126
  z36 := Tryz.sizeOf126
  v36 := Tryz.zeroValue126
  i36 := by kernel_rfl
  t37 := Tryz.underlying80
  a37 := Tryz.isAgg80
  z37 := Tryz.sizeOf80
  v37 := Tryz.zeroValue80
  i37 := by kernel_rfl
  t39 := Tryz.underlying140
  a39 := Tryz.isAgg140
  z39 := Tryz.sizeOf140
  v39 := Tryz.zeroValue140
  i39 := by kernel_rfl
  t44 := Tryz.underlying152
  a44 := Tryz.isAgg152
  z44 := Tryz.sizeOf152
  v44 := Tryz.zeroValue152
  i44 := by kernel_rfl
  t47 := Tryz.underlying166
  a47 := Tryz.isAgg166
  z47 := Tryz.sizeOf166
  v47 := Tryz.zeroValue166
  i47 := by kernel_rfl
  t48 := Tryz.underlying167
  a48 := Tryz.isAgg167
  z48 := Tryz.sizeOf167
  v48 := Tryz.zeroValue167
  i48 := by kernel_rfl
  t50 := Tryz.underlying169
  a50 := Tryz.isAgg169
  z50 := Tryz.sizeOf169
  v50 := Tryz.zeroValue169
  i50 := by kernel_rfl
  t52 := Tryz.underlying144
  a52 := Tryz.isAgg144
  z52 := Tryz.sizeOf144
  v52 := Tryz.zeroValue144
  i52 := by kernel_rfl
  t55 := Tryz.underlying147
  a55 := Tryz.isAgg147
  z55 := Tryz.sizeOf147
  v55 := Tryz.zeroValue147
  i55 := by kernel_rfl
  t59 := Tryz.underlying159
  a59 := Tryz.isAgg159
  z59 := Tryz.sizeOf159
  v59 := Tryz.zeroValue159
  i59 := by kernel_rfl
  t60 := Tryz.underlying160
  a60 := Tryz.isAgg160
  z60 := Tryz.sizeOf160
  v60 := Tryz.zeroValue160
  i60 := by kernel_rfl
  t61 := Tryz.underlying161
  a61 := Tryz.isAgg161
  z61 := Tryz.sizeOf161
  t65 := Tryz.underlying172
  a65 := Tryz.isAgg172
  z65 := Tryz.sizeOf172
  v65 := Tryz.zeroValue172
  i65 := by kernel_rfl
  t66 := Tryz.underlying173
  a66 := Tryz.isAgg173
  z66 := Tryz.sizeOf173
  v66 := Tryz.zeroValue173
  i66 := by kernel_rfl
  t67 := Tryz.underlying41
  a67 := Tryz.isAgg41
  z67 := Tryz.sizeOf41
  v67 := Tryz.zeroValue41
  i67 := by kernel_rfl
  g0 := by kernel_rfl
  m0 := by kernel_rfl
  g1 := by kernel_rfl
  m1 := by kernel_rfl
  g2 := by kernel_rfl
  m2 := by kernel_rfl
  g3 := by kernel_rfl
  m3 := by kernel_rfl
  g4 := by kernel_rfl
  m4 := by kernel_rfl }
open Go.RowKit in
theorem Tryz.strconv_ParseUint_10_at64_ok (s : ByteArray) (hmax : s.size ≤ 9223372036854775806) (u : Nat) (h : Lib.parseUintB 64 s.data.toList = .ok u) (w : World) :
    Calls Tryz.prog 71 #[.string s, .int .i64 10, .int .i64 64] w fun e w' => e = .returned (.tuple #[.int .u64 u, .nilIface]) ∧ (w' = w ∨ w' = Lib.bytesWorld w 5 s) := Any.strconv_ParseUint_10_at64_ok Tryz.laysPu14 s hmax u h w
def Tryz.lays219_ren : Go.Shelf.Ren := ⟨fun | 219 => 103 | 217 => 118 | 225 => 119 | 224 => 120 | 267 => 121 | 266 => 132 | 314 => 133 | n => n, fun | 9 => 9 | 3 => 3 | 4 => 4 | 5 => 5 | 46 => 126 | 146 => 164 | 51 => 160 | n => n, fun | 1 => 1 | n => n⟩
theorem Tryz.lays219 : Go.Proofs.Lays.n219 Tryz.prog Tryz.lays219_ren := {
  mixed := by kernel_rfl
  f217 := Tryz.func118.trans (congrArg some (by kernel_rfl))
  f219 := Tryz.func103.trans (congrArg some (by kernel_rfl))
  f224 := Tryz.func120.trans (congrArg some (by kernel_rfl))
  f225 := Tryz.func119.trans (congrArg some (by kernel_rfl))
  f266 := Tryz.func132.trans (congrArg some (by kernel_rfl))
  f267 := Tryz.func121.trans (congrArg some (by kernel_rfl))
  f314 := Tryz.func133.trans (congrArg some (by kernel_rfl))
  t3 := Tryz.underlying3
  a3 := Tryz.isAgg3
  z3 := Tryz.sizeOf3
  v3 := Tryz.zeroValue3
  t4 := Tryz.underlying4
  a4 := Tryz.isAgg4
  z4 := Tryz.sizeOf4
  v4 := Tryz.zeroValue4
  t5 := Tryz.underlying5
  a5 := Tryz.isAgg5
  z5 := Tryz.sizeOf5
  v5 := Tryz.zeroValue5
  t9 := Tryz.underlying9
  a9 := Tryz.isAgg9
  z9 := Tryz.sizeOf9
  v9 := Tryz.zeroValue9
  t46 := Tryz.underlying126
  a46 := Tryz.isAgg126
  z46 := Tryz.sizeOf126
  v46 := Tryz.zeroValue126
  t51 := Tryz.underlying160
  a51 := Tryz.isAgg160
  z51 := Tryz.sizeOf160
  v51 := Tryz.zeroValue160
  t146 := Tryz.underlying164
  a146 := Tryz.isAgg164
  z146 := Tryz.sizeOf164
  v146 := Tryz.zeroValue164
  g1 := by kernel_rfl }
open Go.RowKit Go.Lib in
theorem Tryz.stringslite_Index_one (s : ByteArray) (c : UInt8) (w : World) :
    Calls Tryz.prog 103 #[.string s, .string ⟨#[c]⟩] w fun e w' => e = .returned (.int .i64 (Lib.indexByte s.data.toList c)) ∧ w' = w := Any.stringslite_Index_one Tryz.lays219 s c w
end Go.Proofs
/- The walks of strconv.FormatUint at base 10, after the kit's worked FormatInt. -/
set_option maxRecDepth 100000
namespace Go.Proofs.YthahgablbdfodaaGreatDoor
open Go.RowKit Go.Lat Go.Shelf Go.Sort Go.Lib

/-- The table of the powers of 10 lies in the world. -/
def Pow (w : World) : Prop := 6 < w.heap.size ∧ ∀ q : Nat, q < 20 → w.cell? ⟨6, q, none⟩ = some (.int .u64 ((10 ^ q : Nat) : Int))

theorem Pow.upd {w w' : World} {S : Nat → Prop} (h : Pow w) (u : Upd w w' S) (hn : ¬ S 6) : Pow w' :=
  ⟨Nat.lt_of_lt_of_le h.1 u.size, fun q hq => (u.cell _ q h.1 hn).trans (h.2 q hq)⟩

set_option maxHeartbeats 2000000 in
theorem numDigits_any (w : World) (u : Nat) (h1 : 1 ≤ u) (h2 : u < 18446744073709551616) (ht : Pow w) :
    Calls Tryz.prog 115 #[.int .u64 u] w fun e w' => e = .returned (.int .i64 (Lib.nDigits u)) ∧ w' = w := by
  obtain ⟨hnd, h19⟩ := Lib.numDigits_eq u h1 h2
  have hL : Lib.bitLen u ≤ 64 := Lib.bitLen_le u 64 (Nat.le_refl _) h2
  have hcell := ht.2 (Lib.l10 (Lib.bitLen u)) (by omega)
  have hto : ((u : Int)).toNat = u := by omega
  have A := fun w => Tryz.bits_Len64 (u : Int) w (by omega) (by omega)
  rw [hto] at A
  have B := fun w => Tryz.internal_strconv_log10Pow2 (Lib.bitLen u) hL w
  generalize hq : Lib.l10 (Lib.bitLen u) = q at hnd h19 hcell B
  generalize hT : 10 ^ q = T at hnd hcell
  have h20 : q < 20 := by omega
  have Hnd := Lib.hid hnd
  clear hnd hq hT hto ht
  go_enter Tryz.func115, Tryz.ntmps115
  go_wp2_with fail
  refine Calls.mono (A _) ?_
  rintro e w1 ⟨rfl, rfl⟩
  go_wp2_with fail
  refine Calls.mono (B _) ?_
  rintro e w2 ⟨rfl, rfl⟩
  go_wp2_with fail
  refine Calls.mono (Tryz.internal_strconv_bool2_int _ _) ?_
  rintro e w3 ⟨rfl, rfl⟩
  go_wp2_with fail
  all_goals go_ret
  all_goals (
    refine ⟨?_, rfl⟩
    have hnd := Hnd.out
    congr 2
    split at hnd <;> simp_all <;> omega)

set_option maxHeartbeats 6400000 in
theorem FormatUintI_any (w : World) (u : Nat) (h2 : u < 18446744073709551616) (ht : Pow w) :
    Calls Tryz.prog 101 #[.int .u64 u, .int .i64 10] w fun e w' => e = .returned (.string ⟨(Lib.decDigits u).toArray⟩) ∧ Upd w w' (fun _ => False) := by
  by_cases hs : u < 100
  · have d1 : decide ((u : Int) < 100) = true := by simp; omega
    have d2 : decide (u < 100) = true := by simpa using hs
    have w1 : IntKind.i64.wrap (u : Int) = (u : Int) := IntWalk.i64_in _ (by omega)
    go_enter Tryz.func101, Tryz.ntmps101
    go_wp2_with fail
    refine Calls.mono (Tryz.internal_strconv_small u hs _) ?_
    rintro e w' ⟨rfl, rfl⟩
    go_wp2_with fail
    go_ret
    exact ⟨rfl, Upd.refl _ _⟩
  · have d1 : decide ((u : Int) < 100) = false := by simp; omega
    have d2 : decide (u < 100) = false := by simpa using hs
    have hu1 : 1 ≤ u := by omega
    have hnd20 : Lib.nDigits u ≤ 20 := by have := Lib.numDigits_eq u hu1 h2; split at this <;> omega
    have hb3 : Lib.nDigits u ≤ 24 := by omega
    have hal : Tryz.prog.arrayLen 144 = 24 := by simp [Program.arrayLen, Tryz.underlying144]
    have hsl1 : ∀ W, (Instr.sliceAt 144 (.pointer (some ⟨w.heap.size, 0, none⟩)) none (some (.int .i64 (Lib.nDigits u : Int))) none).run Tryz.prog W = .ok (.slice (some ⟨w.heap.size, 0, none⟩) (Lib.nDigits u) 24) W := fun W => by
      rw [run_sliceAt_array_h W 144 ⟨w.heap.size, 0, none⟩ (by simp [Program.arrayLen, Program.elem, Tryz.underlying144]) .i64 (Lib.nDigits u : Int) (by omega) (by rw [hal]; omega)]
      go_simp
    have hH0 := Lib.holds_zero0 w 144 (Lib.nDigits u) (by omega)
    have hfmt := Tryz.internal_strconv_formatBase10 w.heap.size 0 24 u (Array.replicate (Lib.nDigits u) 0) (w.alloc (.cells Lib.zeros24 144)) hH0 (by rw [Array.size_replicate]; exact Lib.lt_pow_nDigits u) h2 (by rw [Array.size_replicate]; omega)
    rw [Array.size_replicate] at hfmt
    have HH0 := Lib.hid hH0
    have hN := numDigits_any (w.alloc (.cells Lib.zeros24 144)) u hu1 h2 (ht.upd ((Upd.refl w (fun _ => False)).alloc _) id)
    clear hH0 hal ht
    go_enter Tryz.func101, Tryz.ntmps101
    go_wp2_with fail
    refine Calls.mono hN ?_
    rintro e w' ⟨rfl, rfl⟩
    go_wp2_with fail
    refine Calls.mono hfmt ?_
    rintro e w' ⟨rfl, k, v', dk, rfl, hF⟩
    have hcv : (convert 80 9 (.slice (some ⟨w.heap.size, 0, none⟩) (Lib.nDigits u) 24)).run Tryz.prog ((putRow (fun (b : UInt8) => Value.int .u8 (b.toNat : Int)) (w.alloc (.cells Lib.zeros24 144)) w.heap.size 0 dk).drewN k) = .ok (.string ⟨(Lib.decDigits u).toArray⟩) ((putRow (fun (b : UInt8) => Value.int .u8 (b.toNat : Int)) (w.alloc (.cells Lib.zeros24 144)) w.heap.size 0 dk).drewN k) := by
      have h := run_convert_bytes_back (P := Tryz.prog) ((putRow (fun (b : UInt8) => Value.int .u8 (b.toNat : Int)) (w.alloc (.cells Lib.zeros24 144)) w.heap.size 0 dk).drewN k) 80 9 5 ⟨w.heap.size, 0, none⟩ 24 (Lib.decDigits u) Tryz.underlying80 Tryz.underlying5 Tryz.underlying9 (fun j hj => by
        rw [Lib.row_is_numeral hF j hj, Lib.add_plain, World.cell?_drewN]
        exact cell?_putRow (fun (b : UInt8) => Value.int .u8 (b.toNat : Int)) _ w.heap.size 0 _ dk HH0.out (by rw [hF.size, Array.size_replicate]) j (by rw [hF.size]; rw [Lib.decDigits_length] at hj; exact hj))
      rw [Lib.decDigits_length] at h
      exact h
    go_wp2_with fail
    go_ret
    refine ⟨rfl, Upd.of_below ?_ _⟩
    rw [alloc_eq_grow]
    obtain ⟨os', _, e⟩ := putRow_grow_new (fun (b : UInt8) => Value.int .u8 (b.toNat : Int)) w #[.cells Lib.zeros24 144] w.heap.size 0 dk (Nat.le_refl _)
    rw [e]
    exact below_grow _ _ (Nat.le_refl _) _ _
end Go.Proofs.YthahgablbdfodaaGreatDoor
/- The walk of fixed.Num.Text. -/
set_option maxRecDepth 100000
namespace Go.Proofs.YthahgablbdfodaaGreatDoor
open Go.RowKit Go.Lat Go.Shelf Go.Sort Go.Lib

theorem FormatUint_any (w : World) (u : Nat) (h2 : u < 18446744073709551616) (ht : Pow w) :
    Calls Tryz.prog 87 #[.int .u64 u, .int .i64 10] w fun e w' => e = .returned (.string ⟨(Lib.decDigits u).toArray⟩) ∧ Upd w w' (fun _ => False) := by
  have h := fun w ht => FormatUintI_any w u h2 ht
  generalize (⟨(Lib.decDigits u).toArray⟩ : ByteArray) = r at *
  go_enter Tryz.func87, Tryz.ntmps87
  go_wp2_with fail
  refine Calls.mono (h _ ht) ?_
  rintro e w' ⟨rfl, hu⟩
  go_wp2_with fail
  go_ret
  exact ⟨rfl, hu⟩

theorem list_size (l : List UInt8) : (⟨l.toArray⟩ : ByteArray).size = l.length := rfl
theorem trimRight_le (l : List UInt8) (c : UInt8) : (trimRightB l c).length ≤ l.length := by
  have h := (List.dropWhile_suffix (l := l.reverse) (· == c)).length_le
  unfold trimRightB
  simpa using h
theorem nDigits_step (u : Nat) : nDigits u = if u < 10 then 1 else nDigits (u / 10) + 1 := by
  rw [nDigits]
  by_cases h : u < 10
  · rw [dif_pos h, if_pos h]
  · rw [dif_neg h, if_neg h]
theorem nDigits5 (u : Nat) (h1 : 10000 ≤ u) (h2 : u < 20000) : nDigits u = 5 := by
  rw [nDigits_step, if_neg (by omega), nDigits_step, if_neg (by omega), nDigits_step, if_neg (by omega), nDigits_step, if_neg (by omega), nDigits_step, if_pos (by omega)]
theorem nDigits_le20 (u : Nat) (h : u < 18446744073709551616) : nDigits u ≤ 20 := by
  rcases Nat.eq_zero_or_pos u with e | e
  · rw [e, nDigits_step, if_pos (by omega)]; omega
  · have := Lib.numDigits_eq u e h
    split at this <;> omega

theorem i64_signed (s : Bool) (n : Nat) (hn : n ≤ 9000000000000000000) : okNum (if s then -(n : Int) else n) = true := by
  cases s <;> simp [okNum] <;> omega

set_option maxHeartbeats 3200000 in
theorem Text_whole (w : World) (s : Bool) (n : Nat) (hn : n ≤ 9000000000000000000) (h0 : s = true → 0 < n) (hr : n % 10000 = 0) (ht : Pow w) :
    Calls Tryz.prog 60 #[.int .i64 (if s then -(n : Int) else n)] w fun e w' => (∃ t, e = .returned (.string t) ∧ t.data.toList = (if s then [45] else []) ++ decDigits (n / 10000)) ∧ Upd w w' (fun _ => False) := by
  have hg := fixgood_any (w.alloc (.cells #[.int .i64 (if s then -(n : Int) else n)] 25)) w.heap.size _ (cells1 (heap_alloc_new w _))
  rw [i64_signed s n hn] at hg
  have hS := fun w => size_any w s n hn h0
  have hF := fun w ht => FormatUint_any w (n / 10000) (by omega) ht
  generalize (if s then -(n : Int) else (n : Int)) = v at *
  obtain ⟨m, hm⟩ : ∃ m, n / 10000 = m := ⟨_, rfl⟩
  have e1 : (n : Int) / 10000 = (m : Int) := by omega
  have e2 : (n : Int) % 10000 = 0 := by omega
  rw [hm] at hF ⊢
  obtain ⟨r, hr2⟩ : ∃ r, (⟨(Lib.decDigits m).toArray⟩ : ByteArray) = r := ⟨_, rfl⟩
  rw [hr2] at hF
  have hrl : r.size ≤ 20 := by
    rw [← hr2, list_size, decDigits_length]
    exact nDigits_le20 m (by omega)
  have hz1 : ¬ 9223372036854775807 < 1 + r.size := by omega
  have HR := hide hr2
  clear hr2 hm hrl
  cases s with
  | false =>
    go_enter Tryz.func60, Tryz.ntmps60
    go_wp2_with fail
    refine Calls.mono hg ?_
    rintro e w1 ⟨rfl, rfl⟩
    go_wp2_with fail
    refine Calls.mono (hS _) ?_
    rintro e w2 ⟨rfl, rfl⟩
    go_wp2_with fail
    refine Calls.mono (hF _ (ht.upd ((Upd.refl w (fun _ => False)).alloc _) id)) ?_
    rintro e w3 ⟨rfl, u3⟩
    go_wp2_with fail
    go_ret
    exact ⟨⟨_, rfl, by rw [← HR.out]⟩, ((Upd.refl w _).alloc _).then u3 (fun _ _ => id)⟩
  | true =>
    go_enter Tryz.func60, Tryz.ntmps60
    go_wp2_with fail
    refine Calls.mono hg ?_
    rintro e w1 ⟨rfl, rfl⟩
    go_wp2_with fail
    refine Calls.mono (hS _) ?_
    rintro e w2 ⟨rfl, rfl⟩
    go_wp2_with fail
    refine Calls.mono (hF _ (ht.upd ((Upd.refl w (fun _ => False)).alloc _) id)) ?_
    rintro e w3 ⟨rfl, u3⟩
    go_wp2_with fail
    go_ret
    refine ⟨⟨_, rfl, ?_⟩, ((Upd.refl w _).alloc _).then u3 (fun _ _ => id)⟩
    rw [← HR.out]
    simp

set_option maxHeartbeats 3200000 in
theorem Text_part (w : World) (s : Bool) (n : Nat) (hn : n ≤ 9000000000000000000) (h0 : s = true → 0 < n) (hr : n % 10000 ≠ 0) (ht : Pow w) :
    Calls Tryz.prog 60 #[.int .i64 (if s then -(n : Int) else n)] w fun e w' =>
      (∃ t, e = .returned (.string t) ∧ t.data.toList = (if s then [45] else []) ++ (decDigits (n / 10000) ++ 46 :: trimRightB ((decDigits (10000 + n % 10000)).drop 1) 48)) ∧ Upd w w' (fun _ => False) := by
  have hg := fixgood_any (w.alloc (.cells #[.int .i64 (if s then -(n : Int) else n)] 25)) w.heap.size _ (cells1 (heap_alloc_new w _))
  rw [i64_signed s n hn] at hg
  have hS := fun w => size_any w s n hn h0
  have hF := fun w ht => FormatUint_any w (n / 10000) (by omega) ht
  have hF2 := fun w ht => FormatUint_any w (10000 + n % 10000) (by omega) ht
  generalize (if s then -(n : Int) else (n : Int)) = v at *
  obtain ⟨m, hm⟩ : ∃ m, n / 10000 = m := ⟨_, rfl⟩
  obtain ⟨k, hk⟩ : ∃ k, n % 10000 = k := ⟨_, rfl⟩
  obtain ⟨k2, hk2⟩ : ∃ k2, 10000 + k = k2 := ⟨_, rfl⟩
  have e1 : (n : Int) / 10000 = (m : Int) := by omega
  have e2 : (n : Int) % 10000 = (k : Int) := by omega
  have e3 : (10000 : Int) + (k : Int) = (k2 : Int) := by omega
  have hkb : k < 10000 := by omega
  have d1 : decide (0 < (k : Int)) = true := by simp; omega
  have d2 : decide (0 < k) = true := by simp; omega
  have w1 : IntKind.u64.wrap (k2 : Int) = (k2 : Int) := by rw [IntKind.wrap_u64]; omega
  rw [hm] at hF ⊢
  rw [hk, hk2] at hF2 ⊢
  have hlen : (decDigits k2).length = 5 := by
    have g5 := nDigits5 k2 (by omega) (by omega)
    rw [decDigits_length, g5]
  obtain ⟨r, hr2⟩ : ∃ r, (⟨(Lib.decDigits m).toArray⟩ : ByteArray) = r := ⟨_, rfl⟩
  obtain ⟨t, ht2⟩ : ∃ t, (⟨(Lib.decDigits k2).toArray⟩ : ByteArray) = t := ⟨_, rfl⟩
  have htl : t.size = 5 := by rw [← ht2, list_size]; exact hlen
  have hT := fun w => Tryz.strings_TrimRight_one (t.extract 1 5) 48 (by decide) w (by simp; omega)
  have hte : (t.extract 1 5).data.toList = (decDigits k2).drop 1 := by
    rw [← ht2]
    simp [ByteArray.data_extract]
    rw [List.take_of_length_le (by simp; omega)]
  rw [hte] at hT
  obtain ⟨y, hy⟩ : ∃ y, (⟨(trimRightB ((decDigits k2).drop 1) 48).toArray⟩ : ByteArray) = y := ⟨_, rfl⟩
  have hyl : y.size ≤ 5 := by
    rw [← hy, list_size]
    have := trimRight_le ((decDigits k2).drop 1) 48
    rw [List.length_drop, hlen] at this
    omega
  rw [hy] at hT
  have hrl : r.size ≤ 20 := by
    rw [← hr2, list_size, decDigits_length]
    exact nDigits_le20 m (by omega)
  have hz1 : ¬ 9223372036854775807 < 1 + y.size := by omega
  have hz2 : ¬ 9223372036854775807 < r.size + (1 + y.size) := by omega
  have hz3 : ¬ 9223372036854775807 < 1 + (r.size + (1 + y.size)) := by omega
  have HY := hide hy
  rw [hr2] at hF
  rw [ht2] at hF2
  have HR := hide hr2
  have HT := hide ht2
  clear hr2 hm hk ht2 hr hk2 hy hyl hrl hte
  cases s with
  | false =>
    go_enter Tryz.func60, Tryz.ntmps60
    go_wp2_with fail
    refine Calls.mono hg ?_
    rintro e w1 ⟨rfl, rfl⟩
    go_wp2_with fail
    refine Calls.mono (hS _) ?_
    rintro e w2 ⟨rfl, rfl⟩
    go_wp2_with fail
    refine Calls.mono (hF _ (ht.upd ((Upd.refl w (fun _ => False)).alloc _) id)) ?_
    rintro e w3 ⟨rfl, u3⟩
    go_wp2_with fail
    refine Calls.mono (hF2 _ ((ht.upd ((Upd.refl w (fun _ => False)).alloc _) id).upd u3 id)) ?_
    rintro e w4 ⟨rfl, u4⟩
    go_wp2_with fail
    refine Calls.mono (hT _) ?_
    rintro e w5 ⟨rfl, rfl⟩
    go_wp2_with fail
    go_ret
    refine ⟨⟨_, rfl, ?_⟩, (((Upd.refl w _).alloc _).then u3 (fun _ _ => id)).then u4 (fun _ _ => id)⟩
    rw [← HR.out, ← HY.out]
    simp
  | true =>
    go_enter Tryz.func60, Tryz.ntmps60
    go_wp2_with fail
    refine Calls.mono hg ?_
    rintro e w1 ⟨rfl, rfl⟩
    go_wp2_with fail
    refine Calls.mono (hS _) ?_
    rintro e w2 ⟨rfl, rfl⟩
    go_wp2_with fail
    refine Calls.mono (hF _ (ht.upd ((Upd.refl w (fun _ => False)).alloc _) id)) ?_
    rintro e w3 ⟨rfl, u3⟩
    go_wp2_with fail
    refine Calls.mono (hF2 _ ((ht.upd ((Upd.refl w (fun _ => False)).alloc _) id).upd u3 id)) ?_
    rintro e w4 ⟨rfl, u4⟩
    go_wp2_with fail
    refine Calls.mono (hT _) ?_
    rintro e w5 ⟨rfl, rfl⟩
    go_wp2_with fail
    go_ret
    refine ⟨⟨_, rfl, ?_⟩, (((Upd.refl w _).alloc _).then u3 (fun _ _ => id)).then u4 (fun _ _ => id)⟩
    rw [← HR.out, ← HY.out]
    simp
end Go.Proofs.YthahgablbdfodaaGreatDoor
/- The walks of strings.Cut at one byte (after the kit's worked one), of fixed.run at digits, and of fixed.Parse at one text. -/
set_option maxRecDepth 100000
namespace Go.Proofs.YthahgablbdfodaaGreatDoor
open Go.RowKit Go.Lat Go.Shelf Go.Sort Go.Lib

theorem indexB_one (s : ByteArray) (c : UInt8) : indexB s ⟨#[c]⟩ = indexByte s.data.toList c := index_one s.data.toList c

set_option maxHeartbeats 2000000 in
theorem CutI_any (w : World) (s : ByteArray) (c : UInt8) (hs : s.size ≤ 9223372036854775806) : Calls Tryz.prog 91 #[.string s, .string ⟨#[c]⟩] w fun e w' =>
    e = .returned (.tuple #[.string ⟨(Lib.cut s.data.toList [c]).1.toArray⟩, .string ⟨(Lib.cut s.data.toList [c]).2.1.toArray⟩, .bool (Lib.cut s.data.toList [c]).2.2]) ∧ ∃ n, w' = w.drewN n := by
  have hI := fun w => Tryz.stringslite_Index_one s c w
  have e0 : (⟨#[c]⟩ : ByteArray).data.toList = [c] := rfl
  have z0 : (⟨#[c]⟩ : ByteArray).size = 1 := rfl
  rcases Lib.indexB_cases s ⟨#[c]⟩ with hix | ⟨i, hix, hroom⟩
  · obtain ⟨e1, e2, e3⟩ := Lib.cutB_miss s ⟨#[c]⟩ hix
    rw [e0] at e1 e2 e3
    rw [e1, e2, e3]
    rw [indexB_one] at hix
    rw [hix] at hI
    clear e0 e1 e2 e3
    go_enter Tryz.func91, Tryz.ntmps91
    go_wp2_with fail
    refine Calls.mono (hI _) ?_
    rintro e w' ⟨rfl, rfl⟩
    go_wp2_with fail
    go_ret3
    exact ⟨rfl, 0, rfl⟩
  · obtain ⟨e1, e2, e3⟩ := Lib.cutB_hit s ⟨#[c]⟩ i hix
    rw [e0] at e1 e2 e3
    rw [e1, e2, e3]
    rw [indexB_one] at hix
    rw [hix] at hI
    rw [z0] at hroom ⊢
    have c1 : (0 : Int) ≤ ↑i := by omega
    have c2 : (↑i : Int) ≤ ↑s.size := by omega
    have c3 : (0 : Int) ≤ ↑i + 1 := by omega
    have c4 : (↑i + 1 : Int) ≤ ↑s.size := by omega
    have c5 : IntKind.i64.wrap (↑i + 1) = ↑i + 1 := IntWalk.i64_in _ (by omega)
    have c6 : (↑i + 1 : Int).toNat = i + 1 := by omega
    have mixed := Tryz.lays219.mixed
    clear e0 e1 e2 e3
    go_enter Tryz.func91, Tryz.ntmps91
    go_wp2_with fail
    refine Calls.mono (hI _) ?_
    rintro e w' ⟨rfl, rfl⟩
    go_wp2_with fail
    go_region_o
    go_wp2_with fail
    go_ret3
    exact ⟨rfl, 1, rfl⟩

theorem Cut_any (w : World) (s : ByteArray) (c : UInt8) (hs : s.size ≤ 9223372036854775806) : Calls Tryz.prog 69 #[.string s, .string ⟨#[c]⟩] w fun e w' =>
    e = .returned (.tuple #[.string ⟨(Lib.cut s.data.toList [c]).1.toArray⟩, .string ⟨(Lib.cut s.data.toList [c]).2.1.toArray⟩, .bool (Lib.cut s.data.toList [c]).2.2]) ∧ ∃ n, w' = w.drewN n := by
  have h := fun w => CutI_any w s c hs
  generalize (⟨(Lib.cut s.data.toList [c]).1.toArray⟩ : ByteArray) = a at *
  generalize (⟨(Lib.cut s.data.toList [c]).2.1.toArray⟩ : ByteArray) = b at *
  generalize (Lib.cut s.data.toList [c]).2.2 = d at *
  go_enter Tryz.func69, Tryz.ntmps69
  go_wp2_with fail
  refine Calls.mono (h _) ?_
  rintro e w' ⟨rfl, n, rfl⟩
  go_wp2_with fail
  go_ret3
  exact ⟨rfl, n, rfl⟩

/-- The digits. -/
def dgs : List UInt8 := [48, 49, 50, 51, 52, 53, 54, 55, 56, 57]

theorem run_good (w : World) (s : ByteArray) (h1 : 1 ≤ s.size) (h2 : s.size ≤ 18) (ht : trimS s.data.toList dgs = []) :
    Calls Tryz.prog 70 #[.string s] w fun e w' => e = .returned (.bool true) ∧ Upd w w' (fun _ => False) := by
  have hT := fun w => Any.strings_Trim_laid Tryz.lays160 (by kernel_rfl) s ⟨#[48, 49, 50, 51, 52, 53, 54, 55, 56, 57]⟩ w (by omega) (by decide) (ascii_of_all (by decide))
  have e1 : (⟨(Lib.trimS s.data.toList (⟨#[48, 49, 50, 51, 52, 53, 54, 55, 56, 57]⟩ : ByteArray).data.toList).toArray⟩ : ByteArray) = ⟨#[]⟩ := by
    rw [show (⟨#[48, 49, 50, 51, 52, 53, 54, 55, 56, 57]⟩ : ByteArray).data.toList = dgs from rfl, ht]
  rw [e1] at hT
  change ∀ w, Calls Tryz.prog 56 _ _ _ at hT
  have d1 : decide ((1 : Int) ≤ (s.size : Int)) = true := by simp; omega
  have d2 : decide ((s.size : Int) ≤ 18) = true := by simp; omega
  have d3 : decide (1 ≤ s.size) = true := by simpa using h1
  have d4 : decide (s.size ≤ 18) = true := by simpa using h2
  clear ht e1
  go_enter Tryz.func70, Tryz.ntmps70
  go_wp2_with fail
  refine Calls.mono (hT _) ?_
  rintro e w1 ⟨rfl, hB⟩
  go_wp2_with fail
  go_ret
  exact ⟨rfl, Upd.of_below hB _⟩

set_option maxHeartbeats 3200000 in
theorem Parse_one (w : World) : Calls Tryz.prog 55 #[.string ⟨#[49, 46, 50, 51]⟩] w fun e w' => e = .returned (.tuple #[.int .i64 12300, .int .i64 0]) ∧ Upd w w' (fun _ => False) := by
  have h1 : ∀ w, Calls Tryz.prog 68 #[.string ⟨#[49, 46, 50, 51]⟩, .string ⟨#[45]⟩] w fun e w' => e = .returned (.tuple #[.string ⟨#[49, 46, 50, 51]⟩, .bool false]) ∧ w' = w := fun w => Tryz.strings_CutPrefix ⟨#[49, 46, 50, 51]⟩ ⟨#[45]⟩ w
  have h2 : ∀ w, Calls Tryz.prog 69 #[.string ⟨#[49, 46, 50, 51]⟩, .string ⟨#[46]⟩] w fun e w' => e = .returned (.tuple #[.string ⟨#[49]⟩, .string ⟨#[50, 51]⟩, .bool true]) ∧ ∃ n, w' = w.drewN n := fun w => Cut_any w ⟨#[49, 46, 50, 51]⟩ 46 (by decide)
  have h3 := fun w => run_good w ⟨#[49]⟩ (by decide) (by decide) (by decide)
  have h4 := fun w => run_good w ⟨#[50, 51]⟩ (by decide) (by decide) (by decide)
  have h5 := fun w => Tryz.strconv_ParseUint_10_at64_ok ⟨#[49]⟩ (by decide) 1 (by decide) w
  have h6 := fun w => Tryz.strconv_ParseUint_10_at64_ok ⟨#[50, 51, 48, 48, 48]⟩ (by decide) 23000 (by decide) w
  go_enter Tryz.func55, Tryz.ntmps55
  go_wp2_with fail
  refine Calls.mono (h1 _) ?_
  rintro e w1 ⟨rfl, rfl⟩
  go_wp2_with fail
  refine Calls.mono (h2 _) ?_
  rintro e w2 ⟨rfl, n, rfl⟩
  go_wp2_with fail
  refine Calls.mono (h3 _) ?_
  rintro e w3 ⟨rfl, u3⟩
  go_wp2_with fail
  refine Calls.mono (h4 _) ?_
  rintro e w4 ⟨rfl, u4⟩
  go_wp2_with fail
  refine Calls.mono (h5 _) ?_
  rintro e w5 ⟨rfl, u5⟩
  go_wp2_with fail
  refine Calls.mono (h6 _) ?_
  rintro e w6 ⟨rfl, u6⟩
  go_wp2_with fail
  go_ret2
  refine ⟨rfl, ?_⟩
  have b5 : Upd w4 w5 (fun _ => False) := by
    rcases u5 with rfl | rfl
    · exact Upd.refl _ _
    · exact Upd.of_below (Lib.bytesWorld_below _ _ _) _
  have b6 : Upd w5 w6 (fun _ => False) := by
    rcases u6 with rfl | rfl
    · exact Upd.refl _ _
    · exact Upd.of_below (Lib.bytesWorld_below _ _ _) _
  exact ((((Upd.refl w1 _).drewN n).then u3 (fun _ _ => id)).then u4 (fun _ _ => id)).then (b5.then b6 (fun _ _ => id)) (fun _ _ => id)
end Go.Proofs.YthahgablbdfodaaGreatDoor
