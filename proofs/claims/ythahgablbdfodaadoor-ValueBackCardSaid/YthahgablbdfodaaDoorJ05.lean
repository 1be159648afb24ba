/- The walk of the reference's product of digits. -/
import Derived.Test.YthahgablbdfodaaDoorJ04
import Derived.Lib.ParseIntB
import Derived.Lib.CutLaws
import Derived.Lib.IndexLaws
import Derived.Lib.IndexBytes
import Derived.Lib.SlTrimSet
import Derived.Shelf.Strings.Trim
import Derived.Shelf.Small.Utf8
import Derived.Shelf.Small.Strs
import Derived.Shelf.Small.Wraps
import Derived.Shelf.Strconv.Itoa0
import Derived.Shelf.Strconv.Itoa1
import Derived.Shelf.LaysM
import Derived.Shelf.Strconv.Itoa2
import Derived.Shelf.Strconv.Itoa3
import Derived.Shelf.Strconv.Clone
import Derived.Shelf.Strconv.Lower
import Derived.Shelf.Strconv.ParseUint10
import Derived.Shelf.Strconv.ParseUint10Empty
import Derived.Shelf.Strconv.ParseUintEmpty
import Derived.Shelf.Strconv.ParseUint10b64
import Derived.Shelf.Strconv.ParseUint10b32
import Derived.Shelf.Strconv.ParseUint10b16
import Derived.Shelf.Strconv.ParseUint10b8
import Derived.Shelf.Strconv.ParseUint10At
import Derived.Ground.MpProg
import Derived.Shelf.Pu.ParseUintPublic10
import Derived.Shelf.Strings.Search1
import Derived.Shelf.Strings.Search2
import Derived.Shelf.Strings.Cut
import Derived.Shelf.Strings.Shaped
import Derived.Shelf.Strings.Prefix
import Derived.Shelf.Unicode.Decode
import Derived.Shelf.Strings.Runes
import Derived.Shelf.Strings.AsciiSet
import Derived.Shelf.Unicode.DecodeSlow
import Derived.Shelf.Unicode.DecodeAny
import Derived.Shelf.Unicode.DecodeLast
import Derived.Test.YthahgablbdfodaaDoorProg
import Derived.Test.YthahgablbdfodaaDoorJ01
import Derived.Shelf.Strings.SlTrimAscii
import Derived.Lib.AppendIntMem
import Derived.Lib.ItoaMem
import Derived.Lib.Walk
import Derived.WalkKit
import Derived.BigCall
import Derived.BigGuard
/- The walk of the reference's product of digits. -/
set_option maxRecDepth 100000
namespace Go.Proofs.YthahgablbdfodaaDoor
open Go.RowKit Go.Lat

/-- What stands in the array behind i rows and k places of the next one. -/
structure Acc (a b o : List Nat) (i k : Nat) : Prop where
  len : o.length = a.length + b.length + 1
  v : val o = val (a.take i) * val b + a.getD i 0 * val (b.take k) * 10 ^ i
  le : ∀ d ∈ o, d ≤ 81 * (i * b.length + k)

theorem Acc.step {a b o : List Nat} {i k : Nat} (h : Acc a b o i k) (na : Norm a) (nb : Norm b) (hi : i < a.length) (hk : k < b.length) : Acc a b (o.set (i + k) (o.getD (i + k) 0 + a.getD i 0 * b.getD k 0)) i (k + 1) := by
  have hl := h.len
  refine ⟨by simp [hl], ?_, ?_⟩
  · rw [val_set o (i + k) _ (by omega), h.v, val_take_succ b k hk, Nat.pow_add]
    generalize val (a.take i) * val b = z
    generalize a.getD i 0 = x
    generalize val (b.take k) = y
    generalize b.getD k 0 = u
    rw [Nat.mul_add, Nat.add_mul, Nat.add_assoc]
    congr 2
    simp only [Nat.mul_assoc, Nat.mul_comm, Nat.mul_left_comm]
  · refine mem_set_le _ _ _ _ (fun d hd => by have := h.le d hd; rw [show 81 * (i * b.length + (k + 1)) = 81 * (i * b.length + k) + 81 from by omega]; omega) ?_
    have h1 := h.le _ (getD_mem o (i + k) (by omega))
    have h2 := Nat.mul_le_mul (dgs_le a na i) (dgs_le b nb k)
    omega
theorem Acc.row {a b o : List Nat} {i : Nat} (h : Acc a b o i b.length) (hi : i < a.length) : Acc a b o (i + 1) 0 := by
  refine ⟨h.len, ?_, ?_⟩
  · rw [h.v, val_take_succ a i hi, List.take_of_length_le (Nat.le_refl _), Nat.add_mul]
    simp only [List.take_zero, val, Nat.mul_zero, Nat.zero_mul, Nat.add_zero]
    congr 1
    rw [Nat.mul_assoc, Nat.mul_comm (val b), ← Nat.mul_assoc]
  · intro d hd
    have := h.le d hd
    rw [show (i + 1) * b.length + 0 = i * b.length + b.length from by rw [Nat.add_zero, Nat.succ_mul]]
    exact this
theorem Acc.start (a b : List Nat) : Acc a b (List.replicate (a.length + b.length + 1) 0) 0 0 := by
  refine ⟨by simp, ?_, ?_⟩
  · rw [val_zero _ (fun d hd => List.eq_of_mem_replicate hd)]
    simp [val]
  · intro d hd
    rw [List.eq_of_mem_replicate hd]
    omega

/-- What stands in the array behind i carries. -/
structure Car (V n o' : Nat) (o : List Nat) (i : Nat) : Prop where
  len : o.length = n + 1
  v : val o = V
  ten : ∀ j, j < i → o.getD j 0 < 10
  le : ∀ j, o.getD j 0 ≤ 2 * o'
  lt : ∀ j, i < j → o.getD j 0 ≤ o'

theorem Car.step {V n B : Nat} {o : List Nat} {i : Nat} (h : Car V n B o i) (hi : i < n) (hB : 1 ≤ B) : Car V n B ((o.set (i + 1) (o.getD (i + 1) 0 + o.getD i 0 / 10)).set i (o.getD i 0 % 10)) (i + 1) := by
  have hl := h.len
  have h1 := h.le i
  have h2 := h.lt (i + 1) (by omega)
  have g : ∀ j, ((o.set (i + 1) (o.getD (i + 1) 0 + o.getD i 0 / 10)).set i (o.getD i 0 % 10)).getD j 0 = if j = i then o.getD i 0 % 10 else if j = i + 1 then o.getD (i + 1) 0 + o.getD i 0 / 10 else o.getD j 0 := by
    intro j
    rw [getD_set _ i j _ (by simp; omega), getD_set _ (i + 1) j _ (by omega)]
  refine ⟨by simp [hl], by rw [val_carry o i (by omega)]; exact h.v, ?_, ?_, ?_⟩
  · intro j hj
    rw [g]
    split
    · omega
    · rw [if_neg (by omega)]
      exact h.ten j (by omega)
  · intro j
    rw [g]
    split
    · omega
    · split
      · omega
      · exact h.le j
  · intro j hj
    rw [g, if_neg (by omega), if_neg (by omega)]
    exact h.lt j (by omega)
theorem Car.done {V n B : Nat} {o : List Nat} (h : Car V n B o n) (hV : V < 10 ^ n) : ∀ d ∈ o, d < 10 := by
  intro d hd
  obtain ⟨j, hj, e⟩ := List.mem_iff_getElem.1 hd
  have hl := h.len
  have hg : o.getD j 0 = d := by
    rw [List.getD_eq_getElem?_getD, List.getElem?_eq_getElem hj, e]
    rfl
  rw [← hg]
  by_cases hjn : j < n
  · exact h.ten j hjn
  · have : j = n := by omega
    subst this
    rw [top_zero o j hl (by rw [h.v]; exact hV)]
    omega

end Go.Proofs.YthahgablbdfodaaDoor
/- The walk of the reference's rounded quotient of digits. -/
set_option maxRecDepth 100000
namespace Go.Proofs.YthahgablbdfodaaDoor
open Go.RowKit Go.Lat

/-- A quotient, rounded. -/
def rnd (A B : Nat) : Nat := A / B + if 2 * (A % B) < B then 0 else 1

end Go.Proofs.YthahgablbdfodaaDoor
/- Plain laws on the digits of texts. -/
set_option maxRecDepth 100000
namespace Go.Lat

/-- A byte's digit; is it one? -/
def dvB (b : UInt8) : Nat := b.toNat - 48
def dgB (b : UInt8) : Bool := decide (48 ≤ b.toNat) && decide (b.toNat ≤ 57)
/-- What a text of digits stands for. -/
def dval (l : List UInt8) : Nat := val (l.reverse.map dvB)
/-- Is a text 1 to 18 digits? -/
def isD (l : List UInt8) : Bool := decide (1 ≤ l.length) && decide (l.length ≤ 18) && l.all dgB

theorem dgB_lt {b : UInt8} (h : dgB b = true) : dvB b < 10 := by
  simp [dgB] at h
  unfold dvB
  omega
theorem dval_nil : dval [] = 0 := rfl
theorem dval_append (a b : List UInt8) : dval (a ++ b) = dval a * 10 ^ b.length + dval b := by
  unfold dval
  rw [List.reverse_append, List.map_append, val_append]
  simp only [List.length_map, List.length_reverse]
  rw [Nat.mul_comm, Nat.add_comm]
theorem dval_lt (l : List UInt8) (h : l.all dgB = true) : dval l < 10 ^ l.length := by
  have := val_lt (l.reverse.map dvB) (fun d hd => by
    obtain ⟨b, hb, rfl⟩ := List.mem_map.1 hd
    exact dgB_lt (List.all_eq_true.1 h b (List.mem_reverse.1 hb)))
  simpa [dval] using this
theorem dval_one (b : UInt8) : dval [b] = dvB b := by simp [dval, val]
theorem dval_cons (b : UInt8) (l : List UInt8) : dval (b :: l) = dvB b * 10 ^ l.length + dval l := by
  have := dval_append [b] l
  rw [dval_one] at this
  exact this

theorem parse_go (M : Nat) : ∀ (l : List UInt8) (acc : Nat), l.all dgB = true → acc * 10 ^ l.length + dval l ≤ M → acc * 10 ^ l.length + dval l ≤ 9000000000000000000 → Lib.parseUintM M acc l = .ok (acc * 10 ^ l.length + dval l)
  | [], acc, _, _, _ => by simp [Lib.parseUintM, dval_nil]
  | b :: l, acc, h, h1, h2 => by
    simp only [List.all_cons, Bool.and_eq_true] at h
    have hb := h.1
    simp [dgB] at hb
    have hp : 1 ≤ 10 ^ l.length := Nat.pow_pos (by omega)
    rw [dval_cons, List.length_cons, Nat.pow_succ] at h1 h2 ⊢
    have e : acc * (10 ^ l.length * 10) + (dvB b * 10 ^ l.length + dval l) = (acc * 10 + dvB b) * 10 ^ l.length + dval l := by
      rw [Nat.add_mul, Nat.mul_assoc, Nat.mul_comm 10 (10 ^ l.length)]
      omega
    rw [e] at h1 h2 ⊢
    have hle := Nat.mul_le_mul_left (acc * 10 + dvB b) hp
    unfold Lib.parseUintM
    rw [if_pos hb]
    have ed : b.toNat - 48 = dvB b := rfl
    rw [ed, if_neg (by omega), if_neg (by omega)]
    exact parse_go M l _ h.2 h1 h2

theorem parse_digits (l : List UInt8) (h : l.all dgB = true) (h1 : 1 ≤ l.length) (h2 : l.length ≤ 18) : Lib.parseUintB 64 l = .ok (dval l) := by
  have hne : l ≠ [] := by intro e; subst e; simp at h1
  have hl := dval_lt l h
  have hp : 10 ^ l.length ≤ 10 ^ 18 := Nat.pow_le_pow_right (by omega) h2
  have e18 : (10 : Nat) ^ 18 = 1000000000000000000 := by decide
  unfold Lib.parseUintB
  rw [if_neg hne, parse_go _ l 0 h (by omega) (by omega)]
  simp

/-- Five digits of a part, noughts behind it. -/
theorem five (P : List UInt8) (h : P.all dgB = true) :
    dval ((P ++ [48, 48, 48, 48, 48]).take 5) = dval P * 100000 / 10 ^ P.length ∧ ((P ++ [48, 48, 48, 48, 48]).take 5).all dgB = true ∧ ((P ++ [48, 48, 48, 48, 48]).take 5).length = 5 := by
  have hall : (P ++ [48, 48, 48, 48, 48]).all dgB = true := by rw [List.all_append, h]; decide
  have hv : dval (P ++ [48, 48, 48, 48, 48]) = dval P * 100000 := by
    have e5 : (10 : Nat) ^ ([48, 48, 48, 48, 48] : List UInt8).length = 100000 := by decide
    rw [dval_append, show dval [48, 48, 48, 48, 48] = 0 from by decide, e5, Nat.add_zero]
  have hl : (P ++ [48, 48, 48, 48, 48]).length = P.length + 5 := by simp
  generalize P ++ [48, 48, 48, 48, 48] = Q at *
  have e := dval_append (Q.take 5) (Q.drop 5)
  rw [List.take_append_drop, List.length_drop, hl, Nat.add_sub_cancel, hv] at e
  have hd := dval_lt (Q.drop 5) (List.all_eq_true.2 fun b hb => List.all_eq_true.1 hall b (List.mem_of_mem_drop hb))
  rw [List.length_drop, hl, Nat.add_sub_cancel] at hd
  refine ⟨?_, List.all_eq_true.2 fun b hb => List.all_eq_true.1 hall b (List.mem_of_mem_take hb), by rw [List.length_take]; omega⟩
  rw [e, Nat.mul_comm, Nat.mul_add_div (Nat.pow_pos (by omega)), Nat.div_eq_of_lt hd, Nat.add_zero]
end Go.Lat
namespace Go.Proofs.YthahgablbdfodaaDoor
open Go.Lat

theorem rnd_ten (A B : Nat) (hB : 0 < B) : rnd A B = (10 * A / B + 5) / 10 := by
  unfold rnd
  have h1 := Nat.div_add_mod A B
  have h2 := Nat.mod_lt A hB
  have e : 10 * A / B = 10 * (A / B) + 10 * (A % B) / B := by
    conv => lhs; rw [← h1]
    rw [Nat.mul_add, Nat.mul_left_comm, Nat.mul_add_div hB]
  rw [e]
  have h3 : 10 * (A % B) / B < 10 := by
    rw [Nat.div_lt_iff_lt_mul hB]
    omega
  have h4 : 2 * (A % B) < B ↔ 10 * (A % B) / B < 5 := by
    rw [Nat.div_lt_iff_lt_mul hB]
    omega
  obtain ⟨z, hz⟩ : ∃ z, 10 * (A % B) / B = z := ⟨_, rfl⟩
  obtain ⟨q, hq⟩ : ∃ q, A / B = q := ⟨_, rfl⟩
  rw [hz] at h3 h4
  rw [hz, hq]
  by_cases h : 2 * (A % B) < B
  · rw [if_pos h]
    have := h4.1 h
    omega
  · rw [if_neg h]
    have : ¬ z < 5 := fun k => h (h4.2 k)
    omega

theorem rnd_add (W A B : Nat) (hB : 0 < B) : rnd (W * B + A) B = W + rnd A B := by
  unfold rnd
  have e1 : (W * B + A) / B = W + A / B := by rw [Nat.mul_comm, Nat.mul_add_div hB]
  have e2 : (W * B + A) % B = A % B := by rw [Nat.mul_comm, Nat.mul_add_mod]
  rw [e1, e2]
  omega

/-- The two ways of reckoning a text's number. -/
theorem two_ways (W F T : Nat) (hT : 0 < T) : rnd ((W * T + F) * 10000) T = W * 10000 + (F * 100000 / T + 5) / 10 := by
  rw [Nat.add_mul, Nat.mul_right_comm, rnd_add _ _ _ hT, rnd_ten _ _ hT]
  congr 4
  omega
end Go.Proofs.YthahgablbdfodaaDoor
/- The contracts of the library that the walks take, laid at this translation (by the kit's two tools, in plain words). -/
namespace Go.Proofs
open Go.Shelf
def Tryd.lays162_ren : Go.Shelf.Ren := ⟨fun | 162 => 44 | 232 => 52 | 227 => 53 | 234 => 54 | 236 => 55 | 228 => 72 | 271 => 73 | 151 => 74 | 120 => 88 | 197 => 79 | 152 => 89 | 260 => 92 | 137 => 96 | 119 => 97 | 224 => 77 | 225 => 76 | 217 => 75 | 266 => 90 | n => n, fun | 9 => 9 | 4 => 4 | 3 => 3 | 5 => 5 | 117 => 88 | 116 => 87 | 0 => 0 | 124 => 91 | 21 => 21 | 105 => 106 | 46 => 67 | 119 => 128 | 139 => 131 | 138 => 130 | n => n, fun | 3 => 5 | 4 => 6 | n => n⟩
theorem Tryd.lays162 : Go.Proofs.Lays.n162 Tryd.prog Tryd.lays162_ren := {
  mixed := by kernel_rfl
  f119 := Tryd.func97.trans (congrArg some (by kernel_rfl))
  f120 := Tryd.func88.trans (congrArg some (by kernel_rfl))
  f137 := Tryd.func96.trans (congrArg some (by kernel_rfl))
  f151 := Tryd.func74.trans (congrArg some (by kernel_rfl))
  f152 := Tryd.func89.trans (congrArg some (by kernel_rfl))
  f162 := Tryd.func44.trans (congrArg some (by kernel_rfl))
  f197 := Tryd.func79.trans (congrArg some (by kernel_rfl))
  f217 := Tryd.func75.trans (congrArg some (by kernel_rfl))
  f224 := Tryd.func77.trans (congrArg some (by kernel_rfl))
  f225 := Tryd.func76.trans (congrArg some (by kernel_rfl))
  f227 := Tryd.func53.trans (congrArg some (by kernel_rfl))
  f228 := Tryd.func72.trans (congrArg some (by kernel_rfl))
  f232 := Tryd.func52.trans (congrArg some (by kernel_rfl))
  f234 := Tryd.func54.trans (congrArg some (by kernel_rfl))
  f236 := Tryd.func55.trans (congrArg some (by kernel_rfl))
  f260 := Tryd.func92.trans (congrArg some (by kernel_rfl))
  f266 := Tryd.func90.trans (congrArg some (by kernel_rfl))
  f271 := Tryd.func73.trans (congrArg some (by kernel_rfl))
  t0 := Tryd.underlying0
  a0 := Tryd.isAgg0
  z0 := Tryd.sizeOf0
  v0 := Tryd.zeroValue0
  t3 := Tryd.underlying3
  a3 := Tryd.isAgg3
  z3 := Tryd.sizeOf3
  v3 := Tryd.zeroValue3
  t4 := Tryd.underlying4
  a4 := Tryd.isAgg4
  z4 := Tryd.sizeOf4
  v4 := Tryd.zeroValue4
  t5 := Tryd.underlying5
  a5 := Tryd.isAgg5
  z5 := Tryd.sizeOf5
  v5 := Tryd.zeroValue5
  t9 := Tryd.underlying9
  a9 := Tryd.isAgg9
  z9 := Tryd.sizeOf9
  v9 := Tryd.zeroValue9
  t21 := Tryd.underlying21
  a21 := Tryd.isAgg21
  z21 := Tryd.sizeOf21
  v21 := Tryd.zeroValue21
  t46 := Tryd.underlying67
  a46 := Tryd.isAgg67
  z46 := Tryd.sizeOf67
  v46 := Tryd.zeroValue67
  t105 := Tryd.underlying106
  a105 := Tryd.isAgg106
  z105 := Tryd.sizeOf106
  v105 := Tryd.zeroValue106
  t116 := Tryd.underlying87
  a116 := Tryd.isAgg87
  z116 := Tryd.sizeOf87
  t117 := Tryd.underlying88
  a117 := Tryd.isAgg88
  z117 := Tryd.sizeOf88
  v117 := Tryd.zeroValue88
  t119 := Tryd.underlying128
  a119 := Tryd.isAgg128
  z119 := Tryd.sizeOf128
  t124 := Tryd.underlying91
  a124 := Tryd.isAgg91
  z124 := Tryd.sizeOf91
  v124 := Tryd.zeroValue91
  t138 := Tryd.underlying130
  a138 := Tryd.isAgg130
  z138 := Tryd.sizeOf130
  v138 := Tryd.zeroValue130
  t139 := Tryd.underlying131
  a139 := Tryd.isAgg131
  z139 := Tryd.sizeOf131
  v139 := Tryd.zeroValue131
  g3 := by kernel_rfl
  g4 := by kernel_rfl }
open Go.RowKit in
theorem Tryd.strings_TrimRight_one (s : ByteArray) (c : UInt8) (hc : c.toNat < 128) (w : World) (hs : s.size ≤ 9223372036854775807) :
    Calls Tryd.prog 44 #[.string s, .string ⟨#[c]⟩] w fun e w' => e = .returned (.string ⟨(Lib.trimRightB s.data.toList c).toArray⟩) ∧ w' = w := Any.strings_TrimRight_one Tryd.lays162 s c hc w hs
def Tryd.lays103_ren : Go.Shelf.Ren := ⟨fun | 103 => 36 | 210 => 46 | 206 => 57 | n => n, fun | 9 => 9 | 4 => 4 | 24 => 68 | 3 => 3 | n => n, fun | n => n⟩
theorem Tryd.lays103 : Go.Proofs.Lays.n103 Tryd.prog Tryd.lays103_ren := {
  mixed := by kernel_rfl
  f103 := Tryd.func36.trans (congrArg some (by kernel_rfl))
  f206 := Tryd.func57.trans (congrArg some (by kernel_rfl))
  f210 := Tryd.func46.trans (congrArg some (by kernel_rfl))
  t3 := Tryd.underlying3
  a3 := Tryd.isAgg3
  z3 := Tryd.sizeOf3
  v3 := Tryd.zeroValue3
  t4 := Tryd.underlying4
  a4 := Tryd.isAgg4
  z4 := Tryd.sizeOf4
  v4 := Tryd.zeroValue4
  t9 := Tryd.underlying9
  a9 := Tryd.isAgg9
  z9 := Tryd.sizeOf9
  v9 := Tryd.zeroValue9
  t24 := Tryd.underlying68
  a24 := Tryd.isAgg68
  z24 := Tryd.sizeOf68
  v24 := Tryd.zeroValue68 }
open Go.RowKit in
theorem Tryd.strings_CutPrefix (s p : ByteArray) (w : World) :
    Calls Tryd.prog 36 #[.string s, .string p] w fun e w' => e = .returned (.tuple #[.string ⟨(Lib.trimPrefix s.data.toList p.data.toList).toArray⟩, .bool (Lib.hasPrefix s.data.toList p.data.toList)]) ∧ w' = w := Any.strings_CutPrefix Tryd.lays103 s p w
def Tryd.lays129_ren : Go.Shelf.Ren := ⟨fun | 129 => 84 | n => n, fun | 53 => 56 | 3 => 3 | 4 => 4 | 46 => 67 | 5 => 5 | 9 => 9 | n => n, fun | n => n⟩
theorem Tryd.lays129 : Go.Proofs.Lays.n129 Tryd.prog Tryd.lays129_ren := {
  mixed := by kernel_rfl
  f129 := Tryd.func84.trans (congrArg some (by kernel_rfl))
  t3 := Tryd.underlying3
  a3 := Tryd.isAgg3
  z3 := Tryd.sizeOf3
  v3 := Tryd.zeroValue3
  t4 := Tryd.underlying4
  a4 := Tryd.isAgg4
  z4 := Tryd.sizeOf4
  v4 := Tryd.zeroValue4
  t5 := Tryd.underlying5
  a5 := Tryd.isAgg5
  z5 := Tryd.sizeOf5
  v5 := Tryd.zeroValue5
  t9 := Tryd.underlying9
  a9 := Tryd.isAgg9
  z9 := Tryd.sizeOf9
  v9 := Tryd.zeroValue9
  t46 := Tryd.underlying67
  a46 := Tryd.isAgg67
  z46 := Tryd.sizeOf67
  v46 := Tryd.zeroValue67
  t53 := Tryd.underlying56
  a53 := Tryd.isAgg56
  z53 := Tryd.sizeOf56
  v53 := Tryd.zeroValue56 }
theorem Tryd.bits_Len64 (x : Int) (w : World) (h0 : 0 ≤ x) (h1 : x ≤ 18446744073709551615) :
    Calls Tryd.prog 84 #[.int .u64 x] w fun e w' => e = .returned (.int .i64 (Lib.bitLen x.toNat)) ∧ w' = w := Any.bits_Len64 Tryd.lays129 x w h0 h1
def Tryd.lays317_ren : Go.Shelf.Ren := ⟨fun | 317 => 83 | n => n, fun | 3 => 3 | 46 => 67 | n => n, fun | n => n⟩
theorem Tryd.lays317 : Go.Proofs.Lays.n317 Tryd.prog Tryd.lays317_ren := {
  mixed := by kernel_rfl
  f317 := Tryd.func83.trans (congrArg some (by kernel_rfl))
  t3 := Tryd.underlying3
  a3 := Tryd.isAgg3
  z3 := Tryd.sizeOf3
  v3 := Tryd.zeroValue3
  t46 := Tryd.underlying67
  a46 := Tryd.isAgg67
  z46 := Tryd.sizeOf67
  v46 := Tryd.zeroValue67 }
open Go.Lib in
theorem Tryd.internal_strconv_log10Pow2 (x : Nat) (h : x ≤ 64) (w : World) :
    Calls Tryd.prog 83 #[.int .i64 x] w fun e w' => e = .returned (.int .i64 (Lib.l10 x)) ∧ w' = w := Any.internal_strconv_log10Pow2 Tryd.lays317 x h w
def Tryd.lays318_ren : Go.Shelf.Ren := ⟨fun | 318 => 85 | n => n, fun | 3 => 3 | 4 => 4 | n => n, fun | n => n⟩
theorem Tryd.lays318 : Go.Proofs.Lays.n318 Tryd.prog Tryd.lays318_ren := {
  mixed := by kernel_rfl
  f318 := Tryd.func85.trans (congrArg some (by kernel_rfl))
  t3 := Tryd.underlying3
  a3 := Tryd.isAgg3
  z3 := Tryd.sizeOf3
  v3 := Tryd.zeroValue3
  t4 := Tryd.underlying4
  a4 := Tryd.isAgg4
  z4 := Tryd.sizeOf4
  v4 := Tryd.zeroValue4 }
open Go.Lib in
theorem Tryd.internal_strconv_bool2_int (b : Bool) (w : World) :
    Calls Tryd.prog 85 #[.bool b] w fun e w' => e = .returned (.int .i64 (if b then 1 else 0)) ∧ w' = w := Any.internal_strconv_bool2_int Tryd.lays318 b w
def Tryd.lays283_ren : Go.Shelf.Ren := ⟨fun | 283 => 68 | n => n, fun | 3 => 3 | 9 => 9 | 4 => 4 | n => n, fun | n => n⟩
theorem Tryd.lays283 : Go.Proofs.Lays.n283 Tryd.prog Tryd.lays283_ren := {
  mixed := by kernel_rfl
  f283 := Tryd.func68.trans (congrArg some (by kernel_rfl))
  t3 := Tryd.underlying3
  a3 := Tryd.isAgg3
  z3 := Tryd.sizeOf3
  v3 := Tryd.zeroValue3
  t4 := Tryd.underlying4
  a4 := Tryd.isAgg4
  z4 := Tryd.sizeOf4
  v4 := Tryd.zeroValue4
  t9 := Tryd.underlying9
  a9 := Tryd.isAgg9
  z9 := Tryd.sizeOf9
  v9 := Tryd.zeroValue9 }
open Go.Lib in
theorem Tryd.internal_strconv_small (i : Nat) (h : i < 100) (w : World) :
    Calls Tryd.prog 68 #[.int .i64 i] w fun e w' => e = .returned (.string ⟨(Lib.decDigits i).toArray⟩) ∧ w' = w := Any.internal_strconv_small Tryd.lays283 i h w
def Tryd.lays285_ren : Go.Shelf.Ren := ⟨fun | 285 => 70 | n => n, fun | 37 => 55 | 53 => 56 | 3 => 3 | 4 => 4 | 51 => 115 | 9 => 9 | 5 => 5 | 0 => 0 | n => n, fun | n => n⟩
theorem Tryd.lays285 : Go.Proofs.Lays.n285 Tryd.prog Tryd.lays285_ren := {
  mixed := by kernel_rfl
  f285 := Tryd.func70.trans (congrArg some (by kernel_rfl))
  t0 := Tryd.underlying0
  a0 := Tryd.isAgg0
  z0 := Tryd.sizeOf0
  v0 := Tryd.zeroValue0
  t3 := Tryd.underlying3
  a3 := Tryd.isAgg3
  z3 := Tryd.sizeOf3
  v3 := Tryd.zeroValue3
  t4 := Tryd.underlying4
  a4 := Tryd.isAgg4
  z4 := Tryd.sizeOf4
  v4 := Tryd.zeroValue4
  t5 := Tryd.underlying5
  a5 := Tryd.isAgg5
  z5 := Tryd.sizeOf5
  v5 := Tryd.zeroValue5
  t9 := Tryd.underlying9
  a9 := Tryd.isAgg9
  z9 := Tryd.sizeOf9
  v9 := Tryd.zeroValue9
  t37 := Tryd.underlying55
  a37 := Tryd.isAgg55
  z37 := Tryd.sizeOf55
  v37 := Tryd.zeroValue55
  t51 := Tryd.underlying115
  a51 := Tryd.isAgg115
  z51 := Tryd.sizeOf115
  v51 := Tryd.zeroValue115
  t53 := Tryd.underlying56
  a53 := Tryd.isAgg56
  z53 := Tryd.sizeOf56
  v53 := Tryd.zeroValue56 }
open Go.RowKit Go.Sort Go.Lib in
theorem Tryd.internal_strconv_formatBase10 (blk off cap : Nat) (u : Nat) (d : Array UInt8) (w : World) (hH : Holds (fun (b : UInt8) => Value.int .u8 (b.toNat : Int)) w blk off d) (hu : u < 10 ^ d.size) (hu64 : u < 18446744073709551616) (hsz : d.size < 4611686018427387904) :
    Calls Tryd.prog 70 #[.slice (some ⟨blk, off, none⟩) d.size cap, .int .u64 u] w fun e w' =>
      e = .returned (.tuple #[]) ∧ ∃ (n v' : Nat) (dk : Array UInt8), w' = (putRow (fun (b : UInt8) => Value.int .u8 (b.toNat : Int)) w blk off dk).drewN n ∧ FmtInv d.size u 0 v' dk := Any.internal_strconv_formatBase10 Tryd.lays285 blk off cap u d w hH hu hu64 hsz
def Tryd.laysPu14_ren : Go.Shelf.Ren := ⟨fun | 14 => 39 | 16 => 49 | 17 => 50 | 19 => 62 | 20 => 63 | 21 => 64 | 22 => 65 | 23 => 66 | 24 => 67 | 25 => 80 | 27 => 82 | 26 => 81 | 28 => 93 | 29 => 98 | 30 => 68 | 31 => 69 | 32 => 70 | 33 => 71 | 35 => 84 | 34 => 83 | 36 => 85 | 37 => 86 | 38 => 87 | 39 => 94 | 40 => 95 | n => n, fun | 9 => 9 | 3 => 3 | 22 => 56 | 24 => 73 | 25 => 74 | 4 => 4 | 34 => 94 | 5 => 5 | 36 => 67 | 37 => 55 | 0 => 0 | 39 => 96 | 21 => 21 | 44 => 112 | 47 => 122 | 50 => 125 | 48 => 123 | 2 => 2 | 52 => 100 | 55 => 103 | 59 => 114 | 60 => 115 | 20 => 20 | 61 => 116 | 65 => 133 | 66 => 134 | 67 => 42 | n => n, fun | 0 => 2 | 1 => 3 | 2 => 4 | 3 => 7 | 4 => 8 | n => n⟩
theorem Tryd.laysPu14 : Go.Proofs.LaysPu.n14 Tryd.prog Tryd.laysPu14_ren := {
  mixed := by kernel_rfl
  f14 := Tryd.func39.trans (congrArg some (by kernel_rfl))
  f16 := Tryd.func49.trans (congrArg some (by kernel_rfl))
  f17 := Tryd.func50.trans (congrArg some (by kernel_rfl))
  f19 := Tryd.func62.trans (congrArg some (by kernel_rfl))
  f20 := Tryd.func63.trans (congrArg some (by kernel_rfl))
  f21 := Tryd.func64.trans (congrArg some (by kernel_rfl))
  f22 := Tryd.func65.trans (congrArg some (by kernel_rfl))
  f23 := Tryd.func66.trans (congrArg some (by kernel_rfl))
  f24 := Tryd.func67.trans (congrArg some (by kernel_rfl))
  f25 := Tryd.func80.trans (congrArg some (by kernel_rfl))
  f26 := Tryd.func81.trans (congrArg some (by kernel_rfl))
  f27 := Tryd.func82.trans (congrArg some (by kernel_rfl))
  f28 := Tryd.func93.trans (congrArg some (by kernel_rfl))
  f29 := Tryd.func98.trans (congrArg some (by kernel_rfl))
  f30 := Tryd.func68.trans (congrArg some (by kernel_rfl))
  f31 := Tryd.func69.trans (congrArg some (by kernel_rfl))
  f32 := Tryd.func70.trans (congrArg some (by kernel_rfl))
  f33 := Tryd.func71.trans (congrArg some (by kernel_rfl))
  f34 := Tryd.func83.trans (congrArg some (by kernel_rfl))
  f35 := Tryd.func84.trans (congrArg some (by kernel_rfl))
  f36 := Tryd.func85.trans (congrArg some (by kernel_rfl))
  f37 := Tryd.func86.trans (congrArg some (by kernel_rfl))
  f38 := Tryd.func87.trans (congrArg some (by kernel_rfl))
  f39 := Tryd.func94.trans (congrArg some (by kernel_rfl))
  f40 := Tryd.func95.trans (congrArg some (by kernel_rfl))
  t0 := Tryd.underlying0
  a0 := Tryd.isAgg0
  z0 := Tryd.sizeOf0
  v0 := Tryd.zeroValue0
  i0 := by kernel_rfl
  t2 := Tryd.underlying2
  a2 := Tryd.isAgg2
  z2 := Tryd.sizeOf2
  v2 := Tryd.zeroValue2
  i2 := by kernel_rfl
  t3 := Tryd.underlying3
  a3 := Tryd.isAgg3
  z3 := Tryd.sizeOf3
  v3 := Tryd.zeroValue3
  i3 := by kernel_rfl
  t4 := Tryd.underlying4
  a4 := Tryd.isAgg4
  z4 := Tryd.sizeOf4
  v4 := Tryd.zeroValue4
  i4 := by kernel_rfl
  t5 := Tryd.underlying5
  a5 := Tryd.isAgg5
  z5 := Tryd.sizeOf5
  v5 := Tryd.zeroValue5
  i5 := by kernel_rfl
  t9 := Tryd.underlying9
  a9 := Tryd.isAgg9
  z9 := Tryd.sizeOf9
  v9 := Tryd.zeroValue9
  i9 := by kernel_rfl
  t20 := Tryd.underlying20
  a20 := Tryd.isAgg20
  z20 := Tryd.sizeOf20
  v20 := Tryd.zeroValue20
  i20 := by kernel_rfl
  t21 := Tryd.underlying21
  a21 := Tryd.isAgg21
  z21 := Tryd.sizeOf21
  v21 := Tryd.zeroValue21
  i21 := by kernel_rfl
  t22 := Tryd.underlying56
  a22 := Tryd.isAgg56
  z22 := Tryd.sizeOf56
  v22 := Tryd.zeroValue56
  i22 := by kernel_rfl
  t24 := Tryd.underlying73
  a24 := Tryd.isAgg73
  z24 := Tryd.sizeOf73
  v24 := Tryd.zeroValue73
  i24 := by kernel_rfl
  t25 := Tryd.underlying74
  a25 := Tryd.isAgg74
  z25 := Tryd.sizeOf74
  v25 := Tryd.zeroValue74
  i25 := by kernel_rfl
  t34 := Tryd.underlying94
  a34 := Tryd.isAgg94
  z34 := Tryd.sizeOf94
  v34 := Tryd.zeroValue94
  i34 := by kernel_rfl
  c34 := by kernel_rfl
  t36 := Tryd.underlying67
  a36 := Tryd.isAgg67
  z36 := Tryd.sizeOf67
  v36 := Tryd.zeroValue67
  i36 := by kernel_rfl
  t37 := Tryd.underlying55
  a37 := Tryd.isAgg55
  z37 := Tryd.sizeOf55
  v37 := Tryd.zeroValue55
  i37 := by kernel_rfl
  t39 := Tryd.underlying96
  a39 := Tryd.isAgg96
  z39 := Tryd.sizeOf96
  v39 := Tryd.zeroValue96
  i39 := by kernel_rfl
  t44 := Tryd.underlying112
  a44 := Tryd.isAgg112
  z44 := Tryd.sizeOf112
  v44 := Tryd.zeroValue112
  i44 := by kernel_rfl
  t47 := Tryd.underlying122
  a47 := Tryd.isAgg122
  z47 := Tryd.sizeOf122
  v47 := Tryd.zeroValue122
  i47 := by kernel_rfl
  t48 := Tryd.underlying123
  a48 := Tryd.isAgg123
  z48 := Tryd.sizeOf123
  v48 := Tryd.zeroValue123
  i48 := by kernel_rfl
  t50 := Tryd.underlying125
  a50 := Tryd.isAgg125
  z50 := Tryd.sizeOf125
  v50 := Tryd.zeroValue125
  i50 := by kernel_rfl
  t52 := Tryd.underlying100
  a52 := Tryd.isAgg100
  z52 := Tryd.sizeOf100
  v52 := Tryd.zeroValue100
  i52 := by kernel_rfl
  t55 := Tryd.underlying103
  a55 := Tryd.isAgg103
  z55 := Tryd.sizeOf103
  v55 := Tryd.zeroValue103
  i55 := by kernel_rfl
  t59 := Tryd.underlying114
  a59 := Tryd.isAgg114
  z59 := Tryd.sizeOf114
  v59 := Tryd.zeroValue114
  i59 := by kernel_rfl
  t60 := Tryd.underlying115
  a60 := Tryd.isAgg115
  z60 := Tryd.sizeOf115
  v60 := Tryd.zeroValue115
  i60 := by kernel_rfl
  t61 := Tryd.underlying116
  a61 := Tryd.isAgg116
  z61 := Tryd.sizeOf116
  t65 := Tryd.underlying133
  a65 := Tryd.isAgg133
  z65 := Tryd.sizeOf133
  v65 := Tryd.zeroValue133
  i65 := by kernel_rfl
  t66 := Tryd.underlying134
  a66 := Tryd.isAgg134
  z66 := Tryd.sizeOf134
  v66 := Tryd.zeroValue134
  i66 := by kernel_rfl
  t67 := Tryd.underlying42
  a67 := Tryd.isAgg42
  z67 := Tryd.sizeOf42
  v67 := Tryd.zeroValue42
  i67 := by kernel_rfl
  g0 := by kernel_rfl
  m0 := by kernel_rfl
  g1 := by kernel_rfl
  m1 := by kernel_rfl
  g2 := by kernel_rfl
  m2 := by kernel_rfl
  g3 := by kernel_rfl
  m3 := by kernel_rfl
  g4 := by kernel_rfl
  m4 := by kernel_rfl }
open Go.RowKit in
theorem Tryd.strconv_ParseUint_10_at64_ok (s : ByteArray) (hmax : s.size ≤ 9223372036854775806) (u : Nat) (h : Lib.parseUintB 64 s.data.toList = .ok u) (w : World) :
    Calls Tryd.prog 39 #[.string s, .int .i64 10, .int .i64 64] w fun e w' => e = .returned (.tuple #[.int .u64 u, .nilIface]) ∧ (w' = w ∨ w' = Lib.bytesWorld w 5 s) := Any.strconv_ParseUint_10_at64_ok Tryd.laysPu14 s hmax u h w
def Tryd.lays219_ren : Go.Shelf.Ren := ⟨fun | 219 => 58 | 217 => 75 | 225 => 76 | 224 => 77 | 267 => 78 | 266 => 90 | 314 => 91 | n => n, fun | 9 => 9 | 3 => 3 | 4 => 4 | 5 => 5 | 46 => 67 | 146 => 120 | 51 => 115 | n => n, fun | 1 => 1 | n => n⟩
theorem Tryd.lays219 : Go.Proofs.Lays.n219 Tryd.prog Tryd.lays219_ren := {
  mixed := by kernel_rfl
  f217 := Tryd.func75.trans (congrArg some (by kernel_rfl))
  f219 := Tryd.func58.trans (congrArg some (by kernel_rfl))
  f224 := Tryd.func77.trans (congrArg some (by kernel_rfl))
  f225 := Tryd.func76.trans (congrArg some (by kernel_rfl))
  f266 := Tryd.func90.trans (congrArg some (by kernel_rfl))
  f267 := Tryd.func78.trans (congrArg some (by kernel_rfl))
  f314 := Tryd.func91.trans (congrArg some (by kernel_rfl))
  t3 := Tryd.underlying3
  a3 := Tryd.isAgg3
  z3 := Tryd.sizeOf3
  v3 := Tryd.zeroValue3
  t4 := Tryd.underlying4
  a4 := Tryd.isAgg4
  z4 := Tryd.sizeOf4
  v4 := Tryd.zeroValue4
  t5 := Tryd.underlying5
  a5 := Tryd.isAgg5
  z5 := Tryd.sizeOf5
  v5 := Tryd.zeroValue5
  t9 := Tryd.underlying9
  a9 := Tryd.isAgg9
  z9 := Tryd.sizeOf9
  v9 := Tryd.zeroValue9
  t46 := Tryd.underlying67
  a46 := Tryd.isAgg67
  z46 := Tryd.sizeOf67
  v46 := Tryd.zeroValue67
  t51 := Tryd.underlying115
  a51 := Tryd.isAgg115
  z51 := Tryd.sizeOf115
  v51 := Tryd.zeroValue115
  t146 := Tryd.underlying120
  a146 := Tryd.isAgg120
  z146 := Tryd.sizeOf120
  v146 := Tryd.zeroValue120
  g1 := by kernel_rfl }
open Go.RowKit Go.Lib in
theorem Tryd.stringslite_Index_one (s : ByteArray) (c : UInt8) (w : World) :
    Calls Tryd.prog 58 #[.string s, .string ⟨#[c]⟩] w fun e w' => e = .returned (.int .i64 (Lib.indexByte s.data.toList c)) ∧ w' = w := Any.stringslite_Index_one Tryd.lays219 s c w
def Tryd.lays160_ren : Go.Shelf.Ren := ⟨fun | 160 => 48 | 232 => 52 | 231 => 59 | 227 => 53 | 234 => 54 | 233 => 60 | 236 => 55 | 235 => 61 | 228 => 72 | 271 => 73 | 151 => 74 | 197 => 79 | 120 => 88 | 152 => 89 | 260 => 92 | 137 => 96 | 119 => 97 | 224 => 77 | 225 => 76 | 217 => 75 | 266 => 90 | n => n, fun | 9 => 9 | 4 => 4 | 3 => 3 | 5 => 5 | 117 => 88 | 116 => 87 | 0 => 0 | 124 => 91 | 21 => 21 | 105 => 106 | 46 => 67 | 119 => 128 | 139 => 131 | 138 => 130 | n => n, fun | 3 => 5 | 4 => 6 | n => n⟩
theorem Tryd.lays160 : Go.Proofs.Lays.n160 Tryd.prog Tryd.lays160_ren := {
  mixed := by kernel_rfl
  f119 := Tryd.func97.trans (congrArg some (by kernel_rfl))
  f120 := Tryd.func88.trans (congrArg some (by kernel_rfl))
  f137 := Tryd.func96.trans (congrArg some (by kernel_rfl))
  f151 := Tryd.func74.trans (congrArg some (by kernel_rfl))
  f152 := Tryd.func89.trans (congrArg some (by kernel_rfl))
  f160 := Tryd.func48.trans (congrArg some (by kernel_rfl))
  f197 := Tryd.func79.trans (congrArg some (by kernel_rfl))
  f217 := Tryd.func75.trans (congrArg some (by kernel_rfl))
  f224 := Tryd.func77.trans (congrArg some (by kernel_rfl))
  f225 := Tryd.func76.trans (congrArg some (by kernel_rfl))
  f227 := Tryd.func53.trans (congrArg some (by kernel_rfl))
  f228 := Tryd.func72.trans (congrArg some (by kernel_rfl))
  f231 := Tryd.func59.trans (congrArg some (by kernel_rfl))
  f232 := Tryd.func52.trans (congrArg some (by kernel_rfl))
  f233 := Tryd.func60.trans (congrArg some (by kernel_rfl))
  f234 := Tryd.func54.trans (congrArg some (by kernel_rfl))
  f235 := Tryd.func61.trans (congrArg some (by kernel_rfl))
  f236 := Tryd.func55.trans (congrArg some (by kernel_rfl))
  f260 := Tryd.func92.trans (congrArg some (by kernel_rfl))
  f266 := Tryd.func90.trans (congrArg some (by kernel_rfl))
  f271 := Tryd.func73.trans (congrArg some (by kernel_rfl))
  t0 := Tryd.underlying0
  a0 := Tryd.isAgg0
  z0 := Tryd.sizeOf0
  v0 := Tryd.zeroValue0
  t3 := Tryd.underlying3
  a3 := Tryd.isAgg3
  z3 := Tryd.sizeOf3
  v3 := Tryd.zeroValue3
  t4 := Tryd.underlying4
  a4 := Tryd.isAgg4
  z4 := Tryd.sizeOf4
  v4 := Tryd.zeroValue4
  t5 := Tryd.underlying5
  a5 := Tryd.isAgg5
  z5 := Tryd.sizeOf5
  v5 := Tryd.zeroValue5
  t9 := Tryd.underlying9
  a9 := Tryd.isAgg9
  z9 := Tryd.sizeOf9
  v9 := Tryd.zeroValue9
  t21 := Tryd.underlying21
  a21 := Tryd.isAgg21
  z21 := Tryd.sizeOf21
  v21 := Tryd.zeroValue21
  t46 := Tryd.underlying67
  a46 := Tryd.isAgg67
  z46 := Tryd.sizeOf67
  v46 := Tryd.zeroValue67
  t105 := Tryd.underlying106
  a105 := Tryd.isAgg106
  z105 := Tryd.sizeOf106
  v105 := Tryd.zeroValue106
  t116 := Tryd.underlying87
  a116 := Tryd.isAgg87
  z116 := Tryd.sizeOf87
  t117 := Tryd.underlying88
  a117 := Tryd.isAgg88
  z117 := Tryd.sizeOf88
  v117 := Tryd.zeroValue88
  t119 := Tryd.underlying128
  a119 := Tryd.isAgg128
  z119 := Tryd.sizeOf128
  t124 := Tryd.underlying91
  a124 := Tryd.isAgg91
  z124 := Tryd.sizeOf91
  v124 := Tryd.zeroValue91
  t138 := Tryd.underlying130
  a138 := Tryd.isAgg130
  z138 := Tryd.sizeOf130
  v138 := Tryd.zeroValue130
  t139 := Tryd.underlying131
  a139 := Tryd.isAgg131
  z139 := Tryd.sizeOf131
  v139 := Tryd.zeroValue131
  g3 := by kernel_rfl
  g4 := by kernel_rfl }
end Go.Proofs
/- The walks of strconv.FormatUint at base 10, after the kit's worked FormatInt. -/
set_option maxRecDepth 100000
namespace Go.Proofs.YthahgablbdfodaaDoor
open Go.RowKit Go.Lat Go.Shelf Go.Sort Go.Lib

/-- The table of the powers of 10 lies in the world. -/
def Pow (w : World) : Prop := 4 < w.heap.size ∧ ∀ q : Nat, q < 20 → w.cell? ⟨4, q, none⟩ = some (.int .u64 ((10 ^ q : Nat) : Int))

theorem Pow.upd {w w' : World} {S : Nat → Prop} (h : Pow w) (u : Upd w w' S) (hn : ¬ S 4) : Pow w' :=
  ⟨Nat.lt_of_lt_of_le h.1 u.size, fun q hq => (u.cell _ q h.1 hn).trans (h.2 q hq)⟩

set_option maxHeartbeats 2000000 in
theorem numDigits_any (w : World) (u : Nat) (h1 : 1 ≤ u) (h2 : u < 18446744073709551616) (ht : Pow w) :
    Calls Tryd.prog 69 #[.int .u64 u] w fun e w' => e = .returned (.int .i64 (Lib.nDigits u)) ∧ w' = w := by
  obtain ⟨hnd, h19⟩ := Lib.numDigits_eq u h1 h2
  have hL : Lib.bitLen u ≤ 64 := Lib.bitLen_le u 64 (Nat.le_refl _) h2
  have hcell := ht.2 (Lib.l10 (Lib.bitLen u)) (by omega)
  have hto : ((u : Int)).toNat = u := by omega
  have A := fun w => Tryd.bits_Len64 (u : Int) w (by omega) (by omega)
  rw [hto] at A
  have B := fun w => Tryd.internal_strconv_log10Pow2 (Lib.bitLen u) hL w
  generalize hq : Lib.l10 (Lib.bitLen u) = q at hnd h19 hcell B
  generalize hT : 10 ^ q = T at hnd hcell
  have h20 : q < 20 := by omega
  have Hnd := Lib.hid hnd
  clear hnd hq hT hto ht
  go_enter Tryd.func69, Tryd.ntmps69
  go_wp2_with fail
  refine Calls.mono (A _) ?_
  rintro e w1 ⟨rfl, rfl⟩
  go_wp2_with fail
  refine Calls.mono (B _) ?_
  rintro e w2 ⟨rfl, rfl⟩
  go_wp2_with fail
  refine Calls.mono (Tryd.internal_strconv_bool2_int _ _) ?_
  rintro e w3 ⟨rfl, rfl⟩
  go_wp2_with fail
  all_goals go_ret
  all_goals (
    refine ⟨?_, rfl⟩
    have hnd := Hnd.out
    congr 2
    split at hnd <;> simp_all <;> omega)

set_option maxHeartbeats 6400000 in
theorem FormatUintI_any (w : World) (u : Nat) (h2 : u < 18446744073709551616) (ht : Pow w) :
    Calls Tryd.prog 51 #[.int .u64 u, .int .i64 10] w fun e w' => e = .returned (.string ⟨(Lib.decDigits u).toArray⟩) ∧ Upd w w' (fun _ => False) := by
  by_cases hs : u < 100
  · have d1 : decide ((u : Int) < 100) = true := by simp; omega
    have d2 : decide (u < 100) = true := by simpa using hs
    have w1 : IntKind.i64.wrap (u : Int) = (u : Int) := IntWalk.i64_in _ (by omega)
    go_enter Tryd.func51, Tryd.ntmps51
    go_wp2_with fail
    refine Calls.mono (Tryd.internal_strconv_small u hs _) ?_
    rintro e w' ⟨rfl, rfl⟩
    go_wp2_with fail
    go_ret
    exact ⟨rfl, Upd.refl _ _⟩
  · have d1 : decide ((u : Int) < 100) = false := by simp; omega
    have d2 : decide (u < 100) = false := by simpa using hs
    have hu1 : 1 ≤ u := by omega
    have hnd20 : Lib.nDigits u ≤ 20 := by have := Lib.numDigits_eq u hu1 h2; split at this <;> omega
    have hb3 : Lib.nDigits u ≤ 24 := by omega
    have hal : Tryd.prog.arrayLen 100 = 24 := by simp [Program.arrayLen, Tryd.underlying100]
    have hsl1 : ∀ W, (Instr.sliceAt 100 (.pointer (some ⟨w.heap.size, 0, none⟩)) none (some (.int .i64 (Lib.nDigits u : Int))) none).run Tryd.prog W = .ok (.slice (some ⟨w.heap.size, 0, none⟩) (Lib.nDigits u) 24) W := fun W => by
      rw [run_sliceAt_array_h W 100 ⟨w.heap.size, 0, none⟩ (by simp [Program.arrayLen, Program.elem, Tryd.underlying100]) .i64 (Lib.nDigits u : Int) (by omega) (by rw [hal]; omega)]
      go_simp
    have hH0 := Lib.holds_zero0 w 100 (Lib.nDigits u) (by omega)
    have hfmt := Tryd.internal_strconv_formatBase10 w.heap.size 0 24 u (Array.replicate (Lib.nDigits u) 0) (w.alloc (.cells Lib.zeros24 100)) hH0 (by rw [Array.size_replicate]; exact Lib.lt_pow_nDigits u) h2 (by rw [Array.size_replicate]; omega)
    rw [Array.size_replicate] at hfmt
    have HH0 := Lib.hid hH0
    have hN := numDigits_any (w.alloc (.cells Lib.zeros24 100)) u hu1 h2 (ht.upd ((Upd.refl w (fun _ => False)).alloc _) id)
    clear hH0 hal ht
    go_enter Tryd.func51, Tryd.ntmps51
    go_wp2_with fail
    refine Calls.mono hN ?_
    rintro e w' ⟨rfl, rfl⟩
    go_wp2_with fail
    refine Calls.mono hfmt ?_
    rintro e w' ⟨rfl, k, v', dk, rfl, hF⟩
    have hcv : (convert 55 9 (.slice (some ⟨w.heap.size, 0, none⟩) (Lib.nDigits u) 24)).run Tryd.prog ((putRow (fun (b : UInt8) => Value.int .u8 (b.toNat : Int)) (w.alloc (.cells Lib.zeros24 100)) w.heap.size 0 dk).drewN k) = .ok (.string ⟨(Lib.decDigits u).toArray⟩) ((putRow (fun (b : UInt8) => Value.int .u8 (b.toNat : Int)) (w.alloc (.cells Lib.zeros24 100)) w.heap.size 0 dk).drewN k) := by
      have h := run_convert_bytes_back (P := Tryd.prog) ((putRow (fun (b : UInt8) => Value.int .u8 (b.toNat : Int)) (w.alloc (.cells Lib.zeros24 100)) w.heap.size 0 dk).drewN k) 55 9 5 ⟨w.heap.size, 0, none⟩ 24 (Lib.decDigits u) Tryd.underlying55 Tryd.underlying5 Tryd.underlying9 (fun j hj => by
        rw [Lib.row_is_numeral hF j hj, Lib.add_plain, World.cell?_drewN]
        exact cell?_putRow (fun (b : UInt8) => Value.int .u8 (b.toNat : Int)) _ w.heap.size 0 _ dk HH0.out (by rw [hF.size, Array.size_replicate]) j (by rw [hF.size]; rw [Lib.decDigits_length] at hj; exact hj))
      rw [Lib.decDigits_length] at h
      exact h
    go_wp2_with fail
    go_ret
    refine ⟨rfl, Upd.of_below ?_ _⟩
    rw [alloc_eq_grow]
    obtain ⟨os', _, e⟩ := putRow_grow_new (fun (b : UInt8) => Value.int .u8 (b.toNat : Int)) w #[.cells Lib.zeros24 100] w.heap.size 0 dk (Nat.le_refl _)
    rw [e]
    exact below_grow _ _ (Nat.le_refl _) _ _
end Go.Proofs.YthahgablbdfodaaDoor
