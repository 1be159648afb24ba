/- The walk of the reference's product of digits. -/
import Derived.Test.YtmfngdjhkpddoaaGreatDoorJ08
import Derived.Test.YtmfngdjhkpddoaaGreatDoorJ24
import Ieee.Arith
import Derived.Test.YtmfngdjhkpddoaaGreatDoorJ01
import Derived.Laws.Externs
import Derived.Laws.Bits64
import Derived.Laws.Bits64b
import Derived.Lib.Strings
import Derived.Lib.Slices
import Derived.Lib.Small
import Derived.Lib.Walk
import Derived.Lib.BitFns
import Derived.Shelf.Bits.Mul64
import Derived.Deep.Light
/- The walk of the reference's product of digits. -/
set_option maxRecDepth 100000
namespace Go.Proofs.YtmfngdjhkpddoaaGreatDoor.Fl
open Go.RowKit Go.Lat

end Go.Proofs.YtmfngdjhkpddoaaGreatDoor.Fl
/- Plain laws on the bits of a float64: what stands where, and that the order of two floats is the order of their signed rungs. No condition. -/
namespace Go.Lat
open Ieee

/-- The bits of a float64 but its sign. -/
def rng (b : Nat) : Nat := b % 9223372036854775808
def sgn (b : Nat) : Bool := b / 9223372036854775808 % 2 == 1
/-- The rung of the infinities. -/
def infR : Nat := 9218868437227405312
/-- What a rung stands for, in units of the least one. -/
def mag (r : Nat) : Nat := if r < 4503599627370496 then r else (4503599627370496 + r % 4503599627370496) * 2 ^ (r / 4503599627370496 - 1)

theorem mag_mono {r s : Nat} (h : r < s) : mag r < mag s := by
  unfold mag
  have two : ∀ k : Nat, 0 < 2 ^ k := fun k => Nat.two_pow_pos k
  by_cases hr : r < 4503599627370496
  · by_cases hs : s < 4503599627370496
    · rw [if_pos hr, if_pos hs]; exact h
    · rw [if_pos hr, if_neg hs]
      have := two (s / 4503599627370496 - 1)
      calc r < 4503599627370496 * 1 := by omega
        _ ≤ (4503599627370496 + s % 4503599627370496) * 2 ^ (s / 4503599627370496 - 1) := Nat.mul_le_mul (by omega) this
  · have hs : ¬ s < 4503599627370496 := by omega
    rw [if_neg hr, if_neg hs]
    have e1 : 1 ≤ r / 4503599627370496 := by omega
    by_cases he : r / 4503599627370496 = s / 4503599627370496
    · rw [he]
      exact Nat.mul_lt_mul_of_pos_right (by omega) (two _)
    · have hlt : r / 4503599627370496 + 1 ≤ s / 4503599627370496 := by omega
      have hp : 2 ^ (r / 4503599627370496) ≤ 2 ^ (s / 4503599627370496 - 1) := Nat.pow_le_pow_right (by omega) (by omega)
      have hq : 2 ^ (r / 4503599627370496) = 2 * 2 ^ (r / 4503599627370496 - 1) := by
        rw [← Nat.pow_succ']
        congr 1
        omega
      have ht := two (r / 4503599627370496 - 1)
      calc (4503599627370496 + r % 4503599627370496) * 2 ^ (r / 4503599627370496 - 1)
          < (4503599627370496 * 2) * 2 ^ (r / 4503599627370496 - 1) := Nat.mul_lt_mul_of_pos_right (by omega) ht
        _ = 4503599627370496 * 2 ^ (r / 4503599627370496) := by rw [hq, Nat.mul_assoc]
        _ ≤ (4503599627370496 + s % 4503599627370496) * 2 ^ (s / 4503599627370496 - 1) := Nat.mul_le_mul (by omega) hp

theorem mag_lt {r s : Nat} : mag r < mag s ↔ r < s := by
  constructor
  · intro h
    rcases Nat.lt_trichotomy r s with e | e | e
    · exact e
    · subst e; omega
    · have := mag_mono e; omega
  · exact mag_mono

theorem e_sw : double.signWeight = 9223372036854775808 := by decide
theorem e_bi : double.binade = 4503599627370496 := by decide
theorem e_inf : double.infRung = 9218868437227405312 := by decide
theorem e_lp : double.leastPlace = -1074 := by decide

theorem read_number (b : Nat) (h : rng b < infR) : ∃ (m : Nat) (p : Int), double.read b = .number (sgn b) m p ∧ -1074 ≤ p ∧ m * 2 ^ (p + 1074).toNat = mag (rng b) := by
  unfold Format.read
  simp only [e_sw, e_bi, e_inf, e_lp]
  unfold rng infR at h
  unfold mag rng sgn
  by_cases h1 : b % 9223372036854775808 < 4503599627370496
  · rw [if_pos h1, if_pos h1]
    exact ⟨_, _, rfl, by omega, by simp⟩
  · rw [if_neg h1, if_neg h1, if_pos h]
    refine ⟨_, _, rfl, by omega, ?_⟩
    congr 2
    omega

theorem read_inf (b : Nat) (h : rng b = infR) : double.read b = .infinity (sgn b) := by
  unfold Format.read
  simp only [e_sw, e_bi, e_inf, e_lp]
  unfold rng infR at h
  unfold sgn
  rw [h]
  rfl

theorem read_nan (b : Nat) (h : infR < rng b) : ∃ t, double.read b = .nan (sgn b) t := by
  unfold Format.read
  simp only [e_sw, e_bi, e_inf, e_lp]
  unfold rng infR at h
  unfold sgn
  rw [if_neg (by omega), if_neg (by omega), if_neg (by omega)]
  exact ⟨_, rfl⟩

/-- Where a float that is no NaN stands. -/
def sval (b : Nat) : Int := if sgn b then -(rng b : Int) else rng b

theorem compare_of {x y x' y' : Int} (h1 : x < y ↔ x' < y') (h2 : x = y ↔ x' = y') : compare x y = compare x' y' := by
  simp only [compare, compareOfLessAndEq, h1, h2]

theorem order_eq (b c : Nat) (hb : rng b ≤ infR) (hc : rng c ≤ infR) : double.order b c = some (compare (sval b) (sval c)) := by
  unfold Format.order
  by_cases hb' : rng b = infR
  · rw [read_inf b hb']
    by_cases hc' : rng c = infR
    · rw [read_inf c hc']
      simp only [Datum.order, sval, hb', hc', infR]
      cases sgn b <;> cases sgn c <;> decide
    · obtain ⟨m, p, e, -, -⟩ := read_number c (by omega)
      rw [e]
      simp only [Datum.order, sval, hb']
      have := compare_of (x := if sgn b then -1 else 1) (y := 0) (x' := if sgn b then -(infR : Int) else infR) (y' := if sgn c then -(rng c : Int) else rng c) (by split <;> split <;> omega) (by split <;> split <;> omega)
      rw [← this]
      cases sgn b <;> decide
  · obtain ⟨m, p, e, hp, hm⟩ := read_number b (by omega)
    rw [e]
    by_cases hc' : rng c = infR
    · rw [read_inf c hc']
      simp only [Datum.order, sval, hc']
      have := compare_of (x := 0) (y := if sgn c then -1 else 1) (x' := if sgn b then -(rng b : Int) else rng b) (y' := if sgn c then -(infR : Int) else infR) (by split <;> split <;> omega) (by split <;> split <;> omega)
      rw [← this]
      cases sgn c <;> decide
    · obtain ⟨n, q, e', hq, hn⟩ := read_number c (by omega)
      rw [e']
      simp only [Datum.order, sval]
      congr 1
      obtain ⟨A, hA⟩ : ∃ A, m <<< (p - min p q).toNat = A := ⟨_, rfl⟩
      obtain ⟨B, hB⟩ : ∃ B, n <<< (q - min p q).toNat = B := ⟨_, rfl⟩
      have kA : A * 2 ^ (min p q + 1074).toNat = mag (rng b) := by
        rw [← hA, ← hm, Nat.shiftLeft_eq, Nat.mul_assoc, ← Nat.pow_add]
        congr 2
        omega
      have kB : B * 2 ^ (min p q + 1074).toNat = mag (rng c) := by
        rw [← hB, ← hn, Nat.shiftLeft_eq, Nat.mul_assoc, ← Nat.pow_add]
        congr 2
        omega
      have pos : 0 < 2 ^ (min p q + 1074).toNat := Nat.two_pow_pos _
      generalize 2 ^ (min p q + 1074).toNat = K at kA kB pos
      have lt1 : A < B ↔ rng b < rng c := (Nat.mul_lt_mul_right pos).symm.trans (by rw [kA, kB]; exact mag_lt)
      have lt2 : B < A ↔ rng c < rng b := (Nat.mul_lt_mul_right pos).symm.trans (by rw [kA, kB]; exact mag_lt)
      have z1 : 0 < A ↔ 0 < rng b := by
        have hz : 0 < A * K ↔ 0 < rng b := by rw [kA]; exact (show mag 0 < mag (rng b) ↔ _ from mag_lt)
        rcases Nat.eq_zero_or_pos A with h | h
        · rw [h, Nat.zero_mul] at hz; omega
        · have := hz.1 (Nat.mul_pos h pos); omega
      have z2 : 0 < B ↔ 0 < rng c := by
        have hz : 0 < B * K ↔ 0 < rng c := by rw [kB]; exact (show mag 0 < mag (rng c) ↔ _ from mag_lt)
        rcases Nat.eq_zero_or_pos B with h | h
        · rw [h, Nat.zero_mul] at hz; omega
        · have := hz.1 (Nat.mul_pos h pos); omega
      unfold signed
      rw [hA, hB]
      refine compare_of ?_ ?_
      · cases sgn b <;> cases sgn c <;> simp <;> omega
      · cases sgn b <;> cases sgn c <;> simp <;> omega

theorem order_nan (b c : Nat) (h : infR < rng b ∨ infR < rng c) : double.order b c = none := by
  unfold Format.order
  rcases h with h | h
  · obtain ⟨t, e⟩ := read_nan b h
    rw [e]; rfl
  · obtain ⟨t, e⟩ := read_nan c h
    rw [e]
    cases double.read b <;> rfl
end Go.Lat
/- The walks of package float that look at a float alone: its class and its parts. -/
set_option maxRecDepth 100000
namespace Go.Proofs.YtmfngdjhkpddoaaGreatDoor.Fl
open Go.RowKit Go.Lat

theorem bits64 (b : Nat) (w : World) : (callFunc 107 #[.float .f64 b]).run Tryz.prog w = .ok (.value (.int .u64 b)) w := by
  rw [run_callFunc_extern Tryz.func107 (by kernel_rfl) (by kernel_rfl) (by kernel_rfl) (e := Extern.MathFloatBits.float64bits) (by kernel_rfl)]
  rfl
theorem Signbit_any (w : World) (b : Nat) : Calls Tryz.prog 164 #[.float .f64 b] w fun e w' => e = .returned (.bool (Lat.sgn b)) ∧ w' = w := by
  have hx := bits64 b
  have hd : decide (wrap64 (b : Int) < 0) = Lat.sgn b := by
    unfold Lat.sgn wrap64
    rw [Bool.eq_iff_iff]
    simp
    omega
  go_enter Tryz.func164, Tryz.ntmps164
  go_wp2_with fail
  go_ret
  exact ⟨rfl, rfl⟩

/-- The bits of a float whose sign is turned. -/
def neg64 (b : Nat) : Nat := b ^^^ 9223372036854775808
theorem neg64_rng (b : Nat) : rng (neg64 b) = rng b := by
  have h := Nat.xor_mod_two_pow (a := b) (b := 9223372036854775808) (n := 63)
  unfold rng neg64
  simpa using h
theorem neg64_div (b : Nat) : neg64 b / 9223372036854775808 = (b / 9223372036854775808) ^^^ 1 := by
  have h := Nat.shiftRight_xor_distrib (a := b) (b := 9223372036854775808) (i := 63)
  rw [Nat.shiftRight_eq_div_pow, Nat.shiftRight_eq_div_pow] at h
  unfold neg64
  simpa using h
theorem neg64_sgn (b : Nat) (hb : b < 18446744073709551616) : Lat.sgn (neg64 b) = !Lat.sgn b := by
  unfold Lat.sgn
  rw [neg64_div]
  have : b / 9223372036854775808 = 0 ∨ b / 9223372036854775808 = 1 := by omega
  rcases this with e | e <;> rw [e] <;> rfl
theorem neg64_sval (b : Nat) (hb : b < 18446744073709551616) : sval (neg64 b) = -sval b := by
  unfold sval
  rw [neg64_sgn b hb, neg64_rng]
  cases Lat.sgn b <;> simp
theorem run_neg64 (b : Nat) (w : World) : (Op.unary .neg (.float .f64 b)).run Tryz.prog w = .ok (.float .f64 (neg64 b)) w := rfl

theorem IsInf_up (w : World) (b : Nat) (x : Bool) (hx : (FloatKind.f64.format.order b 9218868437227405311 == some Ordering.gt) = x) : Calls Tryz.prog 163 #[.float .f64 b, .int .i64 1] w fun e w' => e = .returned (.bool x) ∧ w' = w := by
  go_enter Tryz.func163, Tryz.ntmps163
  go_wp2_with fail
  go_ret
  exact ⟨rfl, rfl⟩
theorem IsInf_down (w : World) (b : Nat) (x : Bool) (hx : (FloatKind.f64.format.order (neg64 b) 9218868437227405311 == some Ordering.gt) = x) : Calls Tryz.prog 163 #[.float .f64 b, .int .i64 (-1)] w fun e w' => e = .returned (.bool x) ∧ w' = w := by
  have hn := run_neg64 b
  go_enter Tryz.func163, Tryz.ntmps163
  go_wp2_with fail
  go_ret
  exact ⟨rfl, rfl⟩

def clsOf (x1 x2 x3 x4 x5 x6 : Bool) : Nat := if x1 then 0 else if x2 then 1 else if x3 then 6 else if x4 then 2 else if x5 then 5 else if x6 then 3 else 4

set_option maxHeartbeats 800000 in
theorem Of_gen (w : World) (b : Nat) (x1 x2 x3 x4 x5 x6 : Bool) (o1 : (FloatKind.f64.format.order b b != some Ordering.eq) = x1)
    (o2 : (FloatKind.f64.format.order (neg64 b) 9218868437227405311 == some Ordering.gt) = x2) (o3 : (FloatKind.f64.format.order b 9218868437227405311 == some Ordering.gt) = x3)
    (o4 : (FloatKind.f64.format.order b 0 == some Ordering.lt) = x4) (o5 : (FloatKind.f64.format.order b 0 == some Ordering.gt) = x5) (o6 : Lat.sgn b = x6) :
    Calls Tryz.prog 125 #[.float .f64 b] w fun e w' => e = .returned (.int .i64 (clsOf x1 x2 x3 x4 x5 x6)) ∧ w' = w := by
  have h2 := IsInf_down w b x2 o2
  have h3 := IsInf_up w b x3 o3
  have h6 := Signbit_any w b
  rw [o6] at h6
  clear o2 o3 o6
  cases x1 with
  | true =>
    go_enter Tryz.func125, Tryz.ntmps125
    go_wp2_with fail
    go_ret
    exact ⟨rfl, rfl⟩
  | false =>
    go_enter Tryz.func125, Tryz.ntmps125
    go_wp2_with fail
    refine Calls.mono h2 ?_
    clear h2
    rintro e w1 ⟨rfl, rfl⟩
    cases x2 with
    | true =>
      go_wp2_with fail
      go_ret
      exact ⟨rfl, rfl⟩
    | false =>
      go_wp2_with fail
      refine Calls.mono h3 ?_
      clear h3
      rintro e w1 ⟨rfl, rfl⟩
      cases x3 with
      | true =>
        go_wp2_with fail
        go_ret
        exact ⟨rfl, rfl⟩
      | false =>
        cases x4 with
        | true =>
          go_wp2_with fail
          go_ret
          exact ⟨rfl, rfl⟩
        | false =>
          cases x5 with
          | true =>
            go_wp2_with fail
            go_ret
            exact ⟨rfl, rfl⟩
          | false =>
            go_wp2_with fail
            refine Calls.mono h6 ?_
            clear h6
            rintro e w1 ⟨rfl, rfl⟩
            cases x6 with
            | true =>
              go_wp2_with fail
              go_ret
              exact ⟨rfl, rfl⟩
            | false =>
              go_wp2_with fail
              go_ret
              exact ⟨rfl, rfl⟩

/-- The class of a float by its bits. -/
def cls (b : Nat) : Nat := if infR < rng b then 0 else if Lat.sgn b then (if rng b = infR then 1 else if rng b = 0 then 3 else 2) else (if rng b = infR then 6 else if rng b = 0 then 4 else 5)

theorem cmp_lt (x y : Int) : (some (compare x y) == some Ordering.lt) = decide (x < y) := by
  simp only [compare, compareOfLessAndEq]
  split
  · rename_i h; simp [h]
  · rename_i h
    split <;> simp [h]
theorem cmp_eq (x y : Int) : (some (compare x y) == some Ordering.eq) = decide (x = y) := by
  simp only [compare, compareOfLessAndEq]
  split
  · rename_i h; have : x ≠ y := by omega
    simp [this]
  · split
    · rename_i h; simp [h]
    · rename_i h; simp [h]
theorem cmp_gt (x y : Int) : (some (compare x y) == some Ordering.gt) = decide (y < x) := by
  simp only [compare, compareOfLessAndEq]
  split
  · rename_i h; have : ¬ y < x := by omega
    simp [this]
  · split
    · rename_i h; have : ¬ y < x := by omega
      simp [this]
    · rename_i h1 h2; have : y < x := by omega
      simp [this]

theorem Of_any (w : World) (b : Nat) (hb : b < 18446744073709551616) : Calls Tryz.prog 125 #[.float .f64 b] w fun e w' => e = .returned (.int .i64 (cls b)) ∧ w' = w := by
  have key := Of_gen w b _ _ _ _ _ _ rfl rfl rfl rfl rfl rfl
  have e : clsOf (FloatKind.f64.format.order b b != some Ordering.eq) (FloatKind.f64.format.order (neg64 b) 9218868437227405311 == some Ordering.gt) (FloatKind.f64.format.order b 9218868437227405311 == some Ordering.gt) (FloatKind.f64.format.order b 0 == some Ordering.lt) (FloatKind.f64.format.order b 0 == some Ordering.gt) (Lat.sgn b) = cls b := by
    unfold cls
    change clsOf (Ieee.double.order b b != some Ordering.eq) (Ieee.double.order (neg64 b) 9218868437227405311 == some Ordering.gt) (Ieee.double.order b 9218868437227405311 == some Ordering.gt) (Ieee.double.order b 0 == some Ordering.lt) (Ieee.double.order b 0 == some Ordering.gt) (Lat.sgn b) = _
    by_cases hn : infR < rng b
    · rw [if_pos hn, order_nan b b (.inl hn)]
      rfl
    · rw [if_neg hn]
      have hl : rng b ≤ infR := by omega
      have hm : rng 9218868437227405311 ≤ infR := by decide
      have h0 : rng 0 ≤ infR := by decide
      rw [order_eq b b hl hl, order_eq (neg64 b) _ (by rw [neg64_rng]; exact hl) hm, order_eq b _ hl hm, order_eq b 0 hl h0, neg64_sval b hb]
      simp only [bne, cmp_lt, cmp_gt, cmp_eq]
      have m1 : sval 9218868437227405311 = 9218868437227405311 := by decide
      have m0 : sval 0 = 0 := by decide
      rw [m1, m0]
      unfold sval clsOf infR
      unfold infR at hl
      cases Lat.sgn b <;> simp
      · by_cases c1 : rng b = 9218868437227405312
        · simp [c1]
        · have c2 : ¬ (9218868437227405311 < (rng b : Int)) := by omega
          have c3 : ¬ (9218868437227405311 < -(rng b : Int)) := by omega
          have c6 : ¬ ((rng b : Int) < 0) := by omega
          by_cases c4 : rng b = 0
          · simp [c4]
          · have c5 : (0 : Nat) < rng b := by omega
            simp [c1, c2, c3, c4, c5, c6]
      · by_cases c1 : rng b = 9218868437227405312
        · simp [c1]
        · have c2 : ¬ (9218868437227405311 < (rng b : Int)) := by omega
          by_cases c4 : rng b = 0
          · simp [c4]
          · have c5 : (0 : Nat) < rng b := by omega
            simp [c1, c2, c4, c5]
  rw [e] at key
  exact key

/-- The whole number and the power of 2 of a float. -/
def pm (r : Nat) : Nat := if r / 4503599627370496 = 2047 then 0 else if r / 4503599627370496 = 0 then r % 4503599627370496 else r % 4503599627370496 + 4503599627370496
def pe (r : Nat) : Int := if r / 4503599627370496 = 2047 then 0 else if r / 4503599627370496 = 0 then -1074 else (r / 4503599627370496 : Nat) - 1075

theorem low52 (b : Nat) : b &&& 4503599627370495 = b % 4503599627370496 := Nat.and_two_pow_sub_one_eq_mod b 52
theorem low11 (b : Nat) : b &&& 2047 = b % 2048 := Nat.and_two_pow_sub_one_eq_mod b 11
theorem or52 (m : Nat) (h : m < 4503599627370496) : m ||| 4503599627370496 = m + 4503599627370496 := by
  have := Nat.two_pow_add_eq_or_of_lt (i := 52) (b := m) (by omega) 1
  rw [Nat.or_comm]
  rw [show 2 ^ 52 * 1 = 4503599627370496 from rfl] at this
  omega

set_option maxHeartbeats 800000 in
theorem Parts_any (w : World) (b : Nat) (hb : b < 18446744073709551616) : Calls Tryz.prog 165 #[.float .f64 b] w fun e w' => e = .returned (.tuple #[.bool (Lat.sgn b), .int .u64 (pm (rng b) : Nat), .int .i64 (pe (rng b))]) ∧ w' = w := by
  have hx := bits64 b
  obtain ⟨E, hE⟩ : ∃ E, rng b / 4503599627370496 = E := ⟨_, rfl⟩
  obtain ⟨M, hM⟩ : ∃ M, rng b % 4503599627370496 = M := ⟨_, rfl⟩
  have lE : E < 2048 := by unfold rng at hE; omega
  have lM : M < 4503599627370496 := by omega
  have e0 : ((b : Int) / 4503599627370496) = ((b / 4503599627370496 : Nat) : Int) := by omega
  have e1 : bits BinOp.and IntKind.u64 ((b : Int) / 4503599627370496) 2047 = (E : Int) := by
    rw [e0]
    have := bits_and_u64_nat (b / 4503599627370496) 2047 (by omega) (by omega)
    rw [low11] at this
    rw [show ((2047 : Nat) : Int) = 2047 from rfl] at this
    rw [this]
    unfold rng at hE
    omega
  have e2 : bits BinOp.and IntKind.u64 (b : Int) 4503599627370495 = (M : Int) := by
    have := bits_and_u64_nat b 4503599627370495 hb (by omega)
    rw [low52] at this
    rw [show ((4503599627370495 : Nat) : Int) = 4503599627370495 from rfl] at this
    rw [this]
    unfold rng at hM
    omega
  have e3 : bits BinOp.or IntKind.u64 (M : Int) 4503599627370496 = (M : Int) + 4503599627370496 := by
    have := bits_or_u64_nat M 4503599627370496 (by omega) (by omega)
    rw [or52 M lM] at this
    rw [show ((4503599627370496 : Nat) : Int) = 4503599627370496 from rfl] at this
    rw [this]
    omega
  have e4 : ((b : Int) / 9223372036854775808 == 1) = Lat.sgn b := by
    unfold Lat.sgn
    rw [Bool.eq_iff_iff]
    simp
    omega
  unfold pm pe
  rw [hE, hM]
  clear e0 hE hM
  have w1 : wrap64 (E : Int) = (E : Int) := by unfold wrap64; omega
  by_cases h1 : E = 2047
  · have d1 : ((E : Int) == 2047) = true := by simp; omega
    rw [if_pos h1, if_pos h1]
    clear h1
    go_enter Tryz.func165, Tryz.ntmps165
    go_wp2_with fail
    go_ret3
    exact ⟨rfl, rfl⟩
  · have d1 : ((E : Int) == 2047) = false := by simp; omega
    rw [if_neg h1, if_neg h1]
    clear h1
    by_cases h2 : E = 0
    · have d2 : ((E : Int) == 0) = true := by simp; omega
      rw [if_pos h2, if_pos h2]
      clear h2
      go_enter Tryz.func165, Tryz.ntmps165
      go_wp2_with fail
      go_ret3
      exact ⟨rfl, rfl⟩
    · have d2 : ((E : Int) == 0) = false := by simp; omega
      have w2 : wrap64 ((E : Int) - 1075) = (E : Int) - 1075 := by unfold wrap64; omega
      rw [if_neg h2, if_neg h2]
      clear h2
      go_enter Tryz.func165, Tryz.ntmps165
      go_wp2_with fail
      go_ret3
      exact ⟨by simp, rfl⟩
end Go.Proofs.YtmfngdjhkpddoaaGreatDoor.Fl
/- The walks of math/bits that package float leans on (Len64's and Mul64's after the kit's worked ones). -/
set_option maxRecDepth 100000
namespace Go.Proofs.YtmfngdjhkpddoaaGreatDoor.Fl
open Go.RowKit Go.Lat

set_option maxRecDepth 100000 in
theorem len8tab_size : (Lib.len8tab.size : Int) = 256 := by
  have : Lib.len8tab.size = 256 := by decide
  omega
theorem wrap_add (k a b : Nat) (hk : k ≤ 56) (ha : a ≤ 8) (hb : b = k + a) : RowKit.wrap64 ((k : Int) + RowKit.wrap64 (a : Int)) = (b : Int) := by
  unfold RowKit.wrap64
  omega
theorem wrap_wrap (a : Nat) (ha : a ≤ 8) : RowKit.wrap64 (RowKit.wrap64 (a : Int)) = (a : Int) := by
  unfold RowKit.wrap64
  omega
theorem wrap_one (a : Nat) (ha : a ≤ 8) : RowKit.wrap64 (a : Int) = (a : Int) := by
  unfold RowKit.wrap64
  omega
theorem len8_get (y : Int) (h : y.toNat < Lib.len8tab.size) : ((Lib.len8tab[y.toNat]'h).toNat : Int) = Lib.len8 y := by
  unfold Lib.len8
  rw [getElem?_pos Lib.len8tab y.toNat h]
  rfl

set_option maxHeartbeats 32000000 in
set_option maxRecDepth 1000000 in
theorem Len64_any (x : Int) (w : World) (h0 : 0 ≤ x) (h1 : x ≤ 18446744073709551615) :
    Calls Tryz.prog 181 #[.int .u64 x] w fun e w' => e = .returned (.int .i64 (Lib.bitLen x.toNat)) ∧ w' = w := by
  go_enter Tryz.func181, Tryz.ntmps181
  go_wp2
  all_goals first
    | (go_ret; refine ⟨congrArg Ending.returned (congrArg (Value.int IntKind.i64) ?_), rfl⟩; go_light)
    | (exfalso
       go_light
       have hs := len8tab_size
       omega)
  all_goals first
    | (rw [len8_get (x / 4294967296 / 65536 / 256) _, Lib.len8_of (x / 4294967296 / 65536 / 256) (by omega) (by omega)]
       have e : (x / 4294967296 / 65536 / 256).toNat = x.toNat / 72057594037927936 := by omega
       have l := Lib.bitLen_le8' (x / 4294967296 / 65536 / 256) (by omega) (by omega)
       have s := Lib.bitLen_shift56 x.toNat (by omega) (by omega)
       rw [e] at l ⊢
       exact wrap_add 56 _ _ (by decide) l s)
    | (rw [len8_get (x / 4294967296 / 65536) _, Lib.len8_of (x / 4294967296 / 65536) (by omega) (by omega)]
       have e : (x / 4294967296 / 65536).toNat = x.toNat / 281474976710656 := by omega
       have l := Lib.bitLen_le8' (x / 4294967296 / 65536) (by omega) (by omega)
       have s := Lib.bitLen_shift48 x.toNat (by omega) (by omega)
       rw [e] at l ⊢
       exact wrap_add 48 _ _ (by decide) l s)
    | (rw [len8_get (x / 4294967296 / 256) _, Lib.len8_of (x / 4294967296 / 256) (by omega) (by omega)]
       have e : (x / 4294967296 / 256).toNat = x.toNat / 1099511627776 := by omega
       have l := Lib.bitLen_le8' (x / 4294967296 / 256) (by omega) (by omega)
       have s := Lib.bitLen_shift40 x.toNat (by omega) (by omega)
       rw [e] at l ⊢
       exact wrap_add 40 _ _ (by decide) l s)
    | (rw [len8_get (x / 4294967296) _, Lib.len8_of (x / 4294967296) (by omega) (by omega)]
       have e : (x / 4294967296).toNat = x.toNat / 4294967296 := by omega
       have l := Lib.bitLen_le8' (x / 4294967296) (by omega) (by omega)
       have s := Lib.bitLen_shift32 x.toNat (by omega) (by omega)
       rw [e] at l ⊢
       exact wrap_add 32 _ _ (by decide) l s)
    | (rw [len8_get (x / 65536 / 256) _, Lib.len8_of (x / 65536 / 256) (by omega) (by omega)]
       have e : (x / 65536 / 256).toNat = x.toNat / 16777216 := by omega
       have l := Lib.bitLen_le8' (x / 65536 / 256) (by omega) (by omega)
       have s := Lib.bitLen_shift24 x.toNat (by omega) (by omega)
       rw [e] at l ⊢
       exact wrap_add 24 _ _ (by decide) l s)
    | (rw [len8_get (x / 65536) _, Lib.len8_of (x / 65536) (by omega) (by omega)]
       have e : (x / 65536).toNat = x.toNat / 65536 := by omega
       have l := Lib.bitLen_le8' (x / 65536) (by omega) (by omega)
       have s := Lib.bitLen_shift16 x.toNat (by omega) (by omega)
       rw [e] at l ⊢
       exact wrap_add 16 _ _ (by decide) l s)
    | (rw [len8_get (x / 256) _, Lib.len8_of (x / 256) (by omega) (by omega)]
       have e : (x / 256).toNat = x.toNat / 256 := by omega
       have l := Lib.bitLen_le8' (x / 256) (by omega) (by omega)
       have s := Lib.bitLen_shift8 x.toNat (by omega) (by omega)
       rw [e] at l ⊢
       exact wrap_add 8 _ _ (by decide) l s)
    | (rw [len8_get (x) _, Lib.len8_of (x) (by omega) (by omega)]
       have e : (x).toNat = x.toNat := by omega
       have l := Lib.bitLen_le8' (x) (by omega) (by omega)
       rw [e] at l ⊢
       first | exact wrap_wrap _ l | exact wrap_add 0 _ _ (by decide) l (by omega) | exact wrap_one _ l)

set_option maxHeartbeats 1000000 in
theorem Mul64_any (w : World) (x y : Nat) (hx : x < 18446744073709551616) (hy : y < 18446744073709551616) : Calls Tryz.prog 158 #[.int .u64 x, .int .u64 y] w fun e w' => e = .returned (.tuple #[.int .u64 ((x * y / 18446744073709551616 : Nat) : Int), .int .u64 ((x * y % 18446744073709551616 : Nat) : Int)]) ∧ w' = w := by
  obtain ⟨bd, bt, bw, hhi⟩ := Lib.mul64_hi x y hx hy
  have ba := Lib.half_mul_le (a := x / 4294967296) (b := y / 4294967296) (by omega) (by omega)
  have bb := Lib.half_mul_le (a := x / 4294967296) (b := y % 4294967296) (by omega) (by omega)
  have bc := Lib.half_mul_le (a := x % 4294967296) (b := y / 4294967296) (by omega) (by omega)
  have ba' : x / 4294967296 * (y / 4294967296) < 18446744073709551616 := by omega
  have bb' : x / 4294967296 * (y % 4294967296) < 18446744073709551616 := by omega
  have bc' : x % 4294967296 * (y / 4294967296) < 18446744073709551616 := by omega
  have bh1 : x / 4294967296 * (y / 4294967296) + (x / 4294967296 * (y % 4294967296) + x % 4294967296 * (y % 4294967296) / 4294967296) / 4294967296 < 18446744073709551616 := by omega
  have bh : x / 4294967296 * (y / 4294967296) + (x / 4294967296 * (y % 4294967296) + x % 4294967296 * (y % 4294967296) / 4294967296) / 4294967296 + ((x / 4294967296 * (y % 4294967296) + x % 4294967296 * (y % 4294967296) / 4294967296) % 4294967296 + x % 4294967296 * (y / 4294967296)) / 4294967296 < 18446744073709551616 := by omega
  go_enter Tryz.func158, Tryz.ntmps158
  go_wp2
  simp only [Mul64.maskN x hx, Mul64.maskN y hy, Mul64.divN, Mul64.mulN, Mul64.addN, Mul64.wrapN _ bd, Mul64.wrapN _ bb', Mul64.wrapN _ bt, Mul64.maskN _ bt, Mul64.wrapN _ bc', Mul64.wrapN _ bw, Mul64.wrapN _ ba', Mul64.wrapN _ bh1, Mul64.wrapN _ bh, Mul64.wrapM (x * y)]
  rw [hhi]
  go_ret2
  exact ⟨rfl, rfl⟩

theorem add64 (x y : Nat) (w : World) : (callFunc 182 #[.int .u64 x, .int .u64 y, .int .u64 0]).run Tryz.prog w =
      .ok (.value (.tuple #[.int .u64 (((x + y) % 18446744073709551616 : Nat) : Int), .int .u64 (((x + y) / 18446744073709551616 : Nat) : Int)])) w := by
  rw [run_callFunc_extern Tryz.func182 (by kernel_rfl) (by kernel_rfl) (by kernel_rfl) (e := add64Entry) (by kernel_rfl), run_add64 x y 0 (by omega) (by omega) (by omega) (by omega)]
  simp only [Result.andThen]
  congr 5 <;> omega
end Go.Proofs.YtmfngdjhkpddoaaGreatDoor.Fl
