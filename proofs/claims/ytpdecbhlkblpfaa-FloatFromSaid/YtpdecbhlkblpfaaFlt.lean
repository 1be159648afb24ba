/- The walks of package float that look at a float alone: its class and its parts. -/
import Derived.Test.YtpdecbhlkblpfaaLib
import Derived.Test.YtpdecbhlkblpfaaBits
import Derived.Laws.Externs
import Derived.Laws.Bits64
import Derived.Laws.Bits64b
set_option maxRecDepth 100000
namespace Go.Proofs.Ytpdecbhlkblpfaa
open Go.RowKit Go.Lat

theorem bits64 (b : Nat) (w : World) : (callFunc 26 #[.float .f64 b]).run Try.prog w = .ok (.value (.int .u64 b)) w := by
  rw [run_callFunc_extern Try.func26 (by kernel_rfl) (by kernel_rfl) (by kernel_rfl) (e := Extern.MathFloatBits.float64bits) (by kernel_rfl)]
  rfl
theorem frombits64 (n : Nat) (w : World) : (callFunc 10 #[.int .u64 n]).run Try.prog w = .ok (.value (.float .f64 n)) w := by
  rw [run_callFunc_extern Try.func10 (by kernel_rfl) (by kernel_rfl) (by kernel_rfl) (e := Extern.MathFloatBits.float64frombits) (by kernel_rfl)]
  rfl

theorem Signbit_any (w : World) (b : Nat) : Calls Try.prog 28 #[.float .f64 b] w fun e w' => e = .returned (.bool (sgn b)) ∧ w' = w := by
  have hx := bits64 b
  have hd : decide (wrap64 (b : Int) < 0) = sgn b := by
    unfold sgn wrap64
    rw [Bool.eq_iff_iff]
    simp
    omega
  go_enter Try.func28, Try.ntmps28
  go_wp2_with fail
  go_ret
  exact ⟨rfl, rfl⟩

/-- The bits of a float whose sign is turned. -/
def neg64 (b : Nat) : Nat := b ^^^ 9223372036854775808
theorem neg64_rng (b : Nat) : rng (neg64 b) = rng b := by
  have h := Nat.xor_mod_two_pow (a := b) (b := 9223372036854775808) (n := 63)
  unfold rng neg64
  simpa using h
theorem neg64_div (b : Nat) : neg64 b / 9223372036854775808 = (b / 9223372036854775808) ^^^ 1 := by
  have h := Nat.shiftRight_xor_distrib (a := b) (b := 9223372036854775808) (i := 63)
  rw [Nat.shiftRight_eq_div_pow, Nat.shiftRight_eq_div_pow] at h
  unfold neg64
  simpa using h
theorem neg64_lt (b : Nat) (hb : b < 18446744073709551616) : neg64 b < 18446744073709551616 := by
  have := Nat.xor_lt_two_pow (n := 64) (x := b) (y := 9223372036854775808) (by omega) (by omega)
  unfold neg64
  omega
theorem neg64_sgn (b : Nat) (hb : b < 18446744073709551616) : sgn (neg64 b) = !sgn b := by
  unfold sgn
  rw [neg64_div]
  have : b / 9223372036854775808 = 0 ∨ b / 9223372036854775808 = 1 := by omega
  rcases this with e | e <;> rw [e] <;> rfl
theorem neg64_sval (b : Nat) (hb : b < 18446744073709551616) : sval (neg64 b) = -sval b := by
  unfold sval
  rw [neg64_sgn b hb, neg64_rng]
  cases sgn b <;> simp
theorem run_neg64 (b : Nat) (w : World) : (Op.unary .neg (.float .f64 b)).run Try.prog w = .ok (.float .f64 (neg64 b)) w := rfl

theorem IsInf_up (w : World) (b : Nat) (x : Bool) (hx : (FloatKind.f64.format.order b 9218868437227405311 == some Ordering.gt) = x) : Calls Try.prog 27 #[.float .f64 b, .int .i64 1] w fun e w' => e = .returned (.bool x) ∧ w' = w := by
  go_enter Try.func27, Try.ntmps27
  go_wp2_with fail
  go_ret
  exact ⟨rfl, rfl⟩
theorem IsInf_down (w : World) (b : Nat) (x : Bool) (hx : (FloatKind.f64.format.order (neg64 b) 9218868437227405311 == some Ordering.gt) = x) : Calls Try.prog 27 #[.float .f64 b, .int .i64 (-1)] w fun e w' => e = .returned (.bool x) ∧ w' = w := by
  have hn := run_neg64 b
  go_enter Try.func27, Try.ntmps27
  go_wp2_with fail
  go_ret
  exact ⟨rfl, rfl⟩

def clsOf (x1 x2 x3 x4 x5 x6 : Bool) : Nat := if x1 then 0 else if x2 then 1 else if x3 then 6 else if x4 then 2 else if x5 then 5 else if x6 then 3 else 4

set_option maxHeartbeats 800000 in
theorem Of_gen (w : World) (b : Nat) (x1 x2 x3 x4 x5 x6 : Bool) (o1 : (FloatKind.f64.format.order b b != some Ordering.eq) = x1)
    (o2 : (FloatKind.f64.format.order (neg64 b) 9218868437227405311 == some Ordering.gt) = x2) (o3 : (FloatKind.f64.format.order b 9218868437227405311 == some Ordering.gt) = x3)
    (o4 : (FloatKind.f64.format.order b 0 == some Ordering.lt) = x4) (o5 : (FloatKind.f64.format.order b 0 == some Ordering.gt) = x5) (o6 : sgn b = x6) :
    Calls Try.prog 13 #[.float .f64 b] w fun e w' => e = .returned (.int .i64 (clsOf x1 x2 x3 x4 x5 x6)) ∧ w' = w := by
  have h2 := IsInf_down w b x2 o2
  have h3 := IsInf_up w b x3 o3
  have h6 := Signbit_any w b
  rw [o6] at h6
  clear o2 o3 o6
  cases x1 with
  | true =>
    go_enter Try.func13, Try.ntmps13
    go_wp2_with fail
    go_ret
    exact ⟨rfl, rfl⟩
  | false =>
    go_enter Try.func13, Try.ntmps13
    go_wp2_with fail
    refine Calls.mono h2 ?_
    clear h2
    rintro e w1 ⟨rfl, rfl⟩
    cases x2 with
    | true =>
      go_wp2_with fail
      go_ret
      exact ⟨rfl, rfl⟩
    | false =>
      go_wp2_with fail
      refine Calls.mono h3 ?_
      clear h3
      rintro e w1 ⟨rfl, rfl⟩
      cases x3 with
      | true =>
        go_wp2_with fail
        go_ret
        exact ⟨rfl, rfl⟩
      | false =>
        cases x4 with
        | true =>
          go_wp2_with fail
          go_ret
          exact ⟨rfl, rfl⟩
        | false =>
          cases x5 with
          | true =>
            go_wp2_with fail
            go_ret
            exact ⟨rfl, rfl⟩
          | false =>
            go_wp2_with fail
            refine Calls.mono h6 ?_
            clear h6
            rintro e w1 ⟨rfl, rfl⟩
            cases x6 with
            | true =>
              go_wp2_with fail
              go_ret
              exact ⟨rfl, rfl⟩
            | false =>
              go_wp2_with fail
              go_ret
              exact ⟨rfl, rfl⟩

/-- The class of a float by its bits. -/
def cls (b : Nat) : Nat := if infR < rng b then 0 else if sgn b then (if rng b = infR then 1 else if rng b = 0 then 3 else 2) else (if rng b = infR then 6 else if rng b = 0 then 4 else 5)

theorem cmp_lt (x y : Int) : (some (compare x y) == some Ordering.lt) = decide (x < y) := by
  simp only [compare, compareOfLessAndEq]
  split
  · rename_i h; simp [h]
  · rename_i h
    split <;> simp [h]
theorem cmp_eq (x y : Int) : (some (compare x y) == some Ordering.eq) = decide (x = y) := by
  simp only [compare, compareOfLessAndEq]
  split
  · rename_i h; have : x ≠ y := by omega
    simp [this]
  · split
    · rename_i h; simp [h]
    · rename_i h; simp [h]
theorem cmp_gt (x y : Int) : (some (compare x y) == some Ordering.gt) = decide (y < x) := by
  simp only [compare, compareOfLessAndEq]
  split
  · rename_i h; have : ¬ y < x := by omega
    simp [this]
  · split
    · rename_i h; have : ¬ y < x := by omega
      simp [this]
    · rename_i h1 h2; have : y < x := by omega
      simp [this]

theorem Of_any (w : World) (b : Nat) (hb : b < 18446744073709551616) : Calls Try.prog 13 #[.float .f64 b] w fun e w' => e = .returned (.int .i64 (cls b)) ∧ w' = w := by
  have key := Of_gen w b _ _ _ _ _ _ rfl rfl rfl rfl rfl rfl
  have e : clsOf (FloatKind.f64.format.order b b != some Ordering.eq) (FloatKind.f64.format.order (neg64 b) 9218868437227405311 == some Ordering.gt) (FloatKind.f64.format.order b 9218868437227405311 == some Ordering.gt) (FloatKind.f64.format.order b 0 == some Ordering.lt) (FloatKind.f64.format.order b 0 == some Ordering.gt) (sgn b) = cls b := by
    unfold cls
    change clsOf (Ieee.double.order b b != some Ordering.eq) (Ieee.double.order (neg64 b) 9218868437227405311 == some Ordering.gt) (Ieee.double.order b 9218868437227405311 == some Ordering.gt) (Ieee.double.order b 0 == some Ordering.lt) (Ieee.double.order b 0 == some Ordering.gt) (sgn b) = _
    by_cases hn : infR < rng b
    · rw [if_pos hn, order_nan b b (.inl hn)]
      rfl
    · rw [if_neg hn]
      have hl : rng b ≤ infR := by omega
      have hm : rng 9218868437227405311 ≤ infR := by decide
      have h0 : rng 0 ≤ infR := by decide
      rw [order_eq b b hl hl, order_eq (neg64 b) _ (by rw [neg64_rng]; exact hl) hm, order_eq b _ hl hm, order_eq b 0 hl h0, neg64_sval b hb]
      simp only [bne, cmp_lt, cmp_gt, cmp_eq]
      have m1 : sval 9218868437227405311 = 9218868437227405311 := by decide
      have m0 : sval 0 = 0 := by decide
      rw [m1, m0]
      unfold sval clsOf infR
      unfold infR at hl
      cases sgn b <;> simp
      · by_cases c1 : rng b = 9218868437227405312
        · simp [c1]
        · have c2 : ¬ (9218868437227405311 < (rng b : Int)) := by omega
          have c3 : ¬ (9218868437227405311 < -(rng b : Int)) := by omega
          have c6 : ¬ ((rng b : Int) < 0) := by omega
          by_cases c4 : rng b = 0
          · simp [c4]
          · have c5 : (0 : Nat) < rng b := by omega
            simp [c1, c2, c3, c4, c5, c6]
      · by_cases c1 : rng b = 9218868437227405312
        · simp [c1]
        · have c2 : ¬ (9218868437227405311 < (rng b : Int)) := by omega
          by_cases c4 : rng b = 0
          · simp [c4]
          · have c5 : (0 : Nat) < rng b := by omega
            simp [c1, c2, c4, c5]
  rw [e] at key
  exact key

/-- The whole number and the power of 2 of a float. -/
def pm (r : Nat) : Nat := if r / 4503599627370496 = 2047 then 0 else if r / 4503599627370496 = 0 then r % 4503599627370496 else r % 4503599627370496 + 4503599627370496
def pe (r : Nat) : Int := if r / 4503599627370496 = 2047 then 0 else if r / 4503599627370496 = 0 then -1074 else (r / 4503599627370496 : Nat) - 1075

theorem low52 (b : Nat) : b &&& 4503599627370495 = b % 4503599627370496 := Nat.and_two_pow_sub_one_eq_mod b 52
theorem low11 (b : Nat) : b &&& 2047 = b % 2048 := Nat.and_two_pow_sub_one_eq_mod b 11
theorem or52 (m : Nat) (h : m < 4503599627370496) : m ||| 4503599627370496 = m + 4503599627370496 := by
  have := Nat.two_pow_add_eq_or_of_lt (i := 52) (b := m) (by omega) 1
  rw [Nat.or_comm]
  rw [show 2 ^ 52 * 1 = 4503599627370496 from rfl] at this
  omega

set_option maxHeartbeats 800000 in
theorem Parts_any (w : World) (b : Nat) (hb : b < 18446744073709551616) : Calls Try.prog 11 #[.float .f64 b] w fun e w' => e = .returned (.tuple #[.bool (sgn b), .int .u64 (pm (rng b) : Nat), .int .i64 (pe (rng b))]) ∧ w' = w := by
  have hx := bits64 b
  obtain ⟨E, hE⟩ : ∃ E, rng b / 4503599627370496 = E := ⟨_, rfl⟩
  obtain ⟨M, hM⟩ : ∃ M, rng b % 4503599627370496 = M := ⟨_, rfl⟩
  have lE : E < 2048 := by unfold rng at hE; omega
  have lM : M < 4503599627370496 := by omega
  have e0 : ((b : Int) / 4503599627370496) = ((b / 4503599627370496 : Nat) : Int) := by omega
  have e1 : bits BinOp.and IntKind.u64 ((b : Int) / 4503599627370496) 2047 = (E : Int) := by
    rw [e0]
    have := bits_and_u64_nat (b / 4503599627370496) 2047 (by omega) (by omega)
    rw [low11] at this
    rw [show ((2047 : Nat) : Int) = 2047 from rfl] at this
    rw [this]
    unfold rng at hE
    omega
  have e2 : bits BinOp.and IntKind.u64 (b : Int) 4503599627370495 = (M : Int) := by
    have := bits_and_u64_nat b 4503599627370495 hb (by omega)
    rw [low52] at this
    rw [show ((4503599627370495 : Nat) : Int) = 4503599627370495 from rfl] at this
    rw [this]
    unfold rng at hM
    omega
  have e3 : bits BinOp.or IntKind.u64 (M : Int) 4503599627370496 = (M : Int) + 4503599627370496 := by
    have := bits_or_u64_nat M 4503599627370496 (by omega) (by omega)
    rw [or52 M lM] at this
    rw [show ((4503599627370496 : Nat) : Int) = 4503599627370496 from rfl] at this
    rw [this]
    omega
  have e4 : ((b : Int) / 9223372036854775808 == 1) = sgn b := by
    unfold sgn
    rw [Bool.eq_iff_iff]
    simp
    omega
  unfold pm pe
  rw [hE, hM]
  clear e0 hE hM
  have w1 : wrap64 (E : Int) = (E : Int) := by unfold wrap64; omega
  by_cases h1 : E = 2047
  · have d1 : ((E : Int) == 2047) = true := by simp; omega
    rw [if_pos h1, if_pos h1]
    clear h1
    go_enter Try.func11, Try.ntmps11
    go_wp2_with fail
    go_ret3
    exact ⟨rfl, rfl⟩
  · have d1 : ((E : Int) == 2047) = false := by simp; omega
    rw [if_neg h1, if_neg h1]
    clear h1
    by_cases h2 : E = 0
    · have d2 : ((E : Int) == 0) = true := by simp; omega
      rw [if_pos h2, if_pos h2]
      clear h2
      go_enter Try.func11, Try.ntmps11
      go_wp2_with fail
      go_ret3
      exact ⟨rfl, rfl⟩
    · have d2 : ((E : Int) == 0) = false := by simp; omega
      have w2 : wrap64 ((E : Int) - 1075) = (E : Int) - 1075 := by unfold wrap64; omega
      rw [if_neg h2, if_neg h2]
      clear h2
      go_enter Try.func11, Try.ntmps11
      go_wp2_with fail
      go_ret3
      exact ⟨by simp, rfl⟩
end Go.Proofs.Ytpdecbhlkblpfaa
