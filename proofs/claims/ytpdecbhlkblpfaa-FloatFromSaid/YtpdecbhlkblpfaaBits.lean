/- Plain laws on the bits of a float64: what stands where, and that the order of two floats is the order of their signed rungs. No condition. -/
import Ieee.Arith
namespace Go.Lat
open Ieee

/-- The bits of a float64 but its sign. -/
def rng (b : Nat) : Nat := b % 9223372036854775808
def sgn (b : Nat) : Bool := b / 9223372036854775808 % 2 == 1
/-- The rung of the infinities. -/
def infR : Nat := 9218868437227405312
/-- What a rung stands for, in units of the least one. -/
def mag (r : Nat) : Nat := if r < 4503599627370496 then r else (4503599627370496 + r % 4503599627370496) * 2 ^ (r / 4503599627370496 - 1)

theorem mag_mono {r s : Nat} (h : r < s) : mag r < mag s := by
  unfold mag
  have two : ∀ k : Nat, 0 < 2 ^ k := fun k => Nat.two_pow_pos k
  by_cases hr : r < 4503599627370496
  · by_cases hs : s < 4503599627370496
    · rw [if_pos hr, if_pos hs]; exact h
    · rw [if_pos hr, if_neg hs]
      have := two (s / 4503599627370496 - 1)
      calc r < 4503599627370496 * 1 := by omega
        _ ≤ (4503599627370496 + s % 4503599627370496) * 2 ^ (s / 4503599627370496 - 1) := Nat.mul_le_mul (by omega) this
  · have hs : ¬ s < 4503599627370496 := by omega
    rw [if_neg hr, if_neg hs]
    have e1 : 1 ≤ r / 4503599627370496 := by omega
    by_cases he : r / 4503599627370496 = s / 4503599627370496
    · rw [he]
      exact Nat.mul_lt_mul_of_pos_right (by omega) (two _)
    · have hlt : r / 4503599627370496 + 1 ≤ s / 4503599627370496 := by omega
      have hp : 2 ^ (r / 4503599627370496) ≤ 2 ^ (s / 4503599627370496 - 1) := Nat.pow_le_pow_right (by omega) (by omega)
      have hq : 2 ^ (r / 4503599627370496) = 2 * 2 ^ (r / 4503599627370496 - 1) := by
        rw [← Nat.pow_succ']
        congr 1
        omega
      have ht := two (r / 4503599627370496 - 1)
      calc (4503599627370496 + r % 4503599627370496) * 2 ^ (r / 4503599627370496 - 1)
          < (4503599627370496 * 2) * 2 ^ (r / 4503599627370496 - 1) := Nat.mul_lt_mul_of_pos_right (by omega) ht
        _ = 4503599627370496 * 2 ^ (r / 4503599627370496) := by rw [hq, Nat.mul_assoc]
        _ ≤ (4503599627370496 + s % 4503599627370496) * 2 ^ (s / 4503599627370496 - 1) := Nat.mul_le_mul (by omega) hp

theorem mag_lt {r s : Nat} : mag r < mag s ↔ r < s := by
  constructor
  · intro h
    rcases Nat.lt_trichotomy r s with e | e | e
    · exact e
    · subst e; omega
    · have := mag_mono e; omega
  · exact mag_mono

theorem e_sw : double.signWeight = 9223372036854775808 := by decide
theorem e_bi : double.binade = 4503599627370496 := by decide
theorem e_inf : double.infRung = 9218868437227405312 := by decide
theorem e_lp : double.leastPlace = -1074 := by decide

theorem read_number (b : Nat) (h : rng b < infR) : ∃ (m : Nat) (p : Int), double.read b = .number (sgn b) m p ∧ -1074 ≤ p ∧ m * 2 ^ (p + 1074).toNat = mag (rng b) := by
  unfold Format.read
  simp only [e_sw, e_bi, e_inf, e_lp]
  unfold rng infR at h
  unfold mag rng sgn
  by_cases h1 : b % 9223372036854775808 < 4503599627370496
  · rw [if_pos h1, if_pos h1]
    exact ⟨_, _, rfl, by omega, by simp⟩
  · rw [if_neg h1, if_neg h1, if_pos h]
    refine ⟨_, _, rfl, by omega, ?_⟩
    congr 2
    omega

theorem read_inf (b : Nat) (h : rng b = infR) : double.read b = .infinity (sgn b) := by
  unfold Format.read
  simp only [e_sw, e_bi, e_inf, e_lp]
  unfold rng infR at h
  unfold sgn
  rw [h]
  rfl

theorem read_nan (b : Nat) (h : infR < rng b) : ∃ t, double.read b = .nan (sgn b) t := by
  unfold Format.read
  simp only [e_sw, e_bi, e_inf, e_lp]
  unfold rng infR at h
  unfold sgn
  rw [if_neg (by omega), if_neg (by omega), if_neg (by omega)]
  exact ⟨_, rfl⟩

/-- Where a float that is no NaN stands. -/
def sval (b : Nat) : Int := if sgn b then -(rng b : Int) else rng b

theorem compare_of {x y x' y' : Int} (h1 : x < y ↔ x' < y') (h2 : x = y ↔ x' = y') : compare x y = compare x' y' := by
  simp only [compare, compareOfLessAndEq, h1, h2]

theorem order_eq (b c : Nat) (hb : rng b ≤ infR) (hc : rng c ≤ infR) : double.order b c = some (compare (sval b) (sval c)) := by
  unfold Format.order
  by_cases hb' : rng b = infR
  · rw [read_inf b hb']
    by_cases hc' : rng c = infR
    · rw [read_inf c hc']
      simp only [Datum.order, sval, hb', hc', infR]
      cases sgn b <;> cases sgn c <;> decide
    · obtain ⟨m, p, e, -, -⟩ := read_number c (by omega)
      rw [e]
      simp only [Datum.order, sval, hb']
      have := compare_of (x := if sgn b then -1 else 1) (y := 0) (x' := if sgn b then -(infR : Int) else infR) (y' := if sgn c then -(rng c : Int) else rng c) (by split <;> split <;> omega) (by split <;> split <;> omega)
      rw [← this]
      cases sgn b <;> decide
  · obtain ⟨m, p, e, hp, hm⟩ := read_number b (by omega)
    rw [e]
    by_cases hc' : rng c = infR
    · rw [read_inf c hc']
      simp only [Datum.order, sval, hc']
      have := compare_of (x := 0) (y := if sgn c then -1 else 1) (x' := if sgn b then -(rng b : Int) else rng b) (y' := if sgn c then -(infR : Int) else infR) (by split <;> split <;> omega) (by split <;> split <;> omega)
      rw [← this]
      cases sgn c <;> decide
    · obtain ⟨n, q, e', hq, hn⟩ := read_number c (by omega)
      rw [e']
      simp only [Datum.order, sval]
      congr 1
      obtain ⟨A, hA⟩ : ∃ A, m <<< (p - min p q).toNat = A := ⟨_, rfl⟩
      obtain ⟨B, hB⟩ : ∃ B, n <<< (q - min p q).toNat = B := ⟨_, rfl⟩
      have kA : A * 2 ^ (min p q + 1074).toNat = mag (rng b) := by
        rw [← hA, ← hm, Nat.shiftLeft_eq, Nat.mul_assoc, ← Nat.pow_add]
        congr 2
        omega
      have kB : B * 2 ^ (min p q + 1074).toNat = mag (rng c) := by
        rw [← hB, ← hn, Nat.shiftLeft_eq, Nat.mul_assoc, ← Nat.pow_add]
        congr 2
        omega
      have pos : 0 < 2 ^ (min p q + 1074).toNat := Nat.two_pow_pos _
      generalize 2 ^ (min p q + 1074).toNat = K at kA kB pos
      have lt1 : A < B ↔ rng b < rng c := (Nat.mul_lt_mul_right pos).symm.trans (by rw [kA, kB]; exact mag_lt)
      have lt2 : B < A ↔ rng c < rng b := (Nat.mul_lt_mul_right pos).symm.trans (by rw [kA, kB]; exact mag_lt)
      have z1 : 0 < A ↔ 0 < rng b := by
        have hz : 0 < A * K ↔ 0 < rng b := by rw [kA]; exact (show mag 0 < mag (rng b) ↔ _ from mag_lt)
        rcases Nat.eq_zero_or_pos A with h | h
        · rw [h, Nat.zero_mul] at hz; omega
        · have := hz.1 (Nat.mul_pos h pos); omega
      have z2 : 0 < B ↔ 0 < rng c := by
        have hz : 0 < B * K ↔ 0 < rng c := by rw [kB]; exact (show mag 0 < mag (rng c) ↔ _ from mag_lt)
        rcases Nat.eq_zero_or_pos B with h | h
        · rw [h, Nat.zero_mul] at hz; omega
        · have := hz.1 (Nat.mul_pos h pos); omega
      unfold signed
      rw [hA, hB]
      refine compare_of ?_ ?_
      · cases sgn b <;> cases sgn c <;> simp <;> omega
      · cases sgn b <;> cases sgn c <;> simp <;> omega

theorem order_nan (b c : Nat) (h : infR < rng b ∨ infR < rng c) : double.order b c = none := by
  unfold Format.order
  rcases h with h | h
  · obtain ⟨t, e⟩ := read_nan b h
    rw [e]; rfl
  · obtain ⟨t, e⟩ := read_nan c h
    rw [e]
    cases double.read b <;> rfl
end Go.Lat
