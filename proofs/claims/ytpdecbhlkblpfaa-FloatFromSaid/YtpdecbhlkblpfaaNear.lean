/- Plain laws on rounding: what the nearest float of a number is, and what a quotient of two floats is, by their rungs. -/
import Derived.Test.YtpdecbhlkblpfaaBits
namespace Go.Lat
open Ieee

theorem mag_rung (L k : Nat) (hL : 1 ≤ L) (h1 : 4503599627370496 ≤ k) (h2 : k ≤ 9007199254740992) : mag (L * 4503599627370496 + k) = k * 2 ^ L := by
  unfold mag
  rw [if_neg (by omega)]
  by_cases h : k = 9007199254740992
  · subst h
    rw [show (L * 4503599627370496 + 9007199254740992) % 4503599627370496 = 0 from by omega, show (L * 4503599627370496 + 9007199254740992) / 4503599627370496 - 1 = L + 1 from by omega, Nat.pow_succ]
    omega
  · rw [show (L * 4503599627370496 + k) % 4503599627370496 = k - 4503599627370496 from by omega, show (L * 4503599627370496 + k) / 4503599627370496 - 1 = L from by omega,
      show 4503599627370496 + (k - 4503599627370496) = k from by omega]

theorem cut_even (s : Bool) (n d : Nat) (hd : d ≤ n.log2 + 2) : ∃ c, Toward.even.cut s n d = c ∧ n / 2 ^ d ≤ c ∧ c ≤ n / 2 ^ d + 1 ∧ 2 * (c * 2 ^ d) ≤ 2 * n + 2 ^ d ∧ 2 * n ≤ 2 * (c * 2 ^ d) + 2 ^ d := by
  unfold Toward.cut
  simp only [Nat.min_eq_left hd, Nat.one_shiftLeft]
  have hp : 0 < 2 ^ d := Nat.two_pow_pos d
  generalize 2 ^ d = g at hp ⊢
  have hdm := Nat.div_add_mod n g
  have hm := Nat.mod_lt n hp
  rw [Nat.mul_comm] at hdm
  generalize n / g = q at hdm ⊢
  generalize n % g = r at hdm hm ⊢
  refine ⟨_, rfl, by omega, ?_, ?_, ?_⟩
  · cases (decide (g < 2 * r) || (g == 2 * r && q % 2 == 1)) <;> simp
  · by_cases c1 : g < 2 * r
    · simp [c1, Nat.add_mul]; omega
    · by_cases c2 : g = 2 * r
      · by_cases c3 : q % 2 = 1
        · subst c2
          simp [c3, Nat.add_mul]
          omega
        · have : (q % 2 == 1) = false := by simp; omega
          simp [c1, this]; omega
      · have : (g == 2 * r) = false := by simp; omega
        simp [c1, this]; omega
  · by_cases c1 : g < 2 * r
    · simp [c1, Nat.add_mul]; omega
    · by_cases c2 : g = 2 * r
      · by_cases c3 : q % 2 = 1
        · subst c2
          simp [c3, Nat.add_mul]
          omega
        · have : (q % 2 == 1) = false := by simp; omega
          simp [c1, this]; omega
      · have : (g == 2 * r) = false := by simp; omega
        simp [c1, this]; omega

/-- The nearest float of m * 2 ^ p, if it is normal. -/
theorem near_norm (s : Bool) (m : Nat) (p : Int) (F L : Nat) (hm : 0 < m) (hF : p + 1074 = (F : Int)) (hL : L + 52 = F + m.log2) (hL1 : 1 ≤ L) (hL2 : L ≤ 2000) :
    ∃ k, double.nearest s m p = double.word s (L * 4503599627370496 + k) ∧ 4503599627370496 ≤ k ∧ k ≤ 9007199254740992 ∧
      2 * (k * 2 ^ L) ≤ 2 * (m * 2 ^ F) + 2 ^ L ∧ 2 * (m * 2 ^ F) ≤ 2 * (k * 2 ^ L) + 2 ^ L ∧ (m.log2 ≤ 52 → k * 2 ^ L = m * 2 ^ F) := by
  unfold Format.nearest
  rw [if_neg (by omega)]
  have ef : double.fractionBits = 52 := rfl
  simp only [e_lp, e_bi, e_inf, ef]
  have l1 : 2 ^ m.log2 ≤ m := Nat.log2_self_le (by omega)
  have l2 : m < 2 ^ (m.log2 + 1) := Nat.lt_log2_self
  have emax : max (p + (m.log2 : Int) - (52 : Nat)) (-1074) = (L : Int) - 1074 := by omega
  rw [emax]
  have eL : ((L : Int) - 1074 - -1074).toNat = L := by omega
  rw [eL]
  by_cases hl : m.log2 ≤ 52
  · have e1 : (p - ((L : Int) - 1074)).toNat = 52 - m.log2 := by omega
    have e2 : ((L : Int) - 1074 - p).toNat = 0 := by omega
    rw [e1, e2, Nat.shiftLeft_eq]
    obtain ⟨c, hc, c1, c2, c3, c4⟩ := cut_even s (m * 2 ^ (52 - m.log2)) 0 (by omega)
    rw [hc]
    simp only [Nat.pow_zero, Nat.mul_one, Nat.div_one] at c1 c2 c3 c4
    have hce : c = m * 2 ^ (52 - m.log2) := by omega
    have b1 : 4503599627370496 ≤ c := by
      rw [hce]
      have := Nat.mul_le_mul_right (2 ^ (52 - m.log2)) l1
      rw [← Nat.pow_add, show m.log2 + (52 - m.log2) = 52 from by omega] at this
      exact this
    have b2 : c ≤ 9007199254740992 := by
      rw [hce]
      have := Nat.mul_le_mul_right (2 ^ (52 - m.log2)) (Nat.le_of_lt l2)
      rw [← Nat.pow_add, show m.log2 + 1 + (52 - m.log2) = 53 from by omega] at this
      exact this
    have hv : c * 2 ^ L = m * 2 ^ F := by
      rw [hce, Nat.mul_assoc, ← Nat.pow_add]
      congr 2
      omega
    have pL : 0 < 2 ^ L := Nat.two_pow_pos L
    refine ⟨c, ?_, b1, b2, by rw [hv]; omega, by rw [hv]; omega, fun _ => hv⟩
    rw [Nat.min_eq_left (by omega)]
  · have e1 : (p - ((L : Int) - 1074)).toNat = 0 := by omega
    have e2 : ((L : Int) - 1074 - p).toNat = m.log2 - 52 := by omega
    rw [e1, e2, Nat.shiftLeft_eq, Nat.pow_zero, Nat.mul_one]
    obtain ⟨c, hc, c1, c2, c3, c4⟩ := cut_even s m (m.log2 - 52) (by omega)
    rw [hc]
    have hp : 0 < 2 ^ (m.log2 - 52) := Nat.two_pow_pos _
    have d1 : 4503599627370496 ≤ m / 2 ^ (m.log2 - 52) := by
      rw [Nat.le_div_iff_mul_le hp]
      have : 4503599627370496 * 2 ^ (m.log2 - 52) = 2 ^ m.log2 := by
        rw [show (4503599627370496 : Nat) = 2 ^ 52 from rfl, ← Nat.pow_add]
        congr 1
        omega
      omega
    have d2 : m / 2 ^ (m.log2 - 52) < 9007199254740992 := by
      rw [Nat.div_lt_iff_lt_mul hp]
      have : 9007199254740992 * 2 ^ (m.log2 - 52) = 2 ^ (m.log2 + 1) := by
        rw [show (9007199254740992 : Nat) = 2 ^ 53 from rfl, ← Nat.pow_add]
        congr 1
        omega
      omega
    have eLF : 2 ^ L = 2 ^ (m.log2 - 52) * 2 ^ F := by
      rw [← Nat.pow_add]
      congr 1
      omega
    have f1 := Nat.mul_le_mul_right (2 ^ F) c3
    have f2 := Nat.mul_le_mul_right (2 ^ F) c4
    refine ⟨c, ?_, by omega, by omega, ?_, ?_, fun h => absurd h hl⟩
    · rw [Nat.min_eq_left (by omega)]
    · rw [eLF]
      simp only [Nat.add_mul, Nat.mul_assoc] at f1 ⊢
      exact f1
    · rw [eLF]
      simp only [Nat.add_mul, Nat.mul_assoc] at f2 ⊢
      exact f2

theorem word_rng (s : Bool) (r : Nat) (h : r < 9223372036854775808) : rng (double.word s r) = r ∧ sgn (double.word s r) = s ∧ double.word s r < 18446744073709551616 := by
  unfold Format.word rng sgn
  rw [e_sw]
  cases s
  · simp; omega
  · simp; omega

theorem read_norm (b : Nat) (h1 : 4503599627370496 ≤ rng b) (h2 : rng b < infR) : double.read b = .number (sgn b) (4503599627370496 + rng b % 4503599627370496) (-1074 + (rng b / 4503599627370496 - 1 : Nat)) := by
  unfold Format.read
  simp only [e_sw, e_bi, e_inf, e_lp]
  unfold rng infR at *
  unfold sgn
  rw [if_neg (by omega), if_pos h2]

theorem log2_52 (m : Nat) (h1 : 4503599627370496 ≤ m) (h2 : m < 9007199254740992) : m.log2 = 52 :=
  (Nat.log2_eq_iff (by omega)).2 ⟨h1, h2⟩

/-- The quotient of two normal floats. -/
theorem div_norm (b c eb ec Mb Mc : Nat) (hb1 : 4503599627370496 ≤ rng b) (hb2 : rng b < infR) (hc1 : 4503599627370496 ≤ rng c) (hc2 : rng c < infR)
    (heb : rng b / 4503599627370496 = eb) (hec : rng c / 4503599627370496 = ec) (hMb : 4503599627370496 + rng b % 4503599627370496 = Mb) (hMc : 4503599627370496 + rng c % 4503599627370496 = Mc)
    (F : Nat) (hF : eb + 1019 = ec + F) (hF1 : 1 ≤ F) (hF2 : F ≤ 1900) :
    ∃ w q L k, double.div b c = some w ∧ sgn w = (sgn b ^^ sgn c) ∧ w < 18446744073709551616 ∧ rng w = L * 4503599627370496 + k ∧ 4503599627370496 ≤ k ∧ k ≤ 9007199254740992 ∧ F + 2 ≤ L ∧ L ≤ F + 3 ∧
      2 * (k * 2 ^ L) ≤ 2 * (q * 2 ^ F) + 2 ^ L ∧ 2 * (q * 2 ^ F) ≤ 2 * (k * 2 ^ L) + 2 ^ L ∧
      q * Mc < 2 * (Mb * 18014398509481984) + Mc ∧ 2 * (Mb * 18014398509481984) < q * Mc + Mc := by
  have rb := Nat.mod_lt (rng b) (show 0 < 4503599627370496 by omega)
  have rc := Nat.mod_lt (rng c) (show 0 < 4503599627370496 by omega)
  have ef : double.fractionBits + 2 = 54 := rfl
  unfold Format.div
  rw [read_norm b hb1 hb2, read_norm c hc1 hc2, heb, hec, hMb, hMc]
  simp only [Datum.quotient]
  rw [if_neg (by omega), log2_52 Mb (by omega) (by omega), log2_52 Mc (by omega) (by omega), ef]
  simp only [Option.map_some, Format.write, Nat.shiftLeft_eq]
  rw [show 2 ^ (54 + 52 - 52) = 18014398509481984 from rfl]
  obtain ⟨D, hD⟩ : ∃ D, Mb * 18014398509481984 = D := ⟨_, rfl⟩
  rw [hD]
  obtain ⟨t, ht⟩ : ∃ t, D / Mc = t := ⟨_, rfl⟩
  obtain ⟨r, hr⟩ : ∃ r, D % Mc = r := ⟨_, rfl⟩
  rw [ht, hr]
  have hdm := Nat.div_add_mod D Mc
  have hml := Nat.mod_lt D (show 0 < Mc by omega)
  rw [ht, hr] at hdm
  rw [hr] at hml
  obtain ⟨z, hz⟩ : ∃ z, (r != 0).toNat = z := ⟨_, rfl⟩
  have hz1 : z ≤ 1 := by rw [← hz]; cases (r != 0) <;> simp
  have hz2 : r = 0 → z = 0 := fun h => by rw [← hz, h]; rfl
  have hz3 : r ≠ 0 → z = 1 := fun h => by
    rw [← hz, bne_iff_ne.2 h]; rfl
  rw [hz]
  obtain ⟨q, hq⟩ : ∃ q, 2 * t + z = q := ⟨_, rfl⟩
  rw [hq]
  have t1 : 9007199254740992 ≤ t := by
    rw [← ht, Nat.le_div_iff_mul_le (by omega)]
    omega
  have t2 : t < 36028797018963968 := by
    rw [← ht, Nat.div_lt_iff_lt_mul (by omega)]
    omega
  have lq : q.log2 = 54 ∨ q.log2 = 55 := by
    rcases Nat.lt_or_ge q 36028797018963968 with h | h
    · exact .inl ((Nat.log2_eq_iff (by omega)).2 ⟨by omega, by omega⟩)
    · exact .inr ((Nat.log2_eq_iff (by omega)).2 ⟨by omega, by omega⟩)
  have hMct : q * Mc = 2 * (Mc * t) + z * Mc := by
    rw [← hq, Nat.add_mul, Nat.mul_assoc, Nat.mul_comm t Mc]
  have hzm : z * Mc = if r = 0 then 0 else Mc := by
    split
    · rename_i h; rw [hz2 h, Nat.zero_mul]
    · rename_i h; rw [hz3 h, Nat.one_mul]
  obtain ⟨L, hL⟩ : ∃ L, L + 52 = F + q.log2 := ⟨F + q.log2 - 52, by omega⟩
  obtain ⟨k, k1, k2, k3, k4, k5, -⟩ := near_norm (sgn b ^^ sgn c) q (-1074 + ((eb - 1 : Nat) : Int) - (-1074 + ((ec - 1 : Nat) : Int)) - ((54 + 52 - 52 : Nat) : Int) - 1) F L (by omega) (by unfold infR at *; omega) hL (by omega) (by omega)
  have wr := word_rng (sgn b ^^ sgn c) (L * 4503599627370496 + k) (by omega)
  refine ⟨_, q, L, k, rfl, ?_, ?_, ?_, k2, k3, by omega, by omega, k4, k5, ?_, ?_⟩
  · rw [k1]; exact wr.2.1
  · rw [k1]; exact wr.2.2
  · rw [k1]; exact wr.1
  · rw [hMct, hzm]
    split <;> omega
  · rw [hMct, hzm]
    split <;> omega
end Go.Lat
