/- Plain law: where float.Sqrt begins its search is a whole number of a word. -/
import Derived.Test.YtpdecbhlkblpfaaBack
set_option maxRecDepth 100000
namespace Go.Proofs.Ytpdecbhlkblpfaa
open Go.RowKit Go.Lat

theorem rootFrom_lt (n : Nat) : ∀ (todo root : Nat), Ieee.Datum.rootFrom n todo root < root + 2 ^ todo
  | 0, root => by simp [Ieee.Datum.rootFrom]
  | todo + 1, root => by
    unfold Ieee.Datum.rootFrom
    simp only [Nat.one_shiftLeft, Nat.pow_succ]
    split
    · have := rootFrom_lt n todo (root + 2 ^ todo)
      omega
    · have := rootFrom_lt n todo root
      have hp : 0 < 2 ^ todo := Nat.two_pow_pos todo
      omega

/-- A product of two normal floats that aren't below 0. -/
theorem mul_norm (b c eb ec : Nat) (hb1 : 4503599627370496 ≤ rng b) (hb2 : rng b < infR) (hc1 : 4503599627370496 ≤ rng c) (hc2 : rng c < infR) (sb : sgn b = false) (sc : sgn c = false)
    (heb : rng b / 4503599627370496 = eb) (hec : rng c / 4503599627370496 = ec) (h1 : 1100 ≤ eb + ec) (h2 : eb + ec ≤ 2900) :
    ∃ w, Ieee.double.mul b c = some w ∧ sgn w = false ∧ w < 18446744073709551616 ∧ 4503599627370496 ≤ rng w ∧ rng w / 4503599627370496 + 1022 ≤ eb + ec + 2 ∧ eb + ec ≤ rng w / 4503599627370496 + 1026 := by
  have rb := Nat.mod_lt (rng b) (show 0 < 4503599627370496 by omega)
  have rc := Nat.mod_lt (rng c) (show 0 < 4503599627370496 by omega)
  obtain ⟨Mb, hMb⟩ : ∃ Mb, 4503599627370496 + rng b % 4503599627370496 = Mb := ⟨_, rfl⟩
  obtain ⟨Mc, hMc⟩ : ∃ Mc, 4503599627370496 + rng c % 4503599627370496 = Mc := ⟨_, rfl⟩
  unfold Ieee.Format.mul
  rw [read_norm b hb1 hb2, read_norm c hc1 hc2, heb, hec, hMb, hMc, sb, sc]
  simp only [Ieee.Datum.product, Option.map_some, Ieee.Format.write]
  have m1 := Nat.mul_le_mul (show 4503599627370496 ≤ Mb by omega) (show 4503599627370496 ≤ Mc by omega)
  have m2 := Nat.mul_lt_mul_of_lt_of_le (show Mb < 9007199254740992 by omega) (show Mc ≤ 9007199254740992 by omega) (show 0 < 9007199254740992 by omega)
  obtain ⟨q, hq⟩ : ∃ q, Mb * Mc = q := ⟨_, rfl⟩
  rw [hq] at m1 m2 ⊢
  have lq : q.log2 = 104 ∨ q.log2 = 105 := by
    rcases Nat.lt_or_ge q (2 ^ 105) with h | h
    · exact .inl ((Nat.log2_eq_iff (by omega)).2 ⟨by omega, h⟩)
    · exact .inr ((Nat.log2_eq_iff (by omega)).2 ⟨h, by omega⟩)
  obtain ⟨F, hF⟩ : ∃ F, eb + ec = F + 1076 := ⟨eb + ec - 1076, by omega⟩
  obtain ⟨L, hL⟩ : ∃ L, L + 52 = F + q.log2 := ⟨F + q.log2 - 52, by omega⟩
  obtain ⟨k, k1, k2, k3, -, -, -⟩ := near_norm (false ^^ false) q (-1074 + ((eb - 1 : Nat) : Int) + (-1074 + ((ec - 1 : Nat) : Int))) F L (by omega) (by unfold infR at *; omega) hL (by omega) (by omega)
  obtain ⟨w1, w2, w3⟩ := word_rng (false ^^ false) (L * 4503599627370496 + k) (by omega)
  refine ⟨_, rfl, ?_, ?_, ?_, ?_, ?_⟩
  · rw [k1, w2]; rfl
  · rw [k1]; exact w3
  · rw [k1, w1]; omega
  · rw [k1, w1]; omega
  · rw [k1, w1]; omega

/-- The square root of a normal float that isn't below 0 lies in a word. -/
theorem sqrt_norm (b eb : Nat) (hb1 : 4503599627370496 ≤ rng b) (hb2 : rng b < infR) (sb : sgn b = false) (heb : rng b / 4503599627370496 = eb) (h1 : 900 ≤ eb) (h2 : eb ≤ 1120) :
    ∃ w x, Ieee.double.sqrt b = some w ∧ floatToIntVal .f64 w .u64 = some ((x : Nat) : Int) ∧ x < 18446744073709551616 := by
  have rb := Nat.mod_lt (rng b) (show 0 < 4503599627370496 by omega)
  obtain ⟨M, hM⟩ : ∃ M, 4503599627370496 + rng b % 4503599627370496 = M := ⟨_, rfl⟩
  unfold Ieee.Format.sqrt
  rw [read_norm b hb1 hb2, heb, hM, sb]
  have ef : Ieee.double.fractionBits + 2 = 54 := rfl
  simp only [Ieee.Datum.root]
  rw [if_neg (by omega), if_neg (by simp), log2_52 M (by omega) (by omega), ef]
  obtain ⟨P, hP⟩ : ∃ P : Int, -1074 + ((eb - 1 : Nat) : Int) = P := ⟨_, rfl⟩
  rw [hP]
  have e56 : 2 * 54 - 52 = 56 := rfl
  rw [e56]
  obtain ⟨mo, hmo⟩ : ∃ mo, 56 + ((P - (56 : Nat)) % 2).toNat = mo := ⟨_, rfl⟩
  rw [hmo]
  have hmo2 : 56 ≤ mo ∧ mo ≤ 57 := by omega
  obtain ⟨n, hn⟩ : ∃ n, M <<< mo = n := ⟨_, rfl⟩
  rw [hn]
  have hn2 : n < 2 ^ 110 ∧ 0 < n := by
    rw [← hn, Nat.shiftLeft_eq]
    have a1 : 2 ^ mo ≤ 2 ^ 57 := Nat.pow_le_pow_right (by omega) hmo2.2
    have a2 := Nat.mul_le_mul (show M ≤ 9007199254740991 by omega) a1
    exact ⟨by omega, Nat.mul_pos (by omega) (Nat.two_pow_pos _)⟩
  have hlog : n.log2 < 110 := (Nat.log2_lt (by omega)).2 hn2.1
  obtain ⟨R, hR⟩ : ∃ R, Ieee.Datum.rootFrom n (n.log2 / 2 + 1) 0 = R := ⟨_, rfl⟩
  have hRb : R < 2 ^ 55 := by
    have a1 := rootFrom_lt n (n.log2 / 2 + 1) 0
    have a2 : 2 ^ (n.log2 / 2 + 1) ≤ 2 ^ 55 := Nat.pow_le_pow_right (by omega) (by omega)
    rw [hR] at a1
    omega
  rw [hR]
  obtain ⟨z, hz⟩ : ∃ z, (R * R != n).toNat = z := ⟨_, rfl⟩
  have hz1 : z ≤ 1 := by rw [← hz]; cases (R * R != n) <;> simp
  have hz2 : R = 0 → z = 1 := by
    intro e
    rw [← hz, e, bne_iff_ne.2 (by omega)]
    rfl
  rw [hz]
  obtain ⟨q, hq⟩ : ∃ q, 2 * R + z = q := ⟨_, rfl⟩
  rw [hq]
  have hq0 : 0 < q := by
    rcases Nat.eq_zero_or_pos R with e | e
    · have := hz2 e; omega
    · omega
  have lq : q.log2 < 57 := (Nat.log2_lt (by omega)).2 (by omega)
  simp only [Option.map_some, Ieee.Format.write]
  obtain ⟨p, hp⟩ : ∃ p : Int, (P - (mo : Int)) / 2 - 1 = p := ⟨_, rfl⟩
  rw [hp]
  obtain ⟨F, hF⟩ := Int.eq_ofNat_of_zero_le (show 0 ≤ p + 1074 by omega)
  obtain ⟨L, hL⟩ : ∃ L, L + 52 = F + q.log2 := ⟨F + q.log2 - 52, by omega⟩
  obtain ⟨k, k1, k2, k3, -, -, -⟩ := near_norm false q p F L hq0 hF hL (by omega) (by omega)
  obtain ⟨w1, w2, w3⟩ := word_rng false (L * 4503599627370496 + k) (by omega)
  rw [← k1] at w1 w2 w3
  generalize Ieee.double.nearest false q p = w at w1 w2 w3 ⊢
  have hr1 : 4503599627370496 ≤ rng w := by rw [w1]; omega
  have hr2 : rng w < infR := by rw [w1]; unfold infR; omega
  have hrd := read_norm w hr1 hr2
  have rw' := Nat.mod_lt (rng w) (show 0 < 4503599627370496 by omega)
  obtain ⟨M3, hM3⟩ : ∃ M3, 4503599627370496 + rng w % 4503599627370496 = M3 := ⟨_, rfl⟩
  obtain ⟨P3, hP3⟩ : ∃ P3 : Int, -1074 + ((rng w / 4503599627370496 - 1 : Nat) : Int) = P3 := ⟨_, rfl⟩
  rw [hM3, hP3, w2] at hrd
  have hP3n : P3.toNat = 0 := by omega
  obtain ⟨x, hx⟩ : ∃ x, Ieee.Toward.zero.cut false (M3 <<< P3.toNat) (-P3).toNat = x := ⟨_, rfl⟩
  have hxb : x ≤ M3 := by
    rw [← hx, hP3n]
    unfold Ieee.Toward.cut
    simp only [Nat.shiftLeft_zero]
    have := Nat.div_le_self M3 (1 <<< min (-P3).toNat (M3.log2 + 2))
    simpa using this
  refine ⟨w, x, rfl, ?_, by omega⟩
  unfold floatToIntVal
  have ed : FloatKind.f64.decode w = .number false M3 P3 := hrd
  rw [ed]
  simp only [Ieee.Datum.toInt, Ieee.Datum.integral, hx, Ieee.signed]
  have b1 : IntKind.u64.min ≤ (x : Int) := Int.natCast_nonneg x
  have b2 : (x : Int) ≤ IntKind.u64.max := show (x : Int) ≤ 18446744073709551615 from by omega
  simp [b1, b2]

theorem start_ok (a : Nat) (ha : a ≤ 9000000000000000000) : ∃ f2 f3 x0, floatBits .mul .f64 (floatOfInt .f64 a) 4666723172467343360 = some f2 ∧ FloatKind.f64.format.sqrt f2 = some f3 ∧ floatToIntVal .f64 f3 .u64 = some ((x0 : Nat) : Int) ∧ x0 < 18446744073709551616 := by
  by_cases h0 : a = 0
  · subst h0
    exact ⟨0, 0, 0, by kernel_rfl, by kernel_rfl, by kernel_rfl, by omega⟩
  · obtain ⟨Z, hZ⟩ : ∃ Z, Z = 1074 := ⟨_, rfl⟩
    obtain ⟨L, k, hL, hw, hk1, hk2, -, hl⟩ := ofInt_word (a : Int) (by omega) (by omega) Z hZ
    have hneg : decide ((a : Int) < 0) = false := by simp
    rw [hneg] at hw
    obtain ⟨w1, w2, w3⟩ := word_rng false (L * 4503599627370496 + k) (by omega)
    rw [← hw] at w1 w2 w3
    generalize floatOfInt .f64 (a : Int) = b at *
    obtain ⟨f2, g1, g2, g3, g4, g5, g6⟩ := mul_norm b 4666723172467343360 _ 1036 (by omega) (by unfold infR; omega) (by decide) (by decide) w2 (by decide) rfl (by decide) (by omega) (by omega)
    obtain ⟨f3, x0, s1, s2, s3⟩ := sqrt_norm f2 _ g4 (by unfold infR; omega) g2 rfl (by omega) (by omega)
    exact ⟨f2, f3, x0, g1, s1, s2, s3⟩
end Go.Proofs.Ytpdecbhlkblpfaa
