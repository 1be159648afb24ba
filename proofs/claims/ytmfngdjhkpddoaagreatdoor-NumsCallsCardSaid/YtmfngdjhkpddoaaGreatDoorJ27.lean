/- The walks of the reference's class, parts and order. -/
import Derived.Test.YtmfngdjhkpddoaaGreatDoorJ26
import Derived.Test.YtmfngdjhkpddoaaGreatDoorJ25
import Derived.Test.YtmfngdjhkpddoaaGreatDoorJ02
import Derived.Test.YtmfngdjhkpddoaaGreatDoorJ05
/- The walks of the reference's class, parts and order. -/
set_option maxRecDepth 100000
namespace Go.Proofs.YtmfngdjhkpddoaaGreatDoor.Fl
open Go.RowKit Go.Lat

def seven (x : Nat) : Nat := if x = 0 then 7 else x
def refV (x y b c : Nat) : Int := if seven x < seven y then -1 else if seven y < seven x then 1 else if b = c ∨ seven x = 7 then 0 else if (b < c ↔ seven x = 5) then -1 else 1

end Go.Proofs.YtmfngdjhkpddoaaGreatDoor.Fl
/- The law FloatChain walked: plain law and walk. -/
set_option maxRecDepth 100000
namespace Go.Proofs.YtmfngdjhkpddoaaGreatDoor.Fl
open Go.RowKit Go.Lat

def fromErr (b : Nat) : Int := if infR < rng b then 4 else if rng b = infR then 5 else fromE (fromR (rng b))
def fromVal (b : Nat) : Int := if rng b < infR then fromV (Lat.sgn b) (fromR (rng b)) else 0

theorem From_any (w : World) (b : Nat) (hb : b < 18446744073709551616) : Calls Tryz.prog 126 #[.float .f64 b] w fun e w' => e = .returned (.tuple #[.int .i64 (fromVal b), .int .i64 (fromErr b)]) ∧ Upd w w' (fun _ => False) := by
  unfold fromVal fromErr
  rcases Nat.lt_trichotomy (rng b) infR with h | h | h
  · rw [if_pos h, if_neg (by omega), if_neg (by omega)]
    exact From_fin w b hb h
  · rw [if_neg (by omega), if_neg (by omega), if_pos h]
    exact (From_inf w b hb h).mono fun e w' ⟨he, hw⟩ => ⟨he, by rw [hw]; exact Upd.refl _ _⟩
  · rw [if_neg (by omega), if_pos h]
    exact (From_nan w b hb h).mono fun e w' ⟨he, hw⟩ => ⟨he, by rw [hw]; exact Upd.refl _ _⟩

end Go.Proofs.YtmfngdjhkpddoaaGreatDoor.Fl
/- Plain laws on rounding: what the nearest float of a number is, and what a quotient of two floats is, by their rungs. -/
namespace Go.Lat
open Ieee

theorem mag_rung (L k : Nat) (hL : 1 ≤ L) (h1 : 4503599627370496 ≤ k) (h2 : k ≤ 9007199254740992) : mag (L * 4503599627370496 + k) = k * 2 ^ L := by
  unfold mag
  rw [if_neg (by omega)]
  by_cases h : k = 9007199254740992
  · subst h
    rw [show (L * 4503599627370496 + 9007199254740992) % 4503599627370496 = 0 from by omega, show (L * 4503599627370496 + 9007199254740992) / 4503599627370496 - 1 = L + 1 from by omega, Nat.pow_succ]
    omega
  · rw [show (L * 4503599627370496 + k) % 4503599627370496 = k - 4503599627370496 from by omega, show (L * 4503599627370496 + k) / 4503599627370496 - 1 = L from by omega,
      show 4503599627370496 + (k - 4503599627370496) = k from by omega]

theorem cut_even (s : Bool) (n d : Nat) (hd : d ≤ n.log2 + 2) : ∃ c, Toward.even.cut s n d = c ∧ n / 2 ^ d ≤ c ∧ c ≤ n / 2 ^ d + 1 ∧ 2 * (c * 2 ^ d) ≤ 2 * n + 2 ^ d ∧ 2 * n ≤ 2 * (c * 2 ^ d) + 2 ^ d := by
  unfold Toward.cut
  simp only [Nat.min_eq_left hd, Nat.one_shiftLeft]
  have hp : 0 < 2 ^ d := Nat.two_pow_pos d
  generalize 2 ^ d = g at hp ⊢
  have hdm := Nat.div_add_mod n g
  have hm := Nat.mod_lt n hp
  rw [Nat.mul_comm] at hdm
  generalize n / g = q at hdm ⊢
  generalize n % g = r at hdm hm ⊢
  refine ⟨_, rfl, by omega, ?_, ?_, ?_⟩
  · cases (decide (g < 2 * r) || (g == 2 * r && q % 2 == 1)) <;> simp
  · by_cases c1 : g < 2 * r
    · simp [c1, Nat.add_mul]; omega
    · by_cases c2 : g = 2 * r
      · by_cases c3 : q % 2 = 1
        · subst c2
          simp [c3, Nat.add_mul]
          omega
        · have : (q % 2 == 1) = false := by simp; omega
          simp [c1, this]; omega
      · have : (g == 2 * r) = false := by simp; omega
        simp [c1, this]; omega
  · by_cases c1 : g < 2 * r
    · simp [c1, Nat.add_mul]; omega
    · by_cases c2 : g = 2 * r
      · by_cases c3 : q % 2 = 1
        · subst c2
          simp [c3, Nat.add_mul]
          omega
        · have : (q % 2 == 1) = false := by simp; omega
          simp [c1, this]; omega
      · have : (g == 2 * r) = false := by simp; omega
        simp [c1, this]; omega

/-- The nearest float of m * 2 ^ p, if it is normal. -/
theorem near_norm (s : Bool) (m : Nat) (p : Int) (F L : Nat) (hm : 0 < m) (hF : p + 1074 = (F : Int)) (hL : L + 52 = F + m.log2) (hL1 : 1 ≤ L) (hL2 : L ≤ 2000) :
    ∃ k, double.nearest s m p = double.word s (L * 4503599627370496 + k) ∧ 4503599627370496 ≤ k ∧ k ≤ 9007199254740992 ∧
      2 * (k * 2 ^ L) ≤ 2 * (m * 2 ^ F) + 2 ^ L ∧ 2 * (m * 2 ^ F) ≤ 2 * (k * 2 ^ L) + 2 ^ L ∧ (m.log2 ≤ 52 → k * 2 ^ L = m * 2 ^ F) := by
  unfold Format.nearest
  rw [if_neg (by omega)]
  have ef : double.fractionBits = 52 := rfl
  simp only [e_lp, e_bi, e_inf, ef]
  have l1 : 2 ^ m.log2 ≤ m := Nat.log2_self_le (by omega)
  have l2 : m < 2 ^ (m.log2 + 1) := Nat.lt_log2_self
  have emax : max (p + (m.log2 : Int) - (52 : Nat)) (-1074) = (L : Int) - 1074 := by omega
  rw [emax]
  have eL : ((L : Int) - 1074 - -1074).toNat = L := by omega
  rw [eL]
  by_cases hl : m.log2 ≤ 52
  · have e1 : (p - ((L : Int) - 1074)).toNat = 52 - m.log2 := by omega
    have e2 : ((L : Int) - 1074 - p).toNat = 0 := by omega
    rw [e1, e2, Nat.shiftLeft_eq]
    obtain ⟨c, hc, c1, c2, c3, c4⟩ := cut_even s (m * 2 ^ (52 - m.log2)) 0 (by omega)
    rw [hc]
    simp only [Nat.pow_zero, Nat.mul_one, Nat.div_one] at c1 c2 c3 c4
    have hce : c = m * 2 ^ (52 - m.log2) := by omega
    have b1 : 4503599627370496 ≤ c := by
      rw [hce]
      have := Nat.mul_le_mul_right (2 ^ (52 - m.log2)) l1
      rw [← Nat.pow_add, show m.log2 + (52 - m.log2) = 52 from by omega] at this
      exact this
    have b2 : c ≤ 9007199254740992 := by
      rw [hce]
      have := Nat.mul_le_mul_right (2 ^ (52 - m.log2)) (Nat.le_of_lt l2)
      rw [← Nat.pow_add, show m.log2 + 1 + (52 - m.log2) = 53 from by omega] at this
      exact this
    have hv : c * 2 ^ L = m * 2 ^ F := by
      rw [hce, Nat.mul_assoc, ← Nat.pow_add]
      congr 2
      omega
    have pL : 0 < 2 ^ L := Nat.two_pow_pos L
    refine ⟨c, ?_, b1, b2, by rw [hv]; omega, by rw [hv]; omega, fun _ => hv⟩
    rw [Nat.min_eq_left (by omega)]
  · have e1 : (p - ((L : Int) - 1074)).toNat = 0 := by omega
    have e2 : ((L : Int) - 1074 - p).toNat = m.log2 - 52 := by omega
    rw [e1, e2, Nat.shiftLeft_eq, Nat.pow_zero, Nat.mul_one]
    obtain ⟨c, hc, c1, c2, c3, c4⟩ := cut_even s m (m.log2 - 52) (by omega)
    rw [hc]
    have hp : 0 < 2 ^ (m.log2 - 52) := Nat.two_pow_pos _
    have d1 : 4503599627370496 ≤ m / 2 ^ (m.log2 - 52) := by
      rw [Nat.le_div_iff_mul_le hp]
      have : 4503599627370496 * 2 ^ (m.log2 - 52) = 2 ^ m.log2 := by
        rw [show (4503599627370496 : Nat) = 2 ^ 52 from rfl, ← Nat.pow_add]
        congr 1
        omega
      omega
    have d2 : m / 2 ^ (m.log2 - 52) < 9007199254740992 := by
      rw [Nat.div_lt_iff_lt_mul hp]
      have : 9007199254740992 * 2 ^ (m.log2 - 52) = 2 ^ (m.log2 + 1) := by
        rw [show (9007199254740992 : Nat) = 2 ^ 53 from rfl, ← Nat.pow_add]
        congr 1
        omega
      omega
    have eLF : 2 ^ L = 2 ^ (m.log2 - 52) * 2 ^ F := by
      rw [← Nat.pow_add]
      congr 1
      omega
    have f1 := Nat.mul_le_mul_right (2 ^ F) c3
    have f2 := Nat.mul_le_mul_right (2 ^ F) c4
    refine ⟨c, ?_, by omega, by omega, ?_, ?_, fun h => absurd h hl⟩
    · rw [Nat.min_eq_left (by omega)]
    · rw [eLF]
      simp only [Nat.add_mul, Nat.mul_assoc] at f1 ⊢
      exact f1
    · rw [eLF]
      simp only [Nat.add_mul, Nat.mul_assoc] at f2 ⊢
      exact f2

theorem word_rng (s : Bool) (r : Nat) (h : r < 9223372036854775808) : rng (double.word s r) = r ∧ Lat.sgn (double.word s r) = s ∧ double.word s r < 18446744073709551616 := by
  unfold Format.word rng Lat.sgn
  rw [e_sw]
  cases s
  · simp; omega
  · simp; omega

theorem read_norm (b : Nat) (h1 : 4503599627370496 ≤ rng b) (h2 : rng b < infR) : double.read b = .number (Lat.sgn b) (4503599627370496 + rng b % 4503599627370496) (-1074 + (rng b / 4503599627370496 - 1 : Nat)) := by
  unfold Format.read
  simp only [e_sw, e_bi, e_inf, e_lp]
  unfold rng infR at *
  unfold Lat.sgn
  rw [if_neg (by omega), if_pos h2]

theorem log2_52 (m : Nat) (h1 : 4503599627370496 ≤ m) (h2 : m < 9007199254740992) : m.log2 = 52 :=
  (Nat.log2_eq_iff (by omega)).2 ⟨h1, h2⟩

/-- The quotient of two normal floats. -/
theorem div_norm (b c eb ec Mb Mc : Nat) (hb1 : 4503599627370496 ≤ rng b) (hb2 : rng b < infR) (hc1 : 4503599627370496 ≤ rng c) (hc2 : rng c < infR)
    (heb : rng b / 4503599627370496 = eb) (hec : rng c / 4503599627370496 = ec) (hMb : 4503599627370496 + rng b % 4503599627370496 = Mb) (hMc : 4503599627370496 + rng c % 4503599627370496 = Mc)
    (F : Nat) (hF : eb + 1019 = ec + F) (hF1 : 1 ≤ F) (hF2 : F ≤ 1900) :
    ∃ w q L k, double.div b c = some w ∧ Lat.sgn w = (Lat.sgn b ^^ Lat.sgn c) ∧ w < 18446744073709551616 ∧ rng w = L * 4503599627370496 + k ∧ 4503599627370496 ≤ k ∧ k ≤ 9007199254740992 ∧ F + 2 ≤ L ∧ L ≤ F + 3 ∧
      2 * (k * 2 ^ L) ≤ 2 * (q * 2 ^ F) + 2 ^ L ∧ 2 * (q * 2 ^ F) ≤ 2 * (k * 2 ^ L) + 2 ^ L ∧
      q * Mc < 2 * (Mb * 18014398509481984) + Mc ∧ 2 * (Mb * 18014398509481984) < q * Mc + Mc := by
  have rb := Nat.mod_lt (rng b) (show 0 < 4503599627370496 by omega)
  have rc := Nat.mod_lt (rng c) (show 0 < 4503599627370496 by omega)
  have ef : double.fractionBits + 2 = 54 := rfl
  unfold Format.div
  rw [read_norm b hb1 hb2, read_norm c hc1 hc2, heb, hec, hMb, hMc]
  simp only [Datum.quotient]
  rw [if_neg (by omega), log2_52 Mb (by omega) (by omega), log2_52 Mc (by omega) (by omega), ef]
  simp only [Option.map_some, Format.write, Nat.shiftLeft_eq]
  rw [show 2 ^ (54 + 52 - 52) = 18014398509481984 from rfl]
  obtain ⟨D, hD⟩ : ∃ D, Mb * 18014398509481984 = D := ⟨_, rfl⟩
  rw [hD]
  obtain ⟨t, ht⟩ : ∃ t, D / Mc = t := ⟨_, rfl⟩
  obtain ⟨r, hr⟩ : ∃ r, D % Mc = r := ⟨_, rfl⟩
  rw [ht, hr]
  have hdm := Nat.div_add_mod D Mc
  have hml := Nat.mod_lt D (show 0 < Mc by omega)
  rw [ht, hr] at hdm
  rw [hr] at hml
  obtain ⟨z, hz⟩ : ∃ z, (r != 0).toNat = z := ⟨_, rfl⟩
  have hz1 : z ≤ 1 := by rw [← hz]; cases (r != 0) <;> simp
  have hz2 : r = 0 → z = 0 := fun h => by rw [← hz, h]; rfl
  have hz3 : r ≠ 0 → z = 1 := fun h => by
    rw [← hz, bne_iff_ne.2 h]; rfl
  rw [hz]
  obtain ⟨q, hq⟩ : ∃ q, 2 * t + z = q := ⟨_, rfl⟩
  rw [hq]
  have t1 : 9007199254740992 ≤ t := by
    rw [← ht, Nat.le_div_iff_mul_le (by omega)]
    omega
  have t2 : t < 36028797018963968 := by
    rw [← ht, Nat.div_lt_iff_lt_mul (by omega)]
    omega
  have lq : q.log2 = 54 ∨ q.log2 = 55 := by
    rcases Nat.lt_or_ge q 36028797018963968 with h | h
    · exact .inl ((Nat.log2_eq_iff (by omega)).2 ⟨by omega, by omega⟩)
    · exact .inr ((Nat.log2_eq_iff (by omega)).2 ⟨by omega, by omega⟩)
  have hMct : q * Mc = 2 * (Mc * t) + z * Mc := by
    rw [← hq, Nat.add_mul, Nat.mul_assoc, Nat.mul_comm t Mc]
  have hzm : z * Mc = if r = 0 then 0 else Mc := by
    split
    · rename_i h; rw [hz2 h, Nat.zero_mul]
    · rename_i h; rw [hz3 h, Nat.one_mul]
  obtain ⟨L, hL⟩ : ∃ L, L + 52 = F + q.log2 := ⟨F + q.log2 - 52, by omega⟩
  obtain ⟨k, k1, k2, k3, k4, k5, -⟩ := near_norm (Lat.sgn b ^^ Lat.sgn c) q (-1074 + ((eb - 1 : Nat) : Int) - (-1074 + ((ec - 1 : Nat) : Int)) - ((54 + 52 - 52 : Nat) : Int) - 1) F L (by omega) (by unfold infR at *; omega) hL (by omega) (by omega)
  have wr := word_rng (Lat.sgn b ^^ Lat.sgn c) (L * 4503599627370496 + k) (by omega)
  refine ⟨_, q, L, k, rfl, ?_, ?_, ?_, k2, k3, by omega, by omega, k4, k5, ?_, ?_⟩
  · rw [k1]; exact wr.2.1
  · rw [k1]; exact wr.2.2
  · rw [k1]; exact wr.1
  · rw [hMct, hzm]
    split <;> omega
  · rw [hMct, hzm]
    split <;> omega
end Go.Lat
/- The law FloatBack: a number of at most 2^49 parts is recovered from its float64. -/
set_option maxRecDepth 100000
namespace Go.Proofs.YtmfngdjhkpddoaaGreatDoor.Fl
open Go.RowKit Go.Lat

theorem mag_norm (r e M : Nat) (h : 4503599627370496 ≤ r) (he : r / 4503599627370496 = e) (hM : 4503599627370496 + r % 4503599627370496 = M) : mag r = M * 2 ^ (e - 1) := by
  unfold mag
  rw [if_neg (by omega), he, hM]

theorem ofInt_word (a : Int) (ha : a ≠ 0) (hb : a.natAbs < 18446744073709551616) (F : Nat) (hF : F = 1074) :
    ∃ L k, L + 52 = F + a.natAbs.log2 ∧ floatOfInt .f64 a = Ieee.double.word (decide (a < 0)) (L * 4503599627370496 + k) ∧ 4503599627370496 ≤ k ∧ k ≤ 9007199254740992 ∧ (a.natAbs.log2 ≤ 52 → k * 2 ^ L = a.natAbs * 2 ^ F) ∧ a.natAbs.log2 < 64 := by
  have hl : a.natAbs.log2 < 64 := (Nat.log2_lt (by omega)).2 (by omega)
  obtain ⟨k, k1, k2, k3, -, -, k6⟩ := near_norm (decide (a < 0)) a.natAbs 0 F (F + a.natAbs.log2 - 52) (by omega) (by omega) (by omega) (by omega) (by omega)
  exact ⟨_, k, by omega, k1, k2, k3, k6, hl⟩

theorem scale1 (q M : Nat) (h : q * 5497558138880000 < 2 * (M * 18014398509481984) + 5497558138880000) : q * 10000 < M * 65536 + 10000 := by omega
theorem scale2 (q M : Nat) (h : 2 * (M * 18014398509481984) < q * 5497558138880000 + 5497558138880000) : M * 65536 < q * 10000 + 10000 := by omega

/-- What To gives: the sign, and how near it is. -/
theorem To_word (a : Int) (ha : a ≠ 0) (hb : a.natAbs < 18446744073709551616) (Z : Nat) (hZ : Z = 1074) :
    ∃ w F W, floatBits .quo .f64 (floatOfInt .f64 a) 4666723172467343360 = some w ∧ Lat.sgn w = decide (a < 0) ∧ w < 18446744073709551616 ∧ 4503599627370496 * 1000 ≤ rng w ∧ rng w < 4503599627370496 * 1200 ∧ mag (rng w) = W ∧
      (a.natAbs.log2 ≤ 52 → F ≤ 1007 + a.natAbs.log2 ∧ 10000 * W < a.natAbs * 2 ^ Z + 50000 * 2 ^ F ∧ a.natAbs * 2 ^ Z < 10000 * W + 50000 * 2 ^ F) := by
  obtain ⟨L, k, hL, hw, hk1, hk2, hex, hl⟩ := ofInt_word a ha hb Z hZ
  obtain ⟨w1, w2, w3⟩ := word_rng (decide (a < 0)) (L * 4503599627370496 + k) (by omega)
  rw [← hw] at w1 w2 w3
  generalize floatOfInt .f64 a = b at *
  obtain ⟨eb, heb⟩ : ∃ eb, rng b / 4503599627370496 = eb := ⟨_, rfl⟩
  obtain ⟨Mb, hMb⟩ : ∃ Mb, 4503599627370496 + rng b % 4503599627370496 = Mb := ⟨_, rfl⟩
  have hr1 : 4503599627370496 ≤ rng b := by omega
  have e1 : eb = L + 1 ∨ eb = L + 2 := by omega
  obtain ⟨F, hF⟩ : ∃ F, eb + 1019 = 1036 + F := ⟨eb - 17, by omega⟩
  obtain ⟨w, q, L2, k2, d1, d2, d3, d4, d5, d6, d7, d8, d9, d10, d11, d12⟩ := div_norm b 4666723172467343360 eb 1036 Mb 5497558138880000 hr1 (by unfold infR; omega) (by decide) (by decide) heb (by decide) hMb (by decide) F hF (by omega) (by omega)
  have hmb := mag_norm (rng b) eb Mb hr1 heb hMb
  have hW := mag_rung L2 k2 (by omega) d5 d6
  refine ⟨w, F, mag (rng w), d1, ?_, d3, by omega, by omega, rfl, fun hlog => ?_⟩
  · rw [d2, w2]
    have : Lat.sgn 4666723172467343360 = false := by decide
    rw [this]
    cases decide (a < 0) <;> rfl
  · refine ⟨by omega, ?_⟩
    rw [d4, hW]
    have hA : a.natAbs * 2 ^ Z = Mb * 65536 * 2 ^ F := by
      rw [← hex hlog, ← mag_rung L k (by omega) hk1 hk2, ← w1, hmb, Nat.mul_assoc, show (65536 : Nat) = 2 ^ 16 from rfl, ← Nat.pow_add]
      congr 2
      omega
    have i1 := scale1 q Mb d11
    have i2 := scale2 q Mb d12
    have pG : 0 < 2 ^ F := Nat.two_pow_pos F
    have j1 := Nat.mul_lt_mul_of_pos_right i1 pG
    have j2 := Nat.mul_lt_mul_of_pos_right i2 pG
    have hL2 : 2 ^ L2 ≤ 8 * 2 ^ F := by
      have : 2 ^ L2 ≤ 2 ^ (F + 3) := Nat.pow_le_pow_right (by omega) d8
      rw [Nat.pow_add] at this
      omega
    rw [hA]
    have e3 : q * 10000 * 2 ^ F = 10000 * (q * 2 ^ F) := by rw [Nat.mul_comm q 10000, Nat.mul_assoc]
    rw [Nat.add_mul] at j1 j2
    rw [e3] at j1 j2
    generalize Mb * 65536 * 2 ^ F = A at *
    generalize q * 2 ^ F = Q at *
    generalize k2 * 2 ^ L2 = V at *
    generalize 2 ^ L2 = H at *
    generalize 2 ^ F = G at *
    omega

end Go.Proofs.YtmfngdjhkpddoaaGreatDoor.Fl
/- Plain law: where float.Sqrt begins its search is a whole number of a word. -/
set_option maxRecDepth 100000
namespace Go.Proofs.YtmfngdjhkpddoaaGreatDoor.Fl
open Go.RowKit Go.Lat

theorem rootFrom_lt (n : Nat) : ∀ (todo root : Nat), Ieee.Datum.rootFrom n todo root < root + 2 ^ todo
  | 0, root => by simp [Ieee.Datum.rootFrom]
  | todo + 1, root => by
    unfold Ieee.Datum.rootFrom
    simp only [Nat.one_shiftLeft, Nat.pow_succ]
    split
    · have := rootFrom_lt n todo (root + 2 ^ todo)
      omega
    · have := rootFrom_lt n todo root
      have hp : 0 < 2 ^ todo := Nat.two_pow_pos todo
      omega

/-- A product of two normal floats that aren't below 0. -/
theorem mul_norm (b c eb ec : Nat) (hb1 : 4503599627370496 ≤ rng b) (hb2 : rng b < infR) (hc1 : 4503599627370496 ≤ rng c) (hc2 : rng c < infR) (sb : Lat.sgn b = false) (sc : Lat.sgn c = false)
    (heb : rng b / 4503599627370496 = eb) (hec : rng c / 4503599627370496 = ec) (h1 : 1100 ≤ eb + ec) (h2 : eb + ec ≤ 2900) :
    ∃ w, Ieee.double.mul b c = some w ∧ Lat.sgn w = false ∧ w < 18446744073709551616 ∧ 4503599627370496 ≤ rng w ∧ rng w / 4503599627370496 + 1022 ≤ eb + ec + 2 ∧ eb + ec ≤ rng w / 4503599627370496 + 1026 := by
  have rb := Nat.mod_lt (rng b) (show 0 < 4503599627370496 by omega)
  have rc := Nat.mod_lt (rng c) (show 0 < 4503599627370496 by omega)
  obtain ⟨Mb, hMb⟩ : ∃ Mb, 4503599627370496 + rng b % 4503599627370496 = Mb := ⟨_, rfl⟩
  obtain ⟨Mc, hMc⟩ : ∃ Mc, 4503599627370496 + rng c % 4503599627370496 = Mc := ⟨_, rfl⟩
  unfold Ieee.Format.mul
  rw [read_norm b hb1 hb2, read_norm c hc1 hc2, heb, hec, hMb, hMc, sb, sc]
  simp only [Ieee.Datum.product, Option.map_some, Ieee.Format.write]
  have m1 := Nat.mul_le_mul (show 4503599627370496 ≤ Mb by omega) (show 4503599627370496 ≤ Mc by omega)
  have m2 := Nat.mul_lt_mul_of_lt_of_le (show Mb < 9007199254740992 by omega) (show Mc ≤ 9007199254740992 by omega) (show 0 < 9007199254740992 by omega)
  obtain ⟨q, hq⟩ : ∃ q, Mb * Mc = q := ⟨_, rfl⟩
  rw [hq] at m1 m2 ⊢
  have lq : q.log2 = 104 ∨ q.log2 = 105 := by
    rcases Nat.lt_or_ge q (2 ^ 105) with h | h
    · exact .inl ((Nat.log2_eq_iff (by omega)).2 ⟨by omega, h⟩)
    · exact .inr ((Nat.log2_eq_iff (by omega)).2 ⟨h, by omega⟩)
  obtain ⟨F, hF⟩ : ∃ F, eb + ec = F + 1076 := ⟨eb + ec - 1076, by omega⟩
  obtain ⟨L, hL⟩ : ∃ L, L + 52 = F + q.log2 := ⟨F + q.log2 - 52, by omega⟩
  obtain ⟨k, k1, k2, k3, -, -, -⟩ := near_norm (false ^^ false) q (-1074 + ((eb - 1 : Nat) : Int) + (-1074 + ((ec - 1 : Nat) : Int))) F L (by omega) (by unfold infR at *; omega) hL (by omega) (by omega)
  obtain ⟨w1, w2, w3⟩ := word_rng (false ^^ false) (L * 4503599627370496 + k) (by omega)
  refine ⟨_, rfl, ?_, ?_, ?_, ?_, ?_⟩
  · rw [k1, w2]; rfl
  · rw [k1]; exact w3
  · rw [k1, w1]; omega
  · rw [k1, w1]; omega
  · rw [k1, w1]; omega

/-- The square root of a normal float that isn't below 0 lies in a word. -/
theorem sqrt_norm (b eb : Nat) (hb1 : 4503599627370496 ≤ rng b) (hb2 : rng b < infR) (sb : Lat.sgn b = false) (heb : rng b / 4503599627370496 = eb) (h1 : 900 ≤ eb) (h2 : eb ≤ 1120) :
    ∃ w x, Ieee.double.sqrt b = some w ∧ floatToIntVal .f64 w .u64 = some ((x : Nat) : Int) ∧ x < 18446744073709551616 := by
  have rb := Nat.mod_lt (rng b) (show 0 < 4503599627370496 by omega)
  obtain ⟨M, hM⟩ : ∃ M, 4503599627370496 + rng b % 4503599627370496 = M := ⟨_, rfl⟩
  unfold Ieee.Format.sqrt
  rw [read_norm b hb1 hb2, heb, hM, sb]
  have ef : Ieee.double.fractionBits + 2 = 54 := rfl
  simp only [Ieee.Datum.root]
  rw [if_neg (by omega), if_neg (by simp), log2_52 M (by omega) (by omega), ef]
  obtain ⟨P, hP⟩ : ∃ P : Int, -1074 + ((eb - 1 : Nat) : Int) = P := ⟨_, rfl⟩
  rw [hP]
  have e56 : 2 * 54 - 52 = 56 := rfl
  rw [e56]
  obtain ⟨mo, hmo⟩ : ∃ mo, 56 + ((P - (56 : Nat)) % 2).toNat = mo := ⟨_, rfl⟩
  rw [hmo]
  have hmo2 : 56 ≤ mo ∧ mo ≤ 57 := by omega
  obtain ⟨n, hn⟩ : ∃ n, M <<< mo = n := ⟨_, rfl⟩
  rw [hn]
  have hn2 : n < 2 ^ 110 ∧ 0 < n := by
    rw [← hn, Nat.shiftLeft_eq]
    have a1 : 2 ^ mo ≤ 2 ^ 57 := Nat.pow_le_pow_right (by omega) hmo2.2
    have a2 := Nat.mul_le_mul (show M ≤ 9007199254740991 by omega) a1
    exact ⟨by omega, Nat.mul_pos (by omega) (Nat.two_pow_pos _)⟩
  have hlog : n.log2 < 110 := (Nat.log2_lt (by omega)).2 hn2.1
  obtain ⟨R, hR⟩ : ∃ R, Ieee.Datum.rootFrom n (n.log2 / 2 + 1) 0 = R := ⟨_, rfl⟩
  have hRb : R < 2 ^ 55 := by
    have a1 := rootFrom_lt n (n.log2 / 2 + 1) 0
    have a2 : 2 ^ (n.log2 / 2 + 1) ≤ 2 ^ 55 := Nat.pow_le_pow_right (by omega) (by omega)
    rw [hR] at a1
    omega
  rw [hR]
  obtain ⟨z, hz⟩ : ∃ z, (R * R != n).toNat = z := ⟨_, rfl⟩
  have hz1 : z ≤ 1 := by rw [← hz]; cases (R * R != n) <;> simp
  have hz2 : R = 0 → z = 1 := by
    intro e
    rw [← hz, e, bne_iff_ne.2 (by omega)]
    rfl
  rw [hz]
  obtain ⟨q, hq⟩ : ∃ q, 2 * R + z = q := ⟨_, rfl⟩
  rw [hq]
  have hq0 : 0 < q := by
    rcases Nat.eq_zero_or_pos R with e | e
    · have := hz2 e; omega
    · omega
  have lq : q.log2 < 57 := (Nat.log2_lt (by omega)).2 (by omega)
  simp only [Option.map_some, Ieee.Format.write]
  obtain ⟨p, hp⟩ : ∃ p : Int, (P - (mo : Int)) / 2 - 1 = p := ⟨_, rfl⟩
  rw [hp]
  obtain ⟨F, hF⟩ := Int.eq_ofNat_of_zero_le (show 0 ≤ p + 1074 by omega)
  obtain ⟨L, hL⟩ : ∃ L, L + 52 = F + q.log2 := ⟨F + q.log2 - 52, by omega⟩
  obtain ⟨k, k1, k2, k3, -, -, -⟩ := near_norm false q p F L hq0 hF hL (by omega) (by omega)
  obtain ⟨w1, w2, w3⟩ := word_rng false (L * 4503599627370496 + k) (by omega)
  rw [← k1] at w1 w2 w3
  generalize Ieee.double.nearest false q p = w at w1 w2 w3 ⊢
  have hr1 : 4503599627370496 ≤ rng w := by rw [w1]; omega
  have hr2 : rng w < infR := by rw [w1]; unfold infR; omega
  have hrd := read_norm w hr1 hr2
  have rw' := Nat.mod_lt (rng w) (show 0 < 4503599627370496 by omega)
  obtain ⟨M3, hM3⟩ : ∃ M3, 4503599627370496 + rng w % 4503599627370496 = M3 := ⟨_, rfl⟩
  obtain ⟨P3, hP3⟩ : ∃ P3 : Int, -1074 + ((rng w / 4503599627370496 - 1 : Nat) : Int) = P3 := ⟨_, rfl⟩
  rw [hM3, hP3, w2] at hrd
  have hP3n : P3.toNat = 0 := by omega
  obtain ⟨x, hx⟩ : ∃ x, Ieee.Toward.zero.cut false (M3 <<< P3.toNat) (-P3).toNat = x := ⟨_, rfl⟩
  have hxb : x ≤ M3 := by
    rw [← hx, hP3n]
    unfold Ieee.Toward.cut
    simp only [Nat.shiftLeft_zero]
    have := Nat.div_le_self M3 (1 <<< min (-P3).toNat (M3.log2 + 2))
    simpa using this
  refine ⟨w, x, rfl, ?_, by omega⟩
  unfold floatToIntVal
  have ed : FloatKind.f64.decode w = .number false M3 P3 := hrd
  rw [ed]
  simp only [Ieee.Datum.toInt, Ieee.Datum.integral, hx, Ieee.signed]
  have b1 : IntKind.u64.min ≤ (x : Int) := Int.natCast_nonneg x
  have b2 : (x : Int) ≤ IntKind.u64.max := show (x : Int) ≤ 18446744073709551615 from by omega
  simp [b1, b2]

theorem start_ok (a : Nat) (ha : a ≤ 9000000000000000000) : ∃ f2 f3 x0, floatBits .mul .f64 (floatOfInt .f64 a) 4666723172467343360 = some f2 ∧ FloatKind.f64.format.sqrt f2 = some f3 ∧ floatToIntVal .f64 f3 .u64 = some ((x0 : Nat) : Int) ∧ x0 < 18446744073709551616 := by
  by_cases h0 : a = 0
  · subst h0
    exact ⟨0, 0, 0, by kernel_rfl, by kernel_rfl, by kernel_rfl, by omega⟩
  · obtain ⟨Z, hZ⟩ : ∃ Z, Z = 1074 := ⟨_, rfl⟩
    obtain ⟨L, k, hL, hw, hk1, hk2, -, hl⟩ := ofInt_word (a : Int) (by omega) (by omega) Z hZ
    have hneg : decide ((a : Int) < 0) = false := by simp
    rw [hneg] at hw
    obtain ⟨w1, w2, w3⟩ := word_rng false (L * 4503599627370496 + k) (by omega)
    rw [← hw] at w1 w2 w3
    generalize floatOfInt .f64 (a : Int) = b at *
    obtain ⟨f2, g1, g2, g3, g4, g5, g6⟩ := mul_norm b 4666723172467343360 _ 1036 (by omega) (by unfold infR; omega) (by decide) (by decide) w2 (by decide) rfl (by decide) (by omega) (by omega)
    obtain ⟨f3, x0, s1, s2, s3⟩ := sqrt_norm f2 _ g4 (by unfold infR; omega) g2 rfl (by omega) (by omega)
    exact ⟨f2, f3, x0, g1, s1, s2, s3⟩
end Go.Proofs.YtmfngdjhkpddoaaGreatDoor.Fl
/- The law FloatSqrt walked. -/
set_option maxRecDepth 100000
namespace Go.Proofs.YtmfngdjhkpddoaaGreatDoor.Fl
open Go.RowKit Go.Lat

theorem Sqrt_bad (w : World) (a : Int) (h : okNum a = false ∨ a < 0) : Calls Tryz.prog 67 #[.int .i64 a] w fun e w' => e = .returned (.tuple #[.int .i64 0, .int .i64 5]) ∧ Upd w w' (fun _ => False) := by
  have hg := fun w => good_any w a
  obtain ⟨o, ho⟩ : ∃ o, okNum a = o := ⟨_, rfl⟩
  rw [ho] at hg h
  clear ho
  cases o with
  | false =>
    go_enter Tryz.func67, Tryz.ntmps67
    go_wp2_with fail
    refine Calls.mono (hg _) ?_
    rintro e w1 ⟨rfl, hu⟩
    go_wp2_with fail
    go_ret2
    exact ⟨rfl, hu⟩
  | true =>
    have d1 : decide (a < 0) = true := by simpa using h
    clear h
    go_enter Tryz.func67, Tryz.ntmps67
    go_wp2_with fail
    refine Calls.mono (hg _) ?_
    rintro e w1 ⟨rfl, hu⟩
    go_wp2_with fail
    go_ret2
    exact ⟨rfl, hu⟩

/-- The plain law: the nearer of the two whole roots is the nearest number. -/
theorem near_root (D y : Nat) (h1 : y * y ≤ D) (h2 : D < (y + 1) * (y + 1)) : ∃ x, (if y * (y + 1) < D then y + 1 else y) = x ∧ x ≤ y + 1 ∧ 4 * D < (2 * x + 1) * (2 * x + 1) ∧ (x = 0 ∨ (2 * x - 1) * (2 * x - 1) < 4 * D) := by
  have e1 : (y + 1) * (y + 1) = y * y + 2 * y + 1 := by rw [Nat.add_mul, Nat.mul_add]; omega
  have e2 : y * (y + 1) = y * y + y := by rw [Nat.mul_add, Nat.mul_one]
  have e3 : ∀ z : Nat, (2 * z + 1) * (2 * z + 1) = 4 * (z * z) + 4 * z + 1 := fun z => by
    rw [Nat.add_mul, Nat.mul_add, Nat.mul_mul_mul_comm]; omega
  rw [e1] at h2
  rw [e2]
  refine ⟨_, rfl, ?_, ?_, ?_⟩
  · split <;> omega
  · split
    · rw [e3, e1]; omega
    · rw [e3]; omega
  · split
    · right
      rw [show 2 * (y + 1) - 1 = 2 * y + 1 from by omega, e3]
      omega
    · rcases Nat.eq_zero_or_pos y with e | e
      · exact .inl e
      · right
        obtain ⟨z, rfl⟩ : ∃ z, y = z + 1 := ⟨y - 1, by omega⟩
        rw [show 2 * (z + 1) - 1 = 2 * z + 1 from by omega, e3]
        have e4 : (z + 1) * (z + 1) = z * z + 2 * z + 1 := by rw [Nat.add_mul, Nat.mul_add]; omega
        rw [e4] at h1
        omega

end Go.Proofs.YtmfngdjhkpddoaaGreatDoor.Fl
/- The square root as one number, by the program; its place between two squares. -/
set_option maxRecDepth 100000
namespace Go.Proofs.YtmfngdjhkpddoaaGreatDoor.Fl
open Go.RowKit Go.Lat

theorem sq_uniq {D x y : Nat} (h1 : x * x ≤ D) (h2 : D < (x + 1) * (x + 1)) (h3 : y * y ≤ D) (h4 : D < (y + 1) * (y + 1)) : x = y := by
  rcases Nat.lt_trichotomy x y with h | h | h
  · have := Nat.mul_le_mul (show x + 1 ≤ y from h) (show x + 1 ≤ y from h)
    omega
  · exact h
  · have := Nat.mul_le_mul (show y + 1 ≤ x from h) (show y + 1 ≤ x from h)
    omega
theorem sq_ex : ∀ D : Nat, ∃ y, y * y ≤ D ∧ D < (y + 1) * (y + 1)
  | 0 => ⟨0, by omega, by omega⟩
  | D + 1 => by
    obtain ⟨y, h1, h2⟩ := sq_ex D
    have e : (y + 1 + 1) * (y + 1 + 1) = (y + 1) * (y + 1) + 2 * (y + 1) + 1 := by rw [Nat.add_mul, Nat.mul_add]; omega
    by_cases h : D + 1 < (y + 1) * (y + 1)
    · exact ⟨y, by omega, h⟩
    · exact ⟨y + 1, by omega, by omega⟩
theorem Sqrt_at (a : Nat) (ha : a ≤ 9000000000000000000) : ∃ x : Nat, x ≤ 300000000001 ∧ a * 40000 < (2 * x + 1) * (2 * x + 1) ∧ (x = 0 ∨ (2 * x - 1) * (2 * x - 1) < a * 40000) ∧
    ∀ w, Calls Tryz.prog 67 #[.int .i64 a] w fun e w' => e = .returned (.tuple #[.int .i64 x, .int .i64 0]) ∧ Upd w w' (fun _ => False) := by
  obtain ⟨y, hy1, hy2⟩ := sq_ex (a * 10000)
  obtain ⟨x, hx, hxy, hx1, hx2⟩ := near_root (a * 10000) y hy1 hy2
  obtain ⟨f2, f3, x0, g1, g2, g3, g4⟩ := start_ok a ha
  have hyb : y ≤ 300000000000 := by
    rcases Nat.lt_or_ge 300000000000 y with h | h
    · have := Nat.mul_le_mul (show 300000000001 ≤ y from h) (show 300000000001 ≤ y from h)
      omega
    · exact h
  have e4 : a * 40000 = 4 * (a * 10000) := by omega
  refine ⟨x, by omega, by rw [e4]; exact hx1, by rw [e4]; exact hx2, fun w => ?_⟩
  refine (Sqrt_gen w a f2 f3 x0 ha g1 g2 g3 g4).mono ?_
  rintro e w' ⟨z, rfl, k1, k2, u⟩
  have ez : z = y := sq_uniq k1 k2 hy1 hy2
  subst ez
  rw [hx]
  exact ⟨rfl, u⟩
end Go.Proofs.YtmfngdjhkpddoaaGreatDoor.Fl
