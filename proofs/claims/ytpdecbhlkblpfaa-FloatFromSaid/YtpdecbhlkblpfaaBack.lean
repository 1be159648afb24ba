/- The law FloatBack: a number of at most 2^49 parts is recovered from its float64. -/
import Derived.Test.YtpdecbhlkblpfaaChain
import Derived.Test.YtpdecbhlkblpfaaNear
set_option maxRecDepth 100000
namespace Go.Proofs.Ytpdecbhlkblpfaa
open Go.RowKit Go.Lat

theorem mag_norm (r e M : Nat) (h : 4503599627370496 ≤ r) (he : r / 4503599627370496 = e) (hM : 4503599627370496 + r % 4503599627370496 = M) : mag r = M * 2 ^ (e - 1) := by
  unfold mag
  rw [if_neg (by omega), he, hM]

theorem ofInt_word (a : Int) (ha : a ≠ 0) (hb : a.natAbs < 18446744073709551616) (F : Nat) (hF : F = 1074) :
    ∃ L k, L + 52 = F + a.natAbs.log2 ∧ floatOfInt .f64 a = Ieee.double.word (decide (a < 0)) (L * 4503599627370496 + k) ∧ 4503599627370496 ≤ k ∧ k ≤ 9007199254740992 ∧ (a.natAbs.log2 ≤ 52 → k * 2 ^ L = a.natAbs * 2 ^ F) ∧ a.natAbs.log2 < 64 := by
  have hl : a.natAbs.log2 < 64 := (Nat.log2_lt (by omega)).2 (by omega)
  obtain ⟨k, k1, k2, k3, -, -, k6⟩ := near_norm (decide (a < 0)) a.natAbs 0 F (F + a.natAbs.log2 - 52) (by omega) (by omega) (by omega) (by omega) (by omega)
  exact ⟨_, k, by omega, k1, k2, k3, k6, hl⟩

theorem scale1 (q M : Nat) (h : q * 5497558138880000 < 2 * (M * 18014398509481984) + 5497558138880000) : q * 10000 < M * 65536 + 10000 := by omega
theorem scale2 (q M : Nat) (h : 2 * (M * 18014398509481984) < q * 5497558138880000 + 5497558138880000) : M * 65536 < q * 10000 + 10000 := by omega

/-- What To gives: the sign, and how near it is. -/
theorem To_word (a : Int) (ha : a ≠ 0) (hb : a.natAbs < 18446744073709551616) (Z : Nat) (hZ : Z = 1074) :
    ∃ w F W, floatBits .quo .f64 (floatOfInt .f64 a) 4666723172467343360 = some w ∧ sgn w = decide (a < 0) ∧ w < 18446744073709551616 ∧ 4503599627370496 * 1000 ≤ rng w ∧ rng w < 4503599627370496 * 1200 ∧ mag (rng w) = W ∧
      (a.natAbs.log2 ≤ 52 → F ≤ 1007 + a.natAbs.log2 ∧ 10000 * W < a.natAbs * 2 ^ Z + 50000 * 2 ^ F ∧ a.natAbs * 2 ^ Z < 10000 * W + 50000 * 2 ^ F) := by
  obtain ⟨L, k, hL, hw, hk1, hk2, hex, hl⟩ := ofInt_word a ha hb Z hZ
  obtain ⟨w1, w2, w3⟩ := word_rng (decide (a < 0)) (L * 4503599627370496 + k) (by omega)
  rw [← hw] at w1 w2 w3
  generalize floatOfInt .f64 a = b at *
  obtain ⟨eb, heb⟩ : ∃ eb, rng b / 4503599627370496 = eb := ⟨_, rfl⟩
  obtain ⟨Mb, hMb⟩ : ∃ Mb, 4503599627370496 + rng b % 4503599627370496 = Mb := ⟨_, rfl⟩
  have hr1 : 4503599627370496 ≤ rng b := by omega
  have e1 : eb = L + 1 ∨ eb = L + 2 := by omega
  obtain ⟨F, hF⟩ : ∃ F, eb + 1019 = 1036 + F := ⟨eb - 17, by omega⟩
  obtain ⟨w, q, L2, k2, d1, d2, d3, d4, d5, d6, d7, d8, d9, d10, d11, d12⟩ := div_norm b 4666723172467343360 eb 1036 Mb 5497558138880000 hr1 (by unfold infR; omega) (by decide) (by decide) heb (by decide) hMb (by decide) F hF (by omega) (by omega)
  have hmb := mag_norm (rng b) eb Mb hr1 heb hMb
  have hW := mag_rung L2 k2 (by omega) d5 d6
  refine ⟨w, F, mag (rng w), d1, ?_, d3, by omega, by omega, rfl, fun hlog => ?_⟩
  · rw [d2, w2]
    have : sgn 4666723172467343360 = false := by decide
    rw [this]
    cases decide (a < 0) <;> rfl
  · refine ⟨by omega, ?_⟩
    rw [d4, hW]
    have hA : a.natAbs * 2 ^ Z = Mb * 65536 * 2 ^ F := by
      rw [← hex hlog, ← mag_rung L k (by omega) hk1 hk2, ← w1, hmb, Nat.mul_assoc, show (65536 : Nat) = 2 ^ 16 from rfl, ← Nat.pow_add]
      congr 2
      omega
    have i1 := scale1 q Mb d11
    have i2 := scale2 q Mb d12
    have pG : 0 < 2 ^ F := Nat.two_pow_pos F
    have j1 := Nat.mul_lt_mul_of_pos_right i1 pG
    have j2 := Nat.mul_lt_mul_of_pos_right i2 pG
    have hL2 : 2 ^ L2 ≤ 8 * 2 ^ F := by
      have : 2 ^ L2 ≤ 2 ^ (F + 3) := Nat.pow_le_pow_right (by omega) d8
      rw [Nat.pow_add] at this
      omega
    rw [hA]
    have e3 : q * 10000 * 2 ^ F = 10000 * (q * 2 ^ F) := by rw [Nat.mul_comm q 10000, Nat.mul_assoc]
    rw [Nat.add_mul] at j1 j2
    rw [e3] at j1 j2
    generalize Mb * 65536 * 2 ^ F = A at *
    generalize q * 2 ^ F = Q at *
    generalize k2 * 2 ^ L2 = V at *
    generalize 2 ^ L2 = H at *
    generalize 2 ^ F = G at *
    omega

theorem fromR_To (a : Int) (ha : a ≠ 0) (hb : a.natAbs < 562949953421312) : ∃ w, floatBits .quo .f64 (floatOfInt .f64 a) 4666723172467343360 = some w ∧ w < 18446744073709551616 ∧ fromErr w = 0 ∧ fromVal w = a := by
  obtain ⟨Z, hZ⟩ : ∃ Z, Z = 1073 := ⟨_, rfl⟩
  obtain ⟨w, F, W, h1, h2, h3, h4, h5, h6, h7⟩ := To_word a ha (by omega) (Z + 1) (by omega)
  have hl : a.natAbs.log2 < 49 := (Nat.log2_lt (by omega)).2 (by omega)
  obtain ⟨f1, f2, f3⟩ := h7 (by omega)
  have hG : 50000 * 2 ^ F ≤ twoTo Z := by
    have e : twoTo Z = 2 ^ (Z - F) * 2 ^ F := by unfold twoTo; rw [← Nat.pow_add]; congr 1; omega
    rw [e]
    refine Nat.mul_le_mul_right _ ?_
    have : 2 ^ 16 ≤ 2 ^ (Z - F) := Nat.pow_le_pow_right (by omega) (by omega)
    omega
  have hfr : fromR (rng w) = a.natAbs := by
    unfold fromR
    rw [h6, ← hZ, show (1074 : Nat) = Z + 1 from by omega, twoTo_succ]
    have e2 : 2 ^ (Z + 1) = 2 * twoTo Z := twoTo_succ Z
    rw [e2] at f2 f3
    have pT := twoTo_pos Z
    generalize twoTo Z = T at *
    generalize 2 ^ F = G at *
    have e3 : a.natAbs * (2 * T) = 2 * (a.natAbs * T) := by rw [Nat.mul_left_comm]
    rw [e3] at f2 f3
    refine Nat.div_eq_of_lt_le ?_ ?_
    · rw [e3]; omega
    · rw [Nat.succ_mul, e3]; omega
  have hr : rng w < infR := by unfold infR; omega
  refine ⟨w, h1, h3, ?_, ?_⟩
  · unfold fromErr fromE
    rw [if_neg (by omega), if_neg (by omega), hfr, if_neg (by omega)]
  · unfold fromVal fromV
    rw [if_pos hr, hfr, if_neg (by omega), h2]
    by_cases hneg : a < 0
    · rw [decide_eq_true hneg, if_pos rfl]; omega
    · rw [decide_eq_false hneg, if_neg (by simp)]; omega

theorem To_back (a : Int) (hb : a.natAbs < 562949953421312) : ∃ w, floatBits .quo .f64 (floatOfInt .f64 a) 4666723172467343360 = some w ∧ w < 18446744073709551616 ∧ fromErr w = 0 ∧ fromVal w = a := by
  by_cases ha : a = 0
  · subst ha
    refine ⟨0, by kernel_rfl, by omega, ?_, ?_⟩
    · unfold fromErr fromE
      rw [show rng 0 = 0 from rfl, fromR_zero]
      rfl
    · unfold fromVal fromV
      rw [show rng 0 = 0 from rfl, fromR_zero]
      rfl
  · exact fromR_To a ha hb

theorem from_neg (b : Nat) (hb : b < 18446744073709551616) : fromErr (neg64 b) = fromErr b ∧ fromVal (neg64 b) = -fromVal b := by
  unfold fromErr fromVal fromV
  rw [neg64_rng, neg64_sgn b hb]
  refine ⟨rfl, ?_⟩
  by_cases h : rng b < infR
  · rw [if_pos h, if_pos h]
    by_cases h2 : 9000000000000000000 < fromR (rng b)
    · rw [if_pos h2, if_pos h2]; rfl
    · rw [if_neg h2, if_neg h2]
      cases sgn b <;> simp
  · rw [if_neg h, if_neg h]; rfl
theorem fromVal_range (b : Nat) : -9000000000000000000 ≤ fromVal b ∧ fromVal b ≤ 9000000000000000000 := by
  unfold fromVal fromV
  repeat' split
  all_goals omega

set_option maxHeartbeats 1600000 in
theorem FloatBack_any (w : World) (a : Int) (b : Nat) (hb : b < 18446744073709551616) :
    Calls Try.prog 6 #[.int .i64 a, .int .u64 b] w fun e w' => e = .returned (.bool true) ∧ Upd w w' (fun _ => False) := by
  obtain ⟨x, hx⟩ : ∃ x, a.tmod 562949953421312 = x := ⟨_, rfl⟩
  have hxb : x.natAbs < 562949953421312 := by
    rw [← hx, Int.natAbs_tmod]
    exact Nat.mod_lt _ (by decide)
  obtain ⟨r, r1, r2, r3, r4⟩ := To_back x hxb
  have hT := fun w => To_good w x r (by unfold okNum; simp; omega) r1
  have hF := fun w => From_any w r r2
  rw [r3, r4] at hF
  have f1 := frombits64 b
  have hG := fun w => From_any w b hb
  have hH := fun w => From_any w (neg64 b) (neg64_lt b hb)
  obtain ⟨n1, n2⟩ := from_neg b hb
  rw [n1, n2] at hH
  have hn := run_neg64 b
  obtain ⟨y1, y2⟩ := fromVal_range b
  generalize fromVal b = y at *
  generalize fromErr b = g at *
  clear n1 n2 r1 r2 r3 r4
  go_enter Try.func6, Try.ntmps6
  go_wp2_with fail
  refine Calls.mono (hT _) ?_
  rintro e w1 ⟨rfl, hu1⟩
  clear hT
  go_wp2_with fail
  refine Calls.mono (hF _) ?_
  rintro e w2 ⟨rfl, hu2⟩
  clear hF
  go_wp2_with fail
  refine Calls.mono (hG _) ?_
  rintro e w3 ⟨rfl, hu3⟩
  clear hG
  go_wp2_with fail
  refine Calls.mono (hH _) ?_
  rintro e w4 ⟨rfl, hu4⟩
  clear hH
  go_wp2_with fail
  refine Calls.mono (wakes_any _) ?_
  rintro e w5 ⟨rfl, hu5⟩
  go_wp2_with fail
  go_ret
  exact ⟨by simp, (((hu1.then hu2 (fun _ _ => id)).then hu3 (fun _ _ => id)).then hu4 (fun _ _ => id)).then hu5 (fun _ _ => id)⟩
end Go.Proofs.Ytpdecbhlkblpfaa
