/- Floats as near as one part in 2 ^ 50: a number, a quotient, a quotient of quotients; what is read off it is at most one part beside the nearest (plain). -/
import Derived.Test.YtmfngdjhkpddoaaGreatDoorJ28
import Derived.Test.YtmfngdjhkpddoaaGreatDoorJ27
import Derived.Test.YtmfngdjhkpddoaaGreatDoorJ08
import Derived.Test.YtmfngdjhkpddoaaGreatDoorJ39
/- Floats as near as one part in 2 ^ 50: a number, a quotient, a quotient of quotients; what is read off it is at most one part beside the nearest (plain). -/
set_option maxRecDepth 100000
namespace Go.Proofs.YtmfngdjhkpddoaaGreatDoor.Fl
open Go.RowKit Go.Lat

abbrev NN : Nat := 1125899906842624
def Rl (k x y : Nat) : Prop := x * NN ^ k ≤ y * (NN + 1) ^ k ∧ y * NN ^ k ≤ x * (NN + 1) ^ k
theorem Rl.symm {k x y : Nat} (h : Rl k x y) : Rl k y x := ⟨h.2, h.1⟩
theorem Rl.half {j k x y z : Nat} (h : x * NN ^ j ≤ y * (NN + 1) ^ j) (g : y * NN ^ k ≤ z * (NN + 1) ^ k) : x * NN ^ (j + k) ≤ z * (NN + 1) ^ (j + k) := by
  rw [Nat.pow_add, Nat.pow_add]
  generalize NN ^ j = a at *
  generalize NN ^ k = b at *
  generalize (NN + 1) ^ j = c at *
  generalize (NN + 1) ^ k = d at *
  have h1 := Nat.mul_le_mul_right b h
  have h2 := Nat.mul_le_mul_right c g
  have e1 : x * (a * b) = x * a * b := (Nat.mul_assoc ..).symm
  have e2 : y * c * b = y * b * c := Nat.mul_right_comm ..
  have e3 : z * (c * d) = z * d * c := by rw [Nat.mul_comm c d, Nat.mul_assoc]
  omega
theorem Rl.trans {j k x y z : Nat} (h : Rl j x y) (g : Rl k y z) : Rl (j + k) x z :=
  ⟨Rl.half h.1 g.1, by rw [Nat.add_comm]; exact Rl.half g.2 h.2⟩
theorem Rl.mul {k x y : Nat} (h : Rl k x y) (c : Nat) : Rl k (x * c) (y * c) := by
  have h1 := Nat.mul_le_mul_right c h.1
  have h2 := Nat.mul_le_mul_right c h.2
  exact ⟨by rw [Nat.mul_right_comm x, Nat.mul_right_comm y]; exact h1, by rw [Nat.mul_right_comm x, Nat.mul_right_comm y]; exact h2⟩
theorem Rl.cancel {k x y c : Nat} (hc : 0 < c) (h : Rl k (x * c) (y * c)) : Rl k x y := by
  obtain ⟨h1, h2⟩ := h
  rw [Nat.mul_right_comm x, Nat.mul_right_comm y] at h1 h2
  exact ⟨Nat.le_of_mul_le_mul_right h1 hc, Nat.le_of_mul_le_mul_right h2 hc⟩
theorem Rl.one {x y : Nat} (h1 : x * 1125899906842624 ≤ y * 1125899906842625) (h2 : y * 1125899906842624 ≤ x * 1125899906842625) : Rl 1 x y := by
  unfold Rl
  rw [Nat.pow_one, Nat.pow_one]
  exact ⟨h1, h2⟩

/-- A whole number as a float. -/
theorem int_rel (a : Int) (ha : a ≠ 0) (hb : a.natAbs < 18446744073709551616) (Z : Nat) (hZ : Z = 1074) (T : Nat) (hT : 2 ^ Z = T) :
    ∃ L k, rng (floatOfInt .f64 a) = L * 4503599627370496 + k ∧ 1022 ≤ L ∧ L ≤ 1085 ∧ 4503599627370496 ≤ k ∧ k ≤ 9007199254740992 ∧ Lat.sgn (floatOfInt .f64 a) = decide (a < 0) ∧ Rl 1 (mag (rng (floatOfInt .f64 a))) (a.natAbs * T) := by
  have hl : a.natAbs.log2 < 64 := (Nat.log2_lt (by omega)).2 (by omega)
  obtain ⟨F, hF⟩ : ∃ F, F = Z := ⟨_, rfl⟩
  obtain ⟨k, k1, k2, k3, k4, k5, -⟩ := near_norm (decide (a < 0)) a.natAbs 0 F (F + a.natAbs.log2 - 52) (by omega) (by omega) (by omega) (by omega) (by omega)
  obtain ⟨L, hL⟩ : ∃ L, F + a.natAbs.log2 - 52 = L := ⟨_, rfl⟩
  rw [hL] at k1 k4 k5
  have hw : floatOfInt .f64 a = Ieee.double.word (decide (a < 0)) (L * 4503599627370496 + k) := k1
  obtain ⟨w1, w2, w3⟩ := word_rng (decide (a < 0)) (L * 4503599627370496 + k) (by omega)
  rw [hw, w1, w2, mag_rung L k (by omega) k2 k3]
  rw [hF, hT] at k4 k5
  refine ⟨L, k, rfl, by omega, by omega, k2, k3, rfl, ?_⟩
  have hk := Nat.mul_le_mul_right (2 ^ L) k2
  generalize a.natAbs * T = Y at *
  generalize k * 2 ^ L = V at *
  generalize 2 ^ L = H at *
  exact Rl.one (by omega) (by omega)

theorem quo_lin {X PG DG MG : Nat} (h1 : X * 9007199254740991 ≤ 9007199254740992 * PG) (h2 : 9007199254740992 * PG ≤ X * 9007199254740993) (h3 : PG ≤ DG + MG) (h4 : DG ≤ PG + MG) (h5 : MG * 9007199254740992 ≤ DG) :
    X * 1125899906842624 ≤ DG * 1125899906842625 ∧ DG * 1125899906842624 ≤ X * 1125899906842625 := by omega

theorem mb_mc {b c : Nat} (h1 : 4503599627370496 ≤ b) (h2 : c < 9007199254740992) : c * 9007199254740992 ≤ 2 * (b * 18014398509481984) := by omega
/-- A quotient of two floats. -/
theorem div_rel (b c eb ec : Nat) (hb1 : 4503599627370496 ≤ rng b) (hb2 : rng b < infR) (hc1 : 4503599627370496 ≤ rng c) (hc2 : rng c < infR)
    (heb : rng b / 4503599627370496 = eb) (hec : rng c / 4503599627370496 = ec) (h1 : ec ≤ eb + 900) (h2 : eb ≤ ec + 800) (Z : Nat) (hZ : Z = 1074) (T : Nat) (hT : 2 ^ Z = T) :
    ∃ w L k, Ieee.double.div b c = some w ∧ Lat.sgn w = (Lat.sgn b ^^ Lat.sgn c) ∧ w < 18446744073709551616 ∧ rng w = L * 4503599627370496 + k ∧ 4503599627370496 ≤ k ∧ k ≤ 9007199254740992 ∧ eb + 1021 ≤ L + ec ∧ L + ec ≤ eb + 1022 ∧
      Rl 1 (mag (rng w) * mag (rng c)) (mag (rng b) * T) := by
  obtain ⟨Mb, hMb⟩ : ∃ Mb, 4503599627370496 + rng b % 4503599627370496 = Mb := ⟨_, rfl⟩
  obtain ⟨Mc, hMc⟩ : ∃ Mc, 4503599627370496 + rng c % 4503599627370496 = Mc := ⟨_, rfl⟩
  obtain ⟨F, hF⟩ : ∃ F, eb + 1019 = ec + F := ⟨eb + 1019 - ec, by omega⟩
  obtain ⟨w, q, L, k, d1, d2, d3, d4, d5, d6, d7, d8, d9, d10, d11, d12⟩ := div_norm b c eb ec Mb Mc hb1 hb2 hc1 hc2 heb hec hMb hMc F hF (by omega) (by omega)
  refine ⟨w, L, k, d1, d2, d3, d4, d5, d6, by omega, by omega, ?_⟩
  have heb1 : 1 ≤ eb := by omega
  have hec1 : 1 ≤ ec := by omega
  rw [d4, mag_rung L k (by omega) d5 d6, mag_norm (rng b) eb Mb hb1 heb hMb, mag_norm (rng c) ec Mc hc1 hec hMc]
  have hk := Nat.mul_le_mul_right (2 ^ L) d5
  have hMb1 : 4503599627370496 ≤ Mb := by omega
  have hMc1 : Mc < 9007199254740992 := by omega
  have eD : Mb * 2 ^ (eb - 1) * T = 2 * (Mb * 18014398509481984) * 2 ^ F * 2 ^ (ec - 1) := by
    have e1 : 2 * (Mb * 18014398509481984) = Mb * 2 ^ 55 := by rw [show (2 : Nat) ^ 55 = 36028797018963968 from rfl]; omega
    rw [e1, ← hT, Nat.mul_assoc, Nat.mul_assoc, Nat.mul_assoc, ← Nat.pow_add, ← Nat.pow_add, ← Nat.pow_add]
    congr 2
    omega
  rw [eD]
  have eX : k * 2 ^ L * (Mc * 2 ^ (ec - 1)) = k * 2 ^ L * Mc * 2 ^ (ec - 1) := (Nat.mul_assoc ..).symm
  rw [eX]
  refine Rl.mul ?_ _
  have eP : q * 2 ^ F * Mc = q * Mc * 2 ^ F := Nat.mul_right_comm ..
  generalize 2 ^ F = G at *
  generalize k * 2 ^ L = W at *
  generalize 2 ^ L = H at *
  have w1 : W * 9007199254740991 ≤ 9007199254740992 * (q * G) := by omega
  have w2 : 9007199254740992 * (q * G) ≤ W * 9007199254740993 := by omega
  have v1 : W * Mc * 9007199254740991 ≤ 9007199254740992 * (q * Mc * G) := by
    have := Nat.mul_le_mul_right Mc w1
    rw [Nat.mul_right_comm W, Nat.mul_assoc 9007199254740992, eP] at this
    exact this
  have v2 : 9007199254740992 * (q * Mc * G) ≤ W * Mc * 9007199254740993 := by
    have := Nat.mul_le_mul_right Mc w2
    rw [Nat.mul_right_comm W, Nat.mul_assoc 9007199254740992, eP] at this
    exact this
  have p1 := Nat.mul_le_mul_right G (Nat.le_of_lt d11)
  have p2 := Nat.mul_le_mul_right G (Nat.le_of_lt d12)
  have p0 := mb_mc hMb1 hMc1
  have p3 := Nat.mul_le_mul_right G p0
  rw [Nat.mul_right_comm Mc] at p3
  rw [Nat.add_mul] at p1 p2
  generalize W * Mc = X at *
  generalize q * Mc * G = PG at *
  generalize 2 * (Mb * 18014398509481984) * G = DG at *
  generalize Mc * G = MG at *
  have := quo_lin (X := X) (PG := PG) (DG := DG) (MG := MG) v1 v2 p1 p2 p3
  exact Rl.one this.1 this.2

/-- The float64 of a number in parts. -/
theorem To_rel (a : Int) (ha : a ≠ 0) (hb : a.natAbs < 18446744073709551616) (Z : Nat) (hZ : Z = 1074) (T : Nat) (hT : 2 ^ Z = T) :
    ∃ w, floatBits .quo .f64 (floatOfInt .f64 a) 4666723172467343360 = some w ∧ Lat.sgn w = decide (a < 0) ∧ 4503599627370496 * 1000 ≤ rng w ∧ rng w < 4503599627370496 * 1200 ∧ Rl 2 (mag (rng w) * 10000) (a.natAbs * T) := by
  obtain ⟨L, k, r1, r2, r3, r4, r5, r6, r7⟩ := int_rel a ha hb Z hZ T hT
  generalize floatOfInt .f64 a = f at *
  obtain ⟨eb, heb⟩ : ∃ eb, rng f / 4503599627370496 = eb := ⟨_, rfl⟩
  have hr1 : 4503599627370496 ≤ rng f := by omega
  have e1 : eb = L + 1 ∨ eb = L + 2 := by omega
  obtain ⟨w, L2, k2, d1, d2, d3, d4, d5, d6, d7, d8, d9⟩ := div_rel f 4666723172467343360 eb 1036 hr1 (by unfold infR; omega) (by decide) (by decide) heb (by decide) (by omega) (by omega) Z hZ T hT
  refine ⟨w, d1, ?_, by omega, by omega, ?_⟩
  · rw [d2, r6]
    have : Lat.sgn 4666723172467343360 = false := by decide
    rw [this]
    cases decide (a < 0) <;> rfl
  · have hm : mag (rng 4666723172467343360) = 10000 * T := by
      obtain ⟨E, hE⟩ : ∃ E, E = 1036 := ⟨_, rfl⟩
      rw [mag_norm (rng 4666723172467343360) E 5497558138880000 (by decide) (by rw [hE]; decide) (by decide), ← hT, show (5497558138880000 : Nat) = 10000 * 2 ^ 39 from rfl, Nat.mul_assoc, ← Nat.pow_add]
      congr 2
      omega
    rw [hm, ← Nat.mul_assoc] at d9
    have hT0 : 0 < T := by rw [← hT]; exact Nat.two_pow_pos _
    exact (Rl.cancel hT0 d9).trans r7

theorem five_le : (NN + 1) ^ 5 * 140737488355328 ≤ NN ^ 5 * 140737488355329 := by decide
theorem Rl.five {x y : Nat} (h : x * NN ^ 5 ≤ y * (NN + 1) ^ 5) : x * 140737488355328 ≤ y * 140737488355329 := by
  have h5 := five_le
  have hp : 0 < NN ^ 5 := by decide
  generalize NN ^ 5 = a at *
  generalize (NN + 1) ^ 5 = c at *
  have h1 := Nat.mul_le_mul_right 140737488355328 h
  have h2 := Nat.mul_le_mul_left y h5
  have e1 : x * a * 140737488355328 = x * 140737488355328 * a := Nat.mul_right_comm ..
  have e2 : y * c * 140737488355328 = y * (c * 140737488355328) := Nat.mul_assoc ..
  have e3 : y * (a * 140737488355329) = y * 140737488355329 * a := by rw [Nat.mul_comm a, Nat.mul_assoc]
  exact Nat.le_of_mul_le_mul_right (by omega) hp

/-- The nearest of a float that is as near to a quotient: at most one part beside the nearest of the quotient. -/
theorem near_lin {n m R B A T : Nat} (hB : 0 < B) (hA : A < 1073741824) (hn1 : n * (2 * T) ≤ R * 10000 + T) (hn2 : R * 10000 + T < (n + 1) * (2 * T))
    (hm1 : 2 * (m * B) ≤ 2 * (A * 10000) + B) (hm2 : 2 * (A * 10000) < 2 * (m * B) + B + 1)
    (r1 : R * B * 140737488355328 ≤ A * (2 * T) * 140737488355329) (r2 : A * (2 * T) * 140737488355328 ≤ R * B * 140737488355329) : n ≤ m + 1 ∧ m ≤ n + 1 := by
  have a1 := Nat.mul_le_mul_right B hn1
  have a2 := Nat.mul_lt_mul_of_pos_right hn2 hB
  have b1 := Nat.mul_le_mul_right T hm1
  have hT : 0 < T := by
    rcases Nat.eq_zero_or_pos T with h | h
    · subst h; simp at hn2
    · exact h
  have b2 := Nat.mul_lt_mul_of_pos_right hm2 hT
  have eAT : A * T < 1073741824 * T := Nat.mul_lt_mul_of_pos_right hA hT
  have eBT : T ≤ B * T := Nat.le_mul_of_pos_left T hB
  have e1 : n * (2 * T) * B = 2 * (n * (B * T)) := by ac_rfl
  have e2 : (R * 10000 + T) * B = R * B * 10000 + B * T := by rw [Nat.add_mul, Nat.mul_right_comm, Nat.mul_comm T B]
  have e3 : (n + 1) * (2 * T) * B = 2 * (n * (B * T)) + 2 * (B * T) := by rw [Nat.add_mul, Nat.add_mul, e1]; congr 1; ac_rfl
  have e4 : 2 * (m * B) * T = 2 * (m * (B * T)) := by ac_rfl
  have e5 : (2 * (A * 10000) + B) * T = 20000 * (A * T) + B * T := by rw [Nat.add_mul]; congr 1; ac_rfl
  have e6 : (2 * (m * B) + B + 1) * T = 2 * (m * (B * T)) + B * T + T := by rw [Nat.add_mul, Nat.add_mul, e4, Nat.one_mul]
  have e7 : 2 * (A * 10000) * T = 20000 * (A * T) := by ac_rfl
  have e8 : A * (2 * T) = 2 * (A * T) := by ac_rfl
  rw [e1, e2] at a1
  rw [e2, e3] at a2
  rw [e4, e5] at b1
  rw [e6, e7] at b2
  rw [e8] at r1 r2
  have n1 : n < m + 2 := by
    rcases Nat.lt_or_ge n (m + 2) with h | h
    · exact h
    · exfalso
      have := Nat.mul_le_mul_right (B * T) h
      rw [Nat.add_mul] at this
      generalize B * T = X at *
      generalize A * T = Y at *
      generalize R * B = Z at *
      generalize n * X = U at *
      generalize m * X = V at *
      omega
  have n2 : m < n + 2 := by
    rcases Nat.lt_or_ge m (n + 2) with h | h
    · exact h
    · exfalso
      have := Nat.mul_le_mul_right (B * T) h
      rw [Nat.add_mul] at this
      generalize B * T = X at *
      generalize A * T = Y at *
      generalize R * B = Z at *
      generalize n * X = U at *
      generalize m * X = V at *
      omega
  exact ⟨by omega, by omega⟩
theorem rnd_near (C B : Nat) (hB : 0 < B) : 2 * (rnd C B * B) ≤ 2 * C + B ∧ 2 * C < 2 * (rnd C B * B) + B + 1 := by
  unfold rnd
  have hdm := Nat.div_add_mod C B
  have hlt := Nat.mod_lt C hB
  rw [Nat.mul_comm] at hdm
  generalize C / B = q at *
  generalize C % B = r at *
  split
  · rw [Nat.add_zero]; omega
  · rw [Nat.add_mul, Nat.one_mul]; omega
/-- What is read off the quotient by way of float64 is at most one part beside the nearest of the quotient. -/
theorem ratio_rel (x y : Int) (hx : x ≠ 0) (hy : y ≠ 0) (hxb : x.natAbs < 1073741824) (hyb : y.natAbs < 18446744073709551616) (b c r : Nat)
    (hb : floatBits .quo .f64 (floatOfInt .f64 x) 4666723172467343360 = some b) (hc : floatBits .quo .f64 (floatOfInt .f64 y) 4666723172467343360 = some c) (hr : Ieee.double.div b c = some r) :
    rng r < infR ∧ Lat.sgn r = (decide (x < 0) ^^ decide (y < 0)) ∧ fromR (rng r) ≤ rnd (x.natAbs * 10000) y.natAbs + 1 ∧ rnd (x.natAbs * 10000) y.natAbs ≤ fromR (rng r) + 1 := by
  obtain ⟨Z0, hZ0⟩ : ∃ Z, Z = 1073 := ⟨_, rfl⟩
  obtain ⟨Z, hZ⟩ : ∃ Z, Z = 1074 := ⟨_, rfl⟩
  obtain ⟨T, hT⟩ : ∃ T, 2 ^ Z = T := ⟨_, rfl⟩
  obtain ⟨b', b1, b2, b3, b4, b5⟩ := To_rel x hx (by omega) Z hZ T hT
  obtain ⟨c', c1, c2, c3, c4, c5⟩ := To_rel y hy hyb Z hZ T hT
  obtain rfl : b' = b := by rw [b1] at hb; exact Option.some.inj hb
  obtain rfl : c' = c := by rw [c1] at hc; exact Option.some.inj hc
  obtain ⟨w, L, k, d1, d2, d3, d4, d5, d6, d7, d8, d9⟩ := div_rel b' c' _ _ (by omega) (by unfold infR; omega) (by omega) (by unfold infR; omega) rfl rfl (by omega) (by omega) Z hZ T hT
  obtain rfl : w = r := by rw [d1] at hr; exact Option.some.inj hr
  refine ⟨by unfold infR; omega, by rw [d2, b2, c2], ?_⟩
  have hT0 : 0 < T := by rw [← hT]; exact Nat.two_pow_pos _
  have k1 : Rl 1 (mag (rng w) * (mag (rng c') * 10000)) (mag (rng b') * 10000 * T) := by
    have := d9.mul 10000
    rw [Nat.mul_assoc, Nat.mul_right_comm] at this
    exact this
  have k2 : Rl 2 (mag (rng b') * 10000 * T) (x.natAbs * T * T) := b5.mul T
  have k3 : Rl 2 (mag (rng w) * (mag (rng c') * 10000)) (mag (rng w) * y.natAbs * T) := by
    have := c5.mul (mag (rng w))
    rw [Nat.mul_comm, Nat.mul_comm (y.natAbs * T), ← Nat.mul_assoc (mag (rng w)) y.natAbs] at this
    exact this
  have k4 : Rl 5 (mag (rng w) * y.natAbs) (x.natAbs * T) := Rl.cancel hT0 ((k3.symm.trans k1).trans k2)
  have s1 := Rl.five k4.1
  have s2 := Rl.five k4.2
  obtain ⟨H, hH⟩ : ∃ H, twoTo Z0 = H := ⟨_, rfl⟩
  have hTH : T = 2 * H := by rw [← hT, ← hH, twoTo_eq, show Z = Z0 + 1 from by omega, twoTo_succ]
  have hH0 : 0 < H := by omega
  obtain ⟨n, hn⟩ : ∃ n, fromR (rng w) = n := ⟨_, rfl⟩
  have hn0 := hn
  unfold fromR at hn0
  rw [← hZ0, show (1074 : Nat) = Z0 + 1 from by omega, twoTo_succ, hH] at hn0
  have hdm := Nat.div_add_mod (mag (rng w) * 10000 + H) (2 * H)
  have hlt := Nat.mod_lt (mag (rng w) * 10000 + H) (show 0 < 2 * H by omega)
  rw [hn0] at hdm
  have q1 := rnd_near (x.natAbs * 10000) y.natAbs (by omega)
  rw [hn]
  rw [hTH] at s1 s2
  refine near_lin (T := H) (A := x.natAbs) (B := y.natAbs) (R := mag (rng w)) (by omega) hxb ?_ ?_ q1.1 q1.2 s1 s2
  · rw [Nat.mul_comm n]; omega
  · rw [Nat.add_mul, Nat.one_mul, Nat.mul_comm n]; omega
end Go.Proofs.YtmfngdjhkpddoaaGreatDoor.Fl
/- TopRatio's law (plain). -/
set_option maxRecDepth 100000
namespace Go.Proofs.YtmfngdjhkpddoaaGreatDoor
open Go.RowKit Go.Lat Go.Lib

theorem cls_zero {r : Nat} (h : Fl.cls r = 3 ∨ Fl.cls r = 4) : rng r = 0 := by
  unfold Fl.cls at h
  repeat' split at h
  all_goals (rcases h with h | h)
  all_goals (first | omega | assumption)
theorem fromR_0 : Fl.fromR 0 = 0 := by
  have h := Fl.mag_zero_from 0 rfl
  exact h
/-- By way of float64 and as numbers: the same error, or two numbers at most one part apart. -/
theorem top_law {x y : Int} (hx : x.natAbs < 1073741824) (hy : okNum y = true) : (ratioV x y = tldV (divF x y) ∧ ∃ p, ratioV x y = ⟨4, 0, [], false, p⟩ ∧ okFail p = true) ∨ ∃ p q : Int, okNum p = true ∧ okNum q = true ∧ ratioV x y = ⟨1, p, [], false, 0⟩ ∧ tldV (divF x y) = ⟨1, q, [], false, 0⟩ ∧ -1 ≤ p - q ∧ p - q ≤ 1 := by
  have hxo : okNum x = true := by simp [okNum]; omega
  have hyr := okNum_true hy
  by_cases h0 : y = 0
  · subst h0
    left
    have e1 : ratioV x 0 = mkE 1 := by unfold ratioV; rw [if_pos rfl]
    have e2 : divF x 0 = (0, 6) := by unfold divF; rw [hxo]; rfl
    rw [e1, e2]
    exact ⟨rfl, 1, rfl, rfl⟩
  · right
    obtain ⟨b, c, hb, hc, hr, hrl, hcl, -⟩ := ratR_spec hxo hy h0
    obtain ⟨r, hrr⟩ : ∃ r, ratR x y = r := ⟨_, rfl⟩
    rw [hrr] at hr hrl hcl
    have er : ratioV x y = tldV (Fl.fromVal r, Fl.fromErr r) := by unfold ratioV; rw [if_neg h0, hrr]
    obtain ⟨m, hm⟩ : ∃ m, rnd (x.natAbs * 10000) y.natAbs = m := ⟨_, rfl⟩
    have hmb : m ≤ 10737418240001 := by
      rw [← hm]
      unfold rnd
      have := Nat.div_le_self (x.natAbs * 10000) y.natAbs
      split <;> omega
    have ed : divF x y = (numV (sgn x != sgn y) m, numE m) := by
      unfold divF
      rw [hxo, hy]
      simp only [Bool.and_self, if_true]
      rw [if_neg h0, hm]
    have eq0 : numE m = 0 := by unfold numE; rw [if_neg (by omega)]
    have eqv : numV (sgn x != sgn y) m = if (sgn x != sgn y) then -(m : Int) else (m : Int) := by unfold numV; rw [if_neg (by omega)]
    rw [er, ed, eq0, eqv]
    have key : ∃ n : Nat, Fl.fromErr r = 0 ∧ (Fl.fromVal r = if (sgn x != sgn y) then -(n : Int) else (n : Int)) ∧ n ≤ m + 1 ∧ m ≤ n + 1 := by
      by_cases hx0 : x = 0
      · subst hx0
        have hc34 : Fl.cls r = 3 ∨ Fl.cls r = 4 := by
          obtain ⟨b', b1, b2, b3⟩ := Fl.To_cases 0 hxo
          obtain ⟨c', c1, c2, c3⟩ := Fl.To_cases y hy
          obtain ⟨t1, t2, t3⟩ := c3 h0
          obtain rfl : b' = b := Option.some.inj (b1.symm.trans hb)
          obtain rfl : c' = c := Option.some.inj (c1.symm.trans hc)
          obtain rfl := b2 rfl
          obtain ⟨r', r1, r2, r3⟩ := Fl.zero_div c' (by omega) (by unfold infR; omega)
          obtain rfl : r' = r := Option.some.inj (r1.symm.trans hr)
          rw [r3]
          split
          · exact .inl rfl
          · exact .inr rfl
        have hz := cls_zero hc34
        have hm0 : m = 0 := by
          rw [← hm]
          unfold rnd
          have : 0 < y.natAbs := by omega
          simp [this]
        refine ⟨0, ?_, ?_, by omega, by omega⟩
        · unfold Fl.fromErr Fl.fromE
          rw [hz, fromR_0, if_neg (by decide), if_neg (by decide), if_neg (by decide)]
        · unfold Fl.fromVal Fl.fromV
          rw [hz, fromR_0, if_pos (by decide), if_neg (by decide)]
          cases Lat.sgn r <;> cases (sgn 0 != sgn y) <;> rfl
      · obtain ⟨k1, k2, k3, k4⟩ := Fl.ratio_rel x y hx0 h0 hx (by omega) b c r hb hc hr
        rw [hm] at k3 k4
        refine ⟨Fl.fromR (rng r), ?_, ?_, k3, k4⟩
        · unfold Fl.fromErr Fl.fromE
          rw [if_neg (by omega), if_neg (by omega), if_neg (by omega)]
        · unfold Fl.fromVal Fl.fromV
          rw [if_pos k1, if_neg (by omega), k2]
          have : (decide (x < 0) ^^ decide (y < 0)) = (sgn x != sgn y) := by unfold sgn; cases decide (x < 0) <;> cases decide (y < 0) <;> rfl
          rw [this]
    obtain ⟨n, n1, n2, n3, n4⟩ := key
    rw [n1, n2]
    have t0 : ∀ z : Int, okNum z = true → tldV (z, 0) = ⟨1, z, [], false, 0⟩ := fun z h => by unfold tldV mkN; rw [if_pos rfl, h]; rfl
    have ok1 : ∀ k : Nat, k ≤ 10737418240003 → okNum (if (sgn x != sgn y) then -(k : Int) else (k : Int)) = true := fun k hk => by cases (sgn x != sgn y) <;> simp [okNum] <;> omega
    refine ⟨_, _, ok1 n (by omega), ok1 m (by omega), t0 _ (ok1 n (by omega)), t0 _ (ok1 m (by omega)), ?_, ?_⟩
    · cases (sgn x != sgn y) <;> simp <;> omega
    · cases (sgn x != sgn y) <;> simp <;> omega
end Go.Proofs.YtmfngdjhkpddoaaGreatDoor
/- The walk of TopRatio. -/
set_option maxRecDepth 100000
namespace Go.Proofs.YtmfngdjhkpddoaaGreatDoor
open Go.RowKit Go.Lat Go.Lib

theorem mkN_of {n : Int} (h : okNum n = true) : mkN n = ⟨1, n, [], false, 0⟩ := by unfold mkN; rw [if_pos h]
theorem N_num (n : Int) (h : okNum n = true) : ∀ w, Calls Tryz.prog 10 #[.int .i64 n] w (fun e w' => e = .returned (.agg #[.int .i64 1, .int .i64 n, .string ⟨#[]⟩, .bool false, .int .i64 0]) ∧ Upd w w' (fun _ => False)) := fun w => by
  have k := N_any w n
  rw [mkN_of h] at k
  exact k
set_option maxHeartbeats 3200000 in
theorem wakes09_any (w : World) : Calls Tryz.prog 13 #[] w fun e w' => e = .returned (.bool true) ∧ Upd w w' (fun _ => False) := by
  have N1 : ∀ w, Calls Tryz.prog 10 #[.int .i64 10000] w (fun e w' => e = .returned (.agg #[.int .i64 1, .int .i64 10000, .string ⟨#[]⟩, .bool false, .int .i64 0]) ∧ Upd w w' (fun _ => False)) := fun w => N_any w 10000
  have N2 : ∀ w, Calls Tryz.prog 10 #[.int .i64 40000] w (fun e w' => e = .returned (.agg #[.int .i64 1, .int .i64 40000, .string ⟨#[]⟩, .bool false, .int .i64 0]) ∧ Upd w w' (fun _ => False)) := fun w => N_any w 40000
  have N3 : ∀ w, Calls Tryz.prog 10 #[.int .i64 2500] w (fun e w' => e = .returned (.agg #[.int .i64 1, .int .i64 2500, .string ⟨#[]⟩, .bool false, .int .i64 0]) ∧ Upd w w' (fun _ => False)) := fun w => N_any w 2500
  have CR : ∀ w g, RdV w (some ⟨g, 0, none⟩) [⟨1, 10000, [], false, 0⟩, ⟨1, 40000, [], false, 0⟩] → Calls Tryz.prog 11 #[.string ⟨#[82, 65, 84, 73, 79]⟩, .slice (some ⟨g, 0, none⟩) 2 2] w (fun e w' => e = .returned (.tuple #[.agg #[.int .i64 1, .int .i64 2500, .string ⟨#[]⟩, .bool false, .int .i64 0], .bool true]) ∧ Upd w w' (fun _ => False)) := fun w g h => call2_num w [82, 65, 84, 73, 79] (by decide) g (by decide) (by decide) _ wk_ratio h
  have EA : ∀ w, (binOp .eql 26 (.agg #[.int .i64 1, .int .i64 2500, .string ⟨#[]⟩, .bool false, .int .i64 0]) (.agg #[.int .i64 1, .int .i64 2500, .string ⟨#[]⟩, .bool false, .int .i64 0])).run Tryz.prog w = .ok (.bool true) w := eq_at ⟨1, 2500, [], false, 0⟩ ⟨1, 2500, [], false, 0⟩ (num_ok (by decide)) (num_ok (by decide)) (q := true) (by rw [eqV_iff])
  have HU0 : Hid (Upd w w (fun _ => False)) := hide (Upd.refl w _)
  go_enter Tryz.func13, Tryz.ntmps13
  go_wp2_with fail
  with_reducible refine Calls.mono (N1 _) ?_
  rintro e w1 ⟨rfl, u1⟩
  have HU1 := hide (HU0.out.then u1 (fun _ _ => id))
  clear u1
  go_wp2_with fail
  with_reducible refine Calls.mono (N2 _) ?_
  rintro e w2 ⟨rfl, u2⟩
  have HU2 := hide (HU1.out.then u2 (fun _ _ => id))
  clear u2
  go_wp2_with fail
  have HM := hide (rdV_made (w := w2) (T := 26) (l := [⟨1, 10000, [], false, 0⟩, ⟨1, 40000, [], false, 0⟩]) (cur := #[.int .i64 1, .int .i64 10000, .string ⟨#[]⟩, .bool false, .int .i64 0, .int .i64 1, .int .i64 40000, .string ⟨#[]⟩, .bool false, .int .i64 0]) rfl)
  with_reducible refine Calls.mono (CR _ _ HM.out) ?_
  rintro e w3 ⟨rfl, u3⟩
  have HU3 := hide ((HU2.out.alloc _).then u3 (fun _ _ => id))
  clear u3
  have bA := Vnew1 w3 (.cells #[.int .i64 1, .int .i64 2500, .string ⟨#[]⟩, .bool false, .int .i64 0] 26)
  have bU : Upd w (w3.alloc (.cells #[.int .i64 1, .int .i64 2500, .string ⟨#[]⟩, .bool false, .int .i64 0] 26)) (fun _ => False) := HU3.out.alloc _
  clear HM HU3
  go_wp2_with fail
  obtain ⟨W, hW⟩ : ∃ W, w3.alloc (.cells #[.int .i64 1, .int .i64 2500, .string ⟨#[]⟩, .bool false, .int .i64 0] 26) = W := ⟨_, rfl⟩
  rw [hW] at bA bU ⊢
  obtain ⟨ga, hga⟩ : ∃ g, w3.heap.size = g := ⟨_, rfl⟩
  rw [hga] at bA ⊢
  obtain ⟨a0, a1, a2, a3, a4⟩ := cells5 bA
  have al := lt_at bA
  clear hW hga bA
  go_region_held3 (fun w' => w'.cell? ⟨ga, 0, none⟩ = some (.int .i64 1) ∧ w'.cell? ⟨ga, 1, none⟩ = some (.int .i64 2500) ∧ w'.cell? ⟨ga, 2, none⟩ = some (.string ⟨#[]⟩) ∧ w'.cell? ⟨ga, 3, none⟩ = some (.bool false) ∧ w'.cell? ⟨ga, 4, none⟩ = some (.int .i64 0) ∧ Upd W w' (fun _ => False))
    (first | (go_keep; done) | exact ⟨a0, a1, a2, a3, a4, (Upd.refl W _).drew⟩ | (have hz : Upd W _ (fun _ => False) := Upd.then (And.right (And.right (And.right (And.right (And.right (by assumption)))))) uA (fun _ _ => id); with_reducible exact ⟨(hz.cell ga 0 al id).trans a0, (hz.cell ga 1 al id).trans a1, (hz.cell ga 2 al id).trans a2, (hz.cell ga 3 al id).trans a3, (hz.cell ga 4 al id).trans a4, hz⟩))
    (first | (go_at_call 10; with_reducible refine Calls.mono (N3 _) ?_; rintro e wz ⟨rfl, uA⟩))
  all_goals go_wp2_with fail
  all_goals go_ret
  all_goals exact ⟨rfl, bU.then (And.right (And.right (And.right (And.right (And.right (by assumption)))))) (fun _ _ => id)⟩
set_option maxHeartbeats 6400000 in
theorem TopRatio_any (w : World) (hg : Sig w) (hp : Pow w) (a b : Int) : Calls Tryz.prog 3 #[.int .i64 a, .int .i64 b] w fun e w' => e = .returned (.bool true) ∧ Upd w w' (fun _ => False) := by
  have ra := tmod_rng a 1073741824 (by decide)
  have rb := tmod_rng b 1152921504606846976 (by decide)
  obtain ⟨x, hx⟩ : ∃ x, a.tmod 1073741824 = x := ⟨_, rfl⟩
  obtain ⟨y, hy⟩ : ∃ y, b.tmod 1152921504606846976 = y := ⟨_, rfl⟩
  rw [hx] at ra
  rw [hy] at rb
  have ox : okNum x = true := by simp [okNum]; omega
  have oy : okNum y = true := by simp [okNum]; omega
  have wx : IntKind.i64.wrap x = x := by rw [IntWalk.i64_in _ (by omega)]
  have wy : IntKind.i64.wrap y = y := by rw [IntWalk.i64_in _ (by omega)]
  have NX := N_num x ox
  have NY := N_num y oy
  have LAW := top_law (x := x) (y := y) (by omega) oy
  obtain ⟨⟨pk, pn, pt, pb, pf⟩, hpp⟩ : ∃ p, ratioV x y = p := ⟨_, rfl⟩
  obtain ⟨⟨qk, qn, qt, qb, qf⟩, hqq⟩ : ∃ p, tldV (divF x y) = p := ⟨_, rfl⟩
  have CR : ∀ w g, RdV w (some ⟨g, 0, none⟩) [⟨1, x, [], false, 0⟩, ⟨1, y, [], false, 0⟩] → Calls Tryz.prog 11 #[.string ⟨#[82, 65, 84, 73, 79]⟩, .slice (some ⟨g, 0, none⟩) 2 2] w (fun e w' => e = .returned (.tuple #[(Vl.mk pk pn pt pb pf).val, .bool true]) ∧ Upd w w' (fun _ => False)) := fun w g h => call2_num w [82, 65, 84, 73, 79] (by decide) g ox oy _ (by
    rw [← hpp]
    unfold pairV
    rw [if_neg (by decide), if_neg (by decide), if_neg (by decide), if_neg (by decide), if_neg (by decide), if_neg (by decide)]) h
  have BD := fun w h1 h2 => Bin_any w h1 h2 [47] ⟨1, x, [], false, 0⟩ ⟨1, y, [], false, 0⟩ (num_ok ox) (num_ok oy) (Nat.zero_le _) (Nat.zero_le _)
  rw [binV_num (by decide) (by decide) ox oy, show reckV [47] x y = (tldV (divF x y), true) from rfl, hqq] at BD
  rw [hpp, hqq] at LAW
  unfold Vl.val at CR BD
  simp only at CR BD
  have HG := hide hg
  have HP := hide hp
  have HU0 : Hid (Upd w w (fun _ => False)) := hide (Upd.refl w _)
  clear hpp hqq ra rb hg hp ox oy
  rcases LAW with ⟨he, p, hep, hfp⟩ | ⟨p, q, op, oq, hep, heq, d1, d2⟩
  · obtain ⟨rfl, rfl, rfl, rfl, rfl⟩ := Vl.mk.inj he
    have hok : (Vl.mk pk pn pt pb pf).ok := by
      rw [hep]
      exact ⟨i4, i0, Nat.zero_le _, okFail_i64 hfp⟩
    have EQ := eq_at ⟨pk, pn, pt, pb, pf⟩ ⟨pk, pn, pt, pb, pf⟩ hok hok (q := true) (by rw [eqV_iff])
    have bk : (pk != 1) = true := by rw [(Vl.mk.inj hep).1]; rfl
    clear he hep hok hfp
    go_enter Tryz.func3, Tryz.ntmps3
    go_wp2_with fail
    with_reducible refine Calls.mono (NX _) ?_
    rintro e w1 ⟨rfl, u1⟩
    have HU1 := hide (HU0.out.then u1 (fun _ _ => id))
    clear u1
    go_wp2_with fail
    with_reducible refine Calls.mono (NY _) ?_
    rintro e w2 ⟨rfl, u2⟩
    have HU2 := hide (HU1.out.then u2 (fun _ _ => id))
    clear u2
    go_wp2_with fail
    have HM := hide (rdV_made (w := ((w2.alloc (.cells #[.int .i64 1, .int .i64 x, .string ⟨#[]⟩, .bool false, .int .i64 0] 26)).alloc (.cells #[.int .i64 1, .int .i64 y, .string ⟨#[]⟩, .bool false, .int .i64 0] 26))) (T := 26) (l := [⟨1, x, [], false, 0⟩, ⟨1, y, [], false, 0⟩]) (cur := #[.int .i64 1, .int .i64 x, .string ⟨#[]⟩, .bool false, .int .i64 0, .int .i64 1, .int .i64 y, .string ⟨#[]⟩, .bool false, .int .i64 0]) rfl)
    have hsz : ((w2.alloc (.cells #[.int .i64 1, .int .i64 x, .string ⟨#[]⟩, .bool false, .int .i64 0] 26)).alloc (.cells #[.int .i64 1, .int .i64 y, .string ⟨#[]⟩, .bool false, .int .i64 0] 26)).heap.size = w2.heap.size + 1 + 1 := by simp
    rw [hsz] at HM
    refine Calls.mono (CR _ _ HM) ?_
    rintro e w3 ⟨rfl, u3⟩
    have HX : Hid (w3.heap[w2.heap.size]? = some (.cells #[.int .i64 1, .int .i64 x, .string ⟨#[]⟩, .bool false, .int .i64 0] 26 (0, 0))) := hide (u3.get (block_alloc (block_alloc (Vnew1 w2 (.cells #[.int .i64 1, .int .i64 x, .string ⟨#[]⟩, .bool false, .int .i64 0] 26)) (.cells #[.int .i64 1, .int .i64 y, .string ⟨#[]⟩, .bool false, .int .i64 0] 26)) (.cells #[.int .i64 1, .int .i64 x, .string ⟨#[]⟩, .bool false, .int .i64 0, .int .i64 1, .int .i64 y, .string ⟨#[]⟩, .bool false, .int .i64 0] 26)) id)
    have HY : Hid (w3.heap[w2.heap.size + 1]? = some (.cells #[.int .i64 1, .int .i64 y, .string ⟨#[]⟩, .bool false, .int .i64 0] 26 (0, 0))) := hide (u3.get (block_alloc (Vnew2 w2 (.cells #[.int .i64 1, .int .i64 x, .string ⟨#[]⟩, .bool false, .int .i64 0] 26) (.cells #[.int .i64 1, .int .i64 y, .string ⟨#[]⟩, .bool false, .int .i64 0] 26)) (.cells #[.int .i64 1, .int .i64 x, .string ⟨#[]⟩, .bool false, .int .i64 0, .int .i64 1, .int .i64 y, .string ⟨#[]⟩, .bool false, .int .i64 0] 26)) id)
    have HU3 := hide ((((HU2.out.alloc _).alloc _).alloc _).then u3 (fun _ _ => id))
    clear u3
    clear HM hsz
    have bX := HX.out
    obtain ⟨x0, x1, x2, x3, x4⟩ := cells5 bX
    have xl := lt_at bX
    clear bX
    have bY := HY.out
    obtain ⟨y0, y1, y2, y3, y4⟩ := cells5 bY
    have yl := lt_at bY
    clear bY
    have yl_ : w2.heap.size < w3.heap.size := by omega
    go_wp2_with fail
    with_reducible refine Calls.mono (BD _ (HG.out.upd (HU3.out.alloc _) id) (HP.out.upd (HU3.out.alloc _) id)) ?_
    rintro e w4 ⟨rfl, u4⟩
    have HX := hide (u4.get (block_alloc HX.out (.cells #[.int .i64 pk, .int .i64 pn, enS pt, .bool pb, .int .i64 pf] 26)) id)
    have HY := hide (u4.get (block_alloc HY.out (.cells #[.int .i64 pk, .int .i64 pn, enS pt, .bool pb, .int .i64 pf] 26)) id)
    have HP : Hid (w4.heap[w3.heap.size]? = some (.cells #[.int .i64 pk, .int .i64 pn, enS pt, .bool pb, .int .i64 pf] 26 (0, 0))) := hide (u4.get (Vnew1 w3 (.cells #[.int .i64 pk, .int .i64 pn, enS pt, .bool pb, .int .i64 pf] 26)) id)
    have HU4 := hide ((HU3.out.alloc _).then u4 (fun _ _ => id))
    clear u4
    clear x0 x1 x2 x3 x4 xl y0 y1 y2 y3 y4 yl
    go_wp2_with fail
    with_reducible refine Calls.mono (wakes09_any _) ?_
    rintro e w5 ⟨rfl, u5⟩
    have HX := hide (u5.get (block_alloc HX.out (.cells #[.int .i64 pk, .int .i64 pn, enS pt, .bool pb, .int .i64 pf] 26)) id)
    have HY := hide (u5.get (block_alloc HY.out (.cells #[.int .i64 pk, .int .i64 pn, enS pt, .bool pb, .int .i64 pf] 26)) id)
    have HP := hide (u5.get (block_alloc HP.out (.cells #[.int .i64 pk, .int .i64 pn, enS pt, .bool pb, .int .i64 pf] 26)) id)
    have HQ : Hid (w5.heap[w4.heap.size]? = some (.cells #[.int .i64 pk, .int .i64 pn, enS pt, .bool pb, .int .i64 pf] 26 (0, 0))) := hide (u5.get (Vnew1 w4 (.cells #[.int .i64 pk, .int .i64 pn, enS pt, .bool pb, .int .i64 pf] 26)) id)
    have HU5 := hide ((HU4.out.alloc _).then u5 (fun _ _ => id))
    clear u5
    have bP := HP.out
    obtain ⟨p0, p1, p2, p3, p4⟩ := cells5 bP
    have pl := lt_at bP
    clear bP
    have bQ := HQ.out
    obtain ⟨q0, q1, q2, q3, q4⟩ := cells5 bQ
    have ql := lt_at bQ
    clear bQ
    go_wp2_with fail
    go_ret
    exact ⟨rfl, HU5.out⟩
  · have bk : (pk != 1) = false := by rw [(Vl.mk.inj hep).1]; rfl
    have bq : (qk != 1) = false := by rw [(Vl.mk.inj heq).1]; rfl
    have e1 : pn = p := (Vl.mk.inj hep).2.1
    have e2 : qn = q := (Vl.mk.inj heq).2.1
    rw [← e1, ← e2] at d1 d2
    clear e1 e2
    obtain ⟨d, hd⟩ : ∃ d, pn - qn = d := ⟨_, rfl⟩
    have wd : IntKind.i64.wrap d = d := by rw [IntWalk.i64_in _ (by omega)]
    rw [hd] at d1 d2
    clear hep heq op oq
    go_enter Tryz.func3, Tryz.ntmps3
    go_wp2_with fail
    with_reducible refine Calls.mono (NX _) ?_
    rintro e w1 ⟨rfl, u1⟩
    have HU1 := hide (HU0.out.then u1 (fun _ _ => id))
    clear u1
    go_wp2_with fail
    with_reducible refine Calls.mono (NY _) ?_
    rintro e w2 ⟨rfl, u2⟩
    have HU2 := hide (HU1.out.then u2 (fun _ _ => id))
    clear u2
    go_wp2_with fail
    have HM := hide (rdV_made (w := ((w2.alloc (.cells #[.int .i64 1, .int .i64 x, .string ⟨#[]⟩, .bool false, .int .i64 0] 26)).alloc (.cells #[.int .i64 1, .int .i64 y, .string ⟨#[]⟩, .bool false, .int .i64 0] 26))) (T := 26) (l := [⟨1, x, [], false, 0⟩, ⟨1, y, [], false, 0⟩]) (cur := #[.int .i64 1, .int .i64 x, .string ⟨#[]⟩, .bool false, .int .i64 0, .int .i64 1, .int .i64 y, .string ⟨#[]⟩, .bool false, .int .i64 0]) rfl)
    have hsz : ((w2.alloc (.cells #[.int .i64 1, .int .i64 x, .string ⟨#[]⟩, .bool false, .int .i64 0] 26)).alloc (.cells #[.int .i64 1, .int .i64 y, .string ⟨#[]⟩, .bool false, .int .i64 0] 26)).heap.size = w2.heap.size + 1 + 1 := by simp
    rw [hsz] at HM
    refine Calls.mono (CR _ _ HM) ?_
    rintro e w3 ⟨rfl, u3⟩
    have HX : Hid (w3.heap[w2.heap.size]? = some (.cells #[.int .i64 1, .int .i64 x, .string ⟨#[]⟩, .bool false, .int .i64 0] 26 (0, 0))) := hide (u3.get (block_alloc (block_alloc (Vnew1 w2 (.cells #[.int .i64 1, .int .i64 x, .string ⟨#[]⟩, .bool false, .int .i64 0] 26)) (.cells #[.int .i64 1, .int .i64 y, .string ⟨#[]⟩, .bool false, .int .i64 0] 26)) (.cells #[.int .i64 1, .int .i64 x, .string ⟨#[]⟩, .bool false, .int .i64 0, .int .i64 1, .int .i64 y, .string ⟨#[]⟩, .bool false, .int .i64 0] 26)) id)
    have HY : Hid (w3.heap[w2.heap.size + 1]? = some (.cells #[.int .i64 1, .int .i64 y, .string ⟨#[]⟩, .bool false, .int .i64 0] 26 (0, 0))) := hide (u3.get (block_alloc (Vnew2 w2 (.cells #[.int .i64 1, .int .i64 x, .string ⟨#[]⟩, .bool false, .int .i64 0] 26) (.cells #[.int .i64 1, .int .i64 y, .string ⟨#[]⟩, .bool false, .int .i64 0] 26)) (.cells #[.int .i64 1, .int .i64 x, .string ⟨#[]⟩, .bool false, .int .i64 0, .int .i64 1, .int .i64 y, .string ⟨#[]⟩, .bool false, .int .i64 0] 26)) id)
    have HU3 := hide ((((HU2.out.alloc _).alloc _).alloc _).then u3 (fun _ _ => id))
    clear u3
    clear HM hsz
    have bX := HX.out
    obtain ⟨x0, x1, x2, x3, x4⟩ := cells5 bX
    have xl := lt_at bX
    clear bX
    have bY := HY.out
    obtain ⟨y0, y1, y2, y3, y4⟩ := cells5 bY
    have yl := lt_at bY
    clear bY
    have yl_ : w2.heap.size < w3.heap.size := by omega
    go_wp2_with fail
    with_reducible refine Calls.mono (BD _ (HG.out.upd (HU3.out.alloc _) id) (HP.out.upd (HU3.out.alloc _) id)) ?_
    rintro e w4 ⟨rfl, u4⟩
    have HX := hide (u4.get (block_alloc HX.out (.cells #[.int .i64 pk, .int .i64 pn, enS pt, .bool pb, .int .i64 pf] 26)) id)
    have HY := hide (u4.get (block_alloc HY.out (.cells #[.int .i64 pk, .int .i64 pn, enS pt, .bool pb, .int .i64 pf] 26)) id)
    have HP : Hid (w4.heap[w3.heap.size]? = some (.cells #[.int .i64 pk, .int .i64 pn, enS pt, .bool pb, .int .i64 pf] 26 (0, 0))) := hide (u4.get (Vnew1 w3 (.cells #[.int .i64 pk, .int .i64 pn, enS pt, .bool pb, .int .i64 pf] 26)) id)
    have HU4 := hide ((HU3.out.alloc _).then u4 (fun _ _ => id))
    clear u4
    clear x0 x1 x2 x3 x4 xl y0 y1 y2 y3 y4 yl
    go_wp2_with fail
    with_reducible refine Calls.mono (wakes09_any _) ?_
    rintro e w5 ⟨rfl, u5⟩
    have HX := hide (u5.get (block_alloc HX.out (.cells #[.int .i64 qk, .int .i64 qn, enS qt, .bool qb, .int .i64 qf] 26)) id)
    have HY := hide (u5.get (block_alloc HY.out (.cells #[.int .i64 qk, .int .i64 qn, enS qt, .bool qb, .int .i64 qf] 26)) id)
    have HP := hide (u5.get (block_alloc HP.out (.cells #[.int .i64 qk, .int .i64 qn, enS qt, .bool qb, .int .i64 qf] 26)) id)
    have HQ : Hid (w5.heap[w4.heap.size]? = some (.cells #[.int .i64 qk, .int .i64 qn, enS qt, .bool qb, .int .i64 qf] 26 (0, 0))) := hide (u5.get (Vnew1 w4 (.cells #[.int .i64 qk, .int .i64 qn, enS qt, .bool qb, .int .i64 qf] 26)) id)
    have HU5 := hide ((HU4.out.alloc _).then u5 (fun _ _ => id))
    clear u5
    have bP := HP.out
    obtain ⟨p0, p1, p2, p3, p4⟩ := cells5 bP
    have pl := lt_at bP
    clear bP
    have bQ := HQ.out
    obtain ⟨q0, q1, q2, q3, q4⟩ := cells5 bQ
    have ql := lt_at bQ
    clear bQ
    go_wp2_with fail
    go_ret
    exact ⟨rfl, HU5.out⟩
end Go.Proofs.YtmfngdjhkpddoaaGreatDoor
