/- The walk of float.From: what number a float64 is nearest to. -/
import Derived.Test.YtpdecbhlkblpfaaShift
import Derived.Test.YtpdecbhlkblpfaaDbl
set_option maxRecDepth 100000
namespace Go.Proofs.Ytpdecbhlkblpfaa
open Go.RowKit Go.Lat

theorem left_any (w : World) (n k : Nat) (hn : n < 340282366920938463463374607431768211456) (hk : k ≤ 2000) : Calls Try.prog 31 #[dbl n, .int .i64 k] w fun e w' => ∃ v : Nat, e = .returned (.tuple #[.int .u64 v, .bool (decide (n * 2 ^ k < 18446744073709551616))]) ∧ (n * 2 ^ k < 18446744073709551616 → v = n * 2 ^ k) ∧ Upd w w' (fun _ => False) := by
  unfold dbl
  by_cases h0 : n = 0
  · subst h0
    refine Calls.mono (left_zero w k) ?_
    rintro e w' ⟨rfl, hu⟩
    exact ⟨0, by simp, by simp, hu⟩
  · by_cases hh : n / 18446744073709551616 = 0
    · rw [hh, Nat.mod_eq_of_lt (by omega)]
      refine Calls.mono (left_low w n k (by omega) (by omega) hk) ?_
      rintro e w' ⟨rfl, hu⟩
      exact ⟨_, rfl, fun h => by rw [if_pos h], hu⟩
    · refine Calls.mono (left_high w _ _ k (by omega)) ?_
      rintro e w' ⟨rfl, hu⟩
      have hb : ¬ n * 2 ^ k < 18446744073709551616 := by
        have h1 := Nat.mul_le_mul_left n (Nat.one_le_two_pow (n := k))
        omega
      exact ⟨0, by rw [decide_eq_false hb]; rfl, fun h => absurd h hb, hu⟩

theorem right_all (w : World) (n k : Nat) (hn : n < 340282366920938463463374607431768211456) (hk : 1 ≤ k) (hk2 : k ≤ 2000) :
    Calls Try.prog 32 #[dbl n, .int .i64 k] w fun e w' => ∃ v : Nat, e = .returned (.tuple #[.int .u64 v, .bool (decide ((n + 2 ^ (k - 1)) / 2 ^ k < 18446744073709551616))]) ∧ ((n + 2 ^ (k - 1)) / 2 ^ k < 18446744073709551616 → v = (n + 2 ^ (k - 1)) / 2 ^ k) ∧ Upd w w' (fun _ => False) := by
  unfold dbl
  exact right_any w _ _ k _ (by omega) (by omega) hk hk2 (by rw [Nat.div_add_mod'])

theorem mag_parts (r : Nat) (h : r < infR) : pm r * 2 ^ (pe r + 1074).toNat = mag r := by
  unfold infR at h
  unfold pm pe mag
  have h1 : ¬ r / 4503599627370496 = 2047 := by omega
  rw [if_neg h1, if_neg h1]
  by_cases h2 : r / 4503599627370496 = 0
  · rw [if_pos h2, if_pos h2, if_pos (by omega)]
    simp
    omega
  · rw [if_neg h2, if_neg h2, if_neg (by omega)]
    rw [show (((r / 4503599627370496 : Nat) : Int) - 1075 + 1074).toNat = r / 4503599627370496 - 1 from by omega, Nat.add_comm]

/-- A power of 2 that nothing reckons out. -/
def twoTo (n : Nat) : Nat := 2 ^ n
theorem twoTo_add (a b : Nat) : twoTo (a + b) = twoTo a * twoTo b := Nat.pow_add ..
theorem twoTo_succ (a : Nat) : twoTo (a + 1) = 2 * twoTo a := Nat.pow_succ'
theorem twoTo_pos (a : Nat) : 0 < twoTo a := Nat.two_pow_pos a
theorem twoTo_eq (a : Nat) : 2 ^ a = twoTo a := rfl

theorem gen_left (m e E : Nat) : (m * twoTo (e + (E + 1)) * 10000 + twoTo E) / twoTo (E + 1) = m * 10000 * twoTo e := by
  have hp := twoTo_pos E
  rw [twoTo_add, twoTo_succ]
  generalize twoTo E = T at hp ⊢
  generalize twoTo e = K
  have e3 : m * (K * (2 * T)) * 10000 + T = (2 * T) * (m * 10000 * K) + T := by
    congr 1
    rw [← Nat.mul_assoc, Nat.mul_comm _ (2 * T), Nat.mul_assoc]
    congr 1
    rw [Nat.mul_assoc, Nat.mul_comm K, ← Nat.mul_assoc]
  rw [e3, Nat.mul_add_div (by omega), Nat.div_eq_of_lt (by omega), Nat.add_zero]

theorem gen_right (m k E : Nat) (hk : 1 ≤ k) (hk2 : k ≤ E + 1) : (m * twoTo (E + 1 - k) * 10000 + twoTo E) / twoTo (E + 1) = (m * 10000 + twoTo (k - 1)) / twoTo k := by
  have e1 : twoTo (E + 1) = twoTo (E + 1 - k) * twoTo k := by rw [← twoTo_add]; congr 1; omega
  have e2 : twoTo E = twoTo (E + 1 - k) * twoTo (k - 1) := by rw [← twoTo_add]; congr 1; omega
  rw [e1, e2]
  have hp := twoTo_pos (E + 1 - k)
  generalize twoTo (E + 1 - k) = T at hp ⊢
  rw [← Nat.mul_div_mul_left (m * 10000 + twoTo (k - 1)) (twoTo k) hp]
  congr 1
  rw [Nat.mul_add, Nat.mul_comm m T, Nat.mul_assoc]

/-- How many parts (ten thousandths) a float's number is nearest to, its sign left off. -/
def fromR (r : Nat) : Nat := (mag r * 10000 + twoTo 1073) / twoTo 1074

theorem fromR_left (r e : Nat) (h : r < infR) (he : pe r = (e : Nat)) : fromR r = pm r * 10000 * 2 ^ e := by
  unfold fromR
  rw [← mag_parts r h, he, show ((e : Int) + 1074).toNat = e + (1073 + 1) from by omega, twoTo_eq, twoTo_eq]
  exact gen_left (pm r) e 1073

theorem fromR_right (r k : Nat) (h : r < infR) (hk : 1 ≤ k) (hk2 : k ≤ 1074) (he : pe r = -(k : Int)) : fromR r = (pm r * 10000 + 2 ^ (k - 1)) / 2 ^ k := by
  unfold fromR
  rw [← mag_parts r h, he, show (-(k : Int) + 1074).toNat = 1073 + 1 - k from by omega, twoTo_eq, twoTo_eq, twoTo_eq]
  exact gen_right (pm r) k 1073 hk hk2

theorem pe_range (r : Nat) (h : r < infR) : -1074 ≤ pe r ∧ pe r ≤ 971 := by
  unfold infR at h
  unfold pe
  have h1 : ¬ r / 4503599627370496 = 2047 := by omega
  rw [if_neg h1]
  split <;> omega
theorem pm_range (r : Nat) : pm r < 9007199254740992 := by
  unfold pm
  split
  · omega
  · split <;> omega

/-- What From answers to a float that is a number. -/
def fromV (s : Bool) (X : Nat) : Int := if 9000000000000000000 < X then 0 else if s then -(X : Int) else X
def fromE (X : Nat) : Int := if 9000000000000000000 < X then 5 else 0

set_option maxHeartbeats 1600000 in
theorem From_fin (w : World) (b : Nat) (hb : b < 18446744073709551616) (hr : rng b < infR) : Calls Try.prog 16 #[.float .f64 b] w fun e w' => e = .returned (.tuple #[.int .i64 (fromV (sgn b) (fromR (rng b))), .int .i64 (fromE (fromR (rng b)))]) ∧ Upd w w' (fun _ => False) := by
  have hO := fun w => Of_any w b hb
  have hP := fun w => Parts_any w b hb
  have hc : cls b ≠ 0 ∧ cls b ≠ 1 ∧ cls b ≠ 6 := by
    unfold cls
    rw [if_neg (by omega)]
    split <;> rw [if_neg (by omega)] <;> split <;> simp
  obtain ⟨c1, c2, c3⟩ := hc
  have hm := pm_range (rng b)
  obtain ⟨he1, he2⟩ := pe_range (rng b) hr
  have hL := fun (e : Nat) he => fromR_left (rng b) e hr he
  have hR := fun (k : Nat) h1 h2 he => fromR_right (rng b) k hr h1 h2 he
  have HL := hide hL
  have HR := hide hR
  clear hL hR hr
  generalize cls b = c at hO c1 c2 c3
  generalize sgn b = s at hP ⊢
  obtain ⟨X, hX⟩ : ∃ X, fromR (rng b) = X := ⟨_, rfl⟩
  rw [hX]
  have HX := hide hX
  clear hX
  generalize hM : pm (rng b) = M at hP hm
  have HM := hide hM
  clear hM
  generalize hE : pe (rng b) = E at hP he1 he2
  have HE := hide hE
  clear hE
  have d1 : ((c : Int) == 0) = false := by simp; omega
  have d2 : ((c : Int) == 1) = false := by simp; omega
  have d3 : ((c : Int) == 6) = false := by simp; omega
  have hM2 : M * 10000 < 340282366920938463463374607431768211456 := by omega
  go_enter Try.func16, Try.ntmps16
  go_wp2_with fail
  refine Calls.mono (hO _) ?_
  rintro e w1 ⟨rfl, hw⟩
  replace hw := hw.symm
  subst hw
  go_wp2_with fail
  refine Calls.mono (hP _) ?_
  rintro e w1 ⟨rfl, hw⟩
  replace hw := hw.symm
  subst hw
  clear hO hP d1 d2 d3 c1 c2 c3
  go_wp2_with fail
  refine Calls.mono (product_any _ M 10000 (by omega) (by omega)) ?_
  rintro e w1 ⟨rfl, hu1⟩
  by_cases hE0 : 0 ≤ E
  · obtain ⟨k, rfl⟩ := Int.eq_ofNat_of_zero_le hE0
    have eX : M * 10000 * 2 ^ k = X := by rw [← HX.out, ← HM.out]; exact (HL.out k HE.out).symm
    have d1 : decide ((0 : Int) ≤ (k : Int)) = true := by simp
    have hS := fun w => left_any w (M * 10000) k hM2 (by omega)
    rw [eX] at hS
    clear eX
    generalize M * 10000 = n at hS ⊢
    unfold dbl at hS ⊢
    generalize n / 18446744073709551616 = h1 at hS ⊢
    generalize n % 18446744073709551616 = l1 at hS ⊢
    go_wp2_with fail
    refine Calls.mono (hS _) ?_
    rintro e w2 ⟨v, rfl, hv, hu2⟩
    clear hS
    have uz := (hu1.alloc (.cells #[.int .u64 h1, .int .u64 l1] 57)).then hu2 (fun _ _ => id)
    by_cases hX64 : X < 18446744073709551616
    · rw [hv hX64, decide_eq_true hX64]
      clear hv
      by_cases hbig : 9000000000000000000 < X
      · have d2 : decide ((9000000000000000000 : Int) < (X : Int)) = true := by simp; omega
        go_wp2_with fail
        go_ret2
        exact ⟨by unfold fromV fromE; rw [if_pos hbig, if_pos hbig]; rfl, uz⟩
      · have d2 : decide ((9000000000000000000 : Int) < (X : Int)) = false := by simp; omega
        cases s with
        | true =>
          go_wp2_with fail
          go_ret2
          exact ⟨by unfold fromV fromE; rw [if_neg hbig, if_neg hbig]; simp, uz⟩
        | false =>
          go_wp2_with fail
          go_ret2
          exact ⟨by unfold fromV fromE; rw [if_neg hbig, if_neg hbig]; simp, uz⟩
    · rw [decide_eq_false hX64]
      clear hv
      have hbig : 9000000000000000000 < X := by omega
      go_wp2_with fail
      go_ret2
      exact ⟨by unfold fromV fromE; rw [if_pos hbig, if_pos hbig]; rfl, uz⟩
  · obtain ⟨k, hk⟩ := Int.eq_ofNat_of_zero_le (show 0 ≤ -E by omega)
    obtain rfl : E = -(k : Int) := by omega
    have eX : (M * 10000 + 2 ^ (k - 1)) / 2 ^ k = X := by rw [← HX.out, ← HM.out]; exact (HR.out k (by omega) (by omega) HE.out).symm
    have d1 : decide ((0 : Int) ≤ -(k : Int)) = false := by simp; omega
    have d4 : ¬ (k : Int) ≤ 0 := by omega
    have hS := fun w => right_all w (M * 10000) k hM2 (by omega) (by omega)
    rw [eX] at hS
    clear eX hk
    generalize M * 10000 = n at hS ⊢
    unfold dbl at hS ⊢
    generalize n / 18446744073709551616 = h1 at hS ⊢
    generalize n % 18446744073709551616 = l1 at hS ⊢
    go_wp2_with fail
    refine Calls.mono (hS _) ?_
    rintro e w2 ⟨v, rfl, hv, hu2⟩
    clear hS
    have uz := (hu1.alloc (.cells #[.int .u64 h1, .int .u64 l1] 57)).then hu2 (fun _ _ => id)
    by_cases hX64 : X < 18446744073709551616
    · rw [hv hX64, decide_eq_true hX64]
      clear hv
      by_cases hbig : 9000000000000000000 < X
      · have d2 : decide ((9000000000000000000 : Int) < (X : Int)) = true := by simp; omega
        go_wp2_with fail
        go_ret2
        exact ⟨by unfold fromV fromE; rw [if_pos hbig, if_pos hbig]; rfl, uz⟩
      · have d2 : decide ((9000000000000000000 : Int) < (X : Int)) = false := by simp; omega
        cases s with
        | true =>
          go_wp2_with fail
          go_ret2
          exact ⟨by unfold fromV fromE; rw [if_neg hbig, if_neg hbig]; simp, uz⟩
        | false =>
          go_wp2_with fail
          go_ret2
          exact ⟨by unfold fromV fromE; rw [if_neg hbig, if_neg hbig]; simp, uz⟩
    · rw [decide_eq_false hX64]
      clear hv
      have hbig : 9000000000000000000 < X := by omega
      go_wp2_with fail
      go_ret2
      exact ⟨by unfold fromV fromE; rw [if_pos hbig, if_pos hbig]; rfl, uz⟩

theorem From_nan (w : World) (b : Nat) (hb : b < 18446744073709551616) (hr : infR < rng b) : Calls Try.prog 16 #[.float .f64 b] w fun e w' => e = .returned (.tuple #[.int .i64 0, .int .i64 4]) ∧ w' = w := by
  have hO := fun w => Of_any w b hb
  have hc : cls b = 0 := by unfold cls; rw [if_pos hr]
  rw [hc] at hO
  go_enter Try.func16, Try.ntmps16
  go_wp2_with fail
  refine Calls.mono (hO _) ?_
  rintro e w1 ⟨rfl, rfl⟩
  go_wp2_with fail
  go_ret2
  exact ⟨rfl, rfl⟩
theorem From_inf (w : World) (b : Nat) (hb : b < 18446744073709551616) (hr : rng b = infR) : Calls Try.prog 16 #[.float .f64 b] w fun e w' => e = .returned (.tuple #[.int .i64 0, .int .i64 5]) ∧ w' = w := by
  have hO := fun w => Of_any w b hb
  have hc : cls b = 1 ∨ cls b = 6 := by
    unfold cls
    rw [if_neg (by omega), hr]
    cases sgn b <;> simp
  rcases hc with hc | hc <;> rw [hc] at hO
  · go_enter Try.func16, Try.ntmps16
    go_wp2_with fail
    refine Calls.mono (hO _) ?_
    rintro e w1 ⟨rfl, rfl⟩
    go_wp2_with fail
    go_ret2
    exact ⟨rfl, rfl⟩
  · go_enter Try.func16, Try.ntmps16
    go_wp2_with fail
    refine Calls.mono (hO _) ?_
    rintro e w1 ⟨rfl, rfl⟩
    go_wp2_with fail
    go_ret2
    exact ⟨rfl, rfl⟩
end Go.Proofs.Ytpdecbhlkblpfaa
