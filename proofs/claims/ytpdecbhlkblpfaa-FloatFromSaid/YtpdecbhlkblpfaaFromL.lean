/- The law FloatFrom walked. -/
import Derived.Test.YtpdecbhlkblpfaaOver
set_option maxRecDepth 100000
namespace Go.Proofs.Ytpdecbhlkblpfaa
open Go.RowKit Go.Lat

theorem mag_zero_from (r : Nat) (h : mag r = 0) : fromR r = 0 := by
  unfold fromR
  rw [h, Nat.zero_mul, Nat.zero_add]
  have hp := twoTo_pos 1073
  have e := twoTo_succ 1073
  refine Nat.div_eq_of_lt ?_
  rw [show (1074 : Nat) = 1073 + 1 from rfl, e]
  omega

theorem from_small (r : Nat) (h : r < infR) (he : pm r = 0 ∨ pe r < -120) : fromR r = 0 := by
  rcases he with he | he
  · refine mag_zero_from r ?_
    rw [← mag_parts r h, he, Nat.zero_mul]
  · obtain ⟨p1, p2⟩ := pe_range r h
    obtain ⟨k, hk⟩ := Int.eq_ofNat_of_zero_le (show 0 ≤ -pe r by omega)
    rw [fromR_right r k h (by omega) (by omega) (by omega)]
    have hm := pm_range r
    refine Nat.div_eq_of_lt ?_
    have e1 := pow_half k (by omega)
    have e2 : 2 ^ 80 ≤ 2 ^ (k - 1) := Nat.pow_le_pow_right (by omega) (by omega)
    rw [e1]
    generalize 2 ^ (k - 1) = P at *
    omega

theorem pm_great (r : Nat) (h : 0 < pe r) : 4503599627370496 ≤ pm r := by
  unfold pe at h
  unfold pm
  split at h
  · omega
  · split at h
    · omega
    · rename_i h1 h2
      rw [if_neg h1, if_neg h2]
      omega

theorem from_great (r : Nat) (h : r < infR) (he : 70 < pe r) : 9000000000000000000 < fromR r := by
  obtain ⟨e, hE⟩ := Int.eq_ofNat_of_zero_le (show 0 ≤ pe r by omega)
  rw [fromR_left r e h hE]
  have hm := pm_great r (by omega)
  have hp : 2 ^ 10 ≤ 2 ^ e := Nat.pow_le_pow_right (by omega) (by omega)
  have := Nat.mul_le_mul (show 45035996273704960000 ≤ pm r * 10000 by omega) hp
  omega

theorem num_from (s : Bool) (X : Nat) : numV s X = fromV s X ∧ numE X = fromE X := ⟨rfl, rfl⟩

theorem two_pow_100 (k : Nat) (hk : k ≤ 200) : 2 ^ k * 1000000000000000000000000000000 < 10 ^ 100 := by
  have a1 : 2 ^ k ≤ 2 ^ 200 := Nat.pow_le_pow_right (by omega) hk
  have a2 : (2 : Nat) ^ 200 ≤ 10 ^ 68 := by
    rw [show (2 : Nat) ^ 200 = 2 ^ (10 * 20) from rfl, Nat.pow_mul, show (10 : Nat) ^ 68 = 10 ^ (4 * 17) from rfl, Nat.pow_mul]
    have b1 : (2 ^ 10) ^ 20 < (10 ^ 4) ^ 17 := by decide
    exact Nat.le_of_lt b1
  have a3 : (10 : Nat) ^ 68 * 10 ^ 30 = 10 ^ 98 := by rw [← Nat.pow_add]
  have a4 : (10 : Nat) ^ 98 < 10 ^ 100 := Nat.pow_lt_pow_right (by omega) (by omega)
  have a5 := Nat.mul_le_mul_right (10 ^ 30) (Nat.le_trans a1 a2)
  rw [a3] at a5
  have a6 : (1000000000000000000000000000000 : Nat) = 10 ^ 30 := rfl
  rw [a6]
  omega

set_option maxHeartbeats 1600000 in
theorem RefFrom_fin (w : World) (b : Nat) (hb : b < 18446744073709551616) (hr : rng b < infR) :
    Calls Try.prog 17 #[.int .u64 b] w fun e w' => e = .returned (.tuple #[.int .i64 (fromV (sgn b) (fromR (rng b))), .int .i64 (fromE (fromR (rng b)))]) ∧ Upd w w' (fun _ => False) := by
  have hC := fun w => RefClass_any w b hb
  have hP := fun w => RefParts_any w b hb
  obtain ⟨n0, n1, -⟩ := cls_sval b hr
  have hm := pm_range (rng b)
  obtain ⟨pe1, pe2⟩ := pe_range (rng b) hr
  have sm := from_small (rng b) hr
  have gr := from_great (rng b) hr
  have fl := fun e he => fromR_left (rng b) e hr he
  have fr := fun k h1 h2 he => fromR_right (rng b) k hr h1 h2 he
  have SM := hide sm
  have GR := hide gr
  have FL := hide fl
  have FR := hide fr
  have c0 : ((cls b : Int) == 0) = false := by simp; omega
  have c1 : ((cls b : Int) == 1) = false := by simp; omega
  have c6 : ((cls b : Int) == 6) = false := by simp; omega
  clear sm gr fl fr
  generalize sgn b = s at *
  obtain ⟨X, hX⟩ : ∃ X, fromR (rng b) = X := ⟨_, rfl⟩
  rw [hX] at SM GR ⊢
  simp only [hX] at FL FR
  clear hX hr
  generalize pm (rng b) = m at *
  generalize pe (rng b) = e at *
  generalize cls b = c at *
  clear n0 n1
  by_cases h1 : m = 0
  · have d1 : ((m : Int) == 0) = true := by simp; omega
    have hX0 := SM.out (.inl h1)
    have ev : fromV s X = 0 ∧ fromE X = 0 := by rw [hX0]; unfold fromV fromE; cases s <;> simp
    rw [ev.1, ev.2]
    clear h1 hX0 ev
    go_enter Try.func17, Try.ntmps17
    go_wp2_with fail
    refine Calls.mono (hC _) ?_
    rintro e w1 ⟨rfl, rfl⟩
    go_wp2_with fail
    refine Calls.mono (hP _) ?_
    rintro e w1 ⟨rfl, rfl⟩
    go_wp2_with fail
    go_ret2
    exact ⟨rfl, Upd.refl _ _⟩
  · have d1 : ((m : Int) == 0) = false := by simp; omega
    by_cases h2 : e < -120
    · have d2 : decide (e < -120) = true := by simpa using h2
      have hX0 := SM.out (.inr h2)
      have ev : fromV s X = 0 ∧ fromE X = 0 := by rw [hX0]; unfold fromV fromE; cases s <;> simp
      rw [ev.1, ev.2]
      clear h1 h2 hX0 ev
      go_enter Try.func17, Try.ntmps17
      go_wp2_with fail
      refine Calls.mono (hC _) ?_
      rintro e w1 ⟨rfl, rfl⟩
      go_wp2_with fail
      refine Calls.mono (hP _) ?_
      rintro e w1 ⟨rfl, rfl⟩
      go_wp2_with fail
      go_ret2
      exact ⟨rfl, Upd.refl _ _⟩
    · have d2 : decide (e < -120) = false := by simpa using h2
      by_cases h3 : 70 < e
      · have d3 : decide (70 < e) = true := by simpa using h3
        have hXg := GR.out h3
        have ev : fromV s X = 0 ∧ fromE X = 5 := by unfold fromV fromE; rw [if_pos hXg, if_pos hXg]; exact ⟨rfl, rfl⟩
        rw [ev.1, ev.2]
        clear h1 h2 h3 hXg ev
        go_enter Try.func17, Try.ntmps17
        go_wp2_with fail
        refine Calls.mono (hC _) ?_
        rintro e w1 ⟨rfl, rfl⟩
        go_wp2_with fail
        refine Calls.mono (hP _) ?_
        rintro e w1 ⟨rfl, rfl⟩
        go_wp2_with fail
        go_ret2
        exact ⟨rfl, Upd.refl _ _⟩
      · have d3 : decide (70 < e) = false := by simpa using h3
        obtain ⟨H, hH⟩ : ∃ H, 10 ^ 100 = H := ⟨_, rfl⟩
        have DG := fun w => digits2_any w m (by omega)
        have b0 := two_pow_100 0 (by omega)
        rw [Nat.pow_zero, hH] at b0
        have P1 := fun w v1 v2 h1 h2 => product_dg w v1 v2 m [0, 0, 0, 0, 1] h1 h2 (by unfold Norm; decide) (by rw [hH]; omega) (by decide)
        rw [show val [0, 0, 0, 0, 1] = 10000 from by decide] at P1
        obtain ⟨n, hn⟩ : ∃ n, m * 10000 = n := ⟨_, rfl⟩
        rw [hn] at P1
        simp only [hn] at FL FR
        have hnb : n < 100000000000000000000 := by omega
        by_cases h4 : 0 ≤ e
        · have d4 : decide (0 ≤ e) = true := by simpa using h4
          obtain ⟨k, rfl⟩ := Int.eq_ofNat_of_zero_le h4
          have hX := FL.out k rfl
          have hk : k ≤ 70 := by omega
          have bk := two_pow_100 k (by omega)
          rw [hH] at bk
          have PW := fun w => power2_any w k (by omega)
          have P2 := fun w v1 v2 h1 h2 => product_dg w v1 v2 n (dg (2 ^ k)) h1 h2 (dg_norm _) (by rw [hH]; omega) (dg_len _ 100 (by rw [hH]; omega))
          rw [val_dg, ← hX] at P2
          have hXH : X < H := by
            rw [hX]
            have := Nat.mul_le_mul_right (2 ^ k) (show n ≤ 1000000000000000000000000000000 by omega)
            rw [Nat.mul_comm 1000000000000000000000000000000] at this
            omega
          have NM := fun w v hv => Number_any w v X s hv (by rw [hH]; exact hXH)
          clear hX bk hXH hn h1 h2 h3 hH b0 h4
          go_enter Try.func17, Try.ntmps17
          go_wp2_with fail
          refine Calls.mono (hC _) ?_
          rintro e w1 ⟨rfl, rfl⟩
          go_wp2_with fail
          refine Calls.mono (hP _) ?_
          rintro e w1 ⟨rfl, rfl⟩
          go_wp2_with fail
          refine Calls.mono (DG _) ?_
          rintro e w2 ⟨v2, rfl, g2, u2⟩
          go_wp2_with fail
          have m1 : DgAt (w2.alloc (.cells #[.int .i64 0, .int .i64 0, .int .i64 0, .int .i64 0, .int .i64 1] 3)) (.slice (some ⟨w2.heap.size, 0, none⟩) 5 5) [0, 0, 0, 0, 1] := Rw.made w2 _ _ 1 5 rfl
          refine Calls.mono (P1 _ _ _ (g2.upd ((Upd.refl w2 _).alloc _)) m1) ?_
          rintro e w3 ⟨v3, rfl, g3, u3⟩
          go_wp2_with fail
          refine Calls.mono (PW _) ?_
          rintro e w4 ⟨v4, rfl, g4, u4⟩
          go_wp2_with fail
          refine Calls.mono (P2 _ _ _ (g3.upd u4) g4) ?_
          rintro e w5 ⟨v5, rfl, g5, u5⟩
          go_wp2_with fail
          refine Calls.mono (NM _ _ g5) ?_
          rintro e w6 ⟨rfl, u6⟩
          go_wp2_with fail
          go_ret2
          exact ⟨rfl, ((((u2.alloc _).then u3 (fun _ _ => id)).then u4 (fun _ _ => id)).then u5 (fun _ _ => id)).then u6 (fun _ _ => id)⟩
        · have d4 : decide (0 ≤ e) = false := by simpa using h4
          obtain ⟨k, hk⟩ := Int.eq_ofNat_of_zero_le (show 0 ≤ -e by omega)
          obtain rfl : e = -(k : Int) := by omega
          have hk1 : 1 ≤ k ∧ k ≤ 120 := by omega
          have hX := FR.out k (by omega) (by omega) rfl
          have bk := two_pow_100 k (by omega)
          rw [hH] at bk
          have hp := pow_half k (by omega)
          have PW := fun w => power2_any w k (by omega)
          obtain ⟨Q, hQ⟩ : ∃ Q, 2 ^ k = Q := ⟨_, rfl⟩
          obtain ⟨P, hPp⟩ : ∃ P, 2 ^ (k - 1) = P := ⟨_, rfl⟩
          have pP : 0 < P := by rw [← hPp]; exact Nat.two_pow_pos _
          simp only [hQ] at PW
          rw [hQ, hPp] at hX hp
          rw [hQ] at bk
          have T2 := fun w v1 v2 h1 h2 => product_dg w v1 v2 Q [2] h1 h2 (by unfold Norm; decide) (by rw [hH]; omega) (by decide)
          have T3 := fun w v1 v2 h1 h2 => product_dg w v1 v2 n [2] h1 h2 (by unfold Norm; decide) (by rw [hH]; omega) (by decide)
          rw [show val [2] = 2 from by decide] at T2 T3
          have l1 := dg_len (n * 2) 100 (by rw [hH]; omega)
          have l2 := dg_len Q 100 (by rw [hH]; omega)
          have l3 := dg_len (n * 2 + Q) 100 (by rw [hH]; omega)
          have l4 := dg_len (Q * 2) 100 (by rw [hH]; omega)
          have PL := fun w v1 v2 h1 h2 => plus2_any w v1 v2 (dg (n * 2)) (dg Q) h1 h2 (dg_norm _) (dg_norm _) (by omega) (by omega)
          rw [val_dg, val_dg] at PL
          have OV := fun w v1 v2 h1 h2 => Over1_any w v1 v2 (dg (n * 2 + Q)) (dg (Q * 2)) h1 h2 (dg_norm _) (dg_norm _) (by rw [val_dg]; omega) (by omega) (by omega)
          rw [val_dg, val_dg] at OV
          have eX : (n * 2 + Q) / (Q * 2) = X := by
            rw [hX, hp]
            have e3 : n * 2 + 2 * P = 2 * (n + P) := by omega
            have e4 : 2 * P * 2 = 2 * (2 * P) := by omega
            rw [e3, e4, Nat.mul_div_mul_left _ _ (by omega)]
          rw [eX] at OV
          have hXn : X ≤ n + P := by rw [hX]; exact Nat.div_le_self _ _
          have NM := fun w v hv => Number_any w v X s hv (by rw [hH]; omega)
          clear hX bk hn h1 h2 h3 hH b0 h4 eX hXn hp hQ hPp hk l1 l2 l3 l4
          go_enter Try.func17, Try.ntmps17
          go_wp2_with fail
          refine Calls.mono (hC _) ?_
          rintro e w1 ⟨rfl, rfl⟩
          go_wp2_with fail
          refine Calls.mono (hP _) ?_
          rintro e w1 ⟨rfl, rfl⟩
          go_wp2_with fail
          refine Calls.mono (DG _) ?_
          rintro e w2 ⟨v2, rfl, g2, u2⟩
          go_wp2_with fail
          have m1 : DgAt (w2.alloc (.cells #[.int .i64 0, .int .i64 0, .int .i64 0, .int .i64 0, .int .i64 1] 3)) (.slice (some ⟨w2.heap.size, 0, none⟩) 5 5) [0, 0, 0, 0, 1] := Rw.made w2 _ _ 1 5 rfl
          refine Calls.mono (P1 _ _ _ (g2.upd ((Upd.refl w2 _).alloc _)) m1) ?_
          rintro e w3 ⟨v3, rfl, g3, u3⟩
          go_wp2_with fail
          refine Calls.mono (PW _) ?_
          rintro e w4 ⟨v4, rfl, g4, u4⟩
          go_wp2_with fail
          have m2 : DgAt (w4.alloc (.cells #[.int .i64 2] 3)) (.slice (some ⟨w4.heap.size, 0, none⟩) 1 1) [2] := Rw.made w4 _ _ 1 1 rfl
          have g4a := g4.upd ((Upd.refl w4 (fun _ => False)).alloc (.cells #[.int .i64 2] 3))
          refine Calls.mono (T2 _ _ _ g4a m2) ?_
          rintro e w5 ⟨v5, rfl, g5, u5⟩
          have u45 := ((Upd.refl w4 (fun _ => False)).alloc (.cells #[.int .i64 2] 3)).then u5 (fun _ _ => id)
          have g45 := g4.upd u45
          have g35 := (g3.upd u4).upd u45
          go_wp2_with fail
          have m3 : DgAt (w5.alloc (.cells #[.int .i64 2] 3)) (.slice (some ⟨w5.heap.size, 0, none⟩) 1 1) [2] := Rw.made w5 _ _ 1 1 rfl
          refine Calls.mono (T3 _ _ _ (g35.upd ((Upd.refl w5 (fun _ => False)).alloc (.cells #[.int .i64 2] 3))) m3) ?_
          rintro e w6 ⟨v6, rfl, g6, u6⟩
          have u56 := ((Upd.refl w5 (fun _ => False)).alloc (.cells #[.int .i64 2] 3)).then u6 (fun _ _ => id)
          go_wp2_with fail
          refine Calls.mono (PL _ _ _ g6 (g45.upd u56)) ?_
          rintro e w7 ⟨v7, rfl, g7, u7⟩
          go_wp2_with fail
          refine Calls.mono (OV _ _ _ g7 ((g5.upd u56).upd u7)) ?_
          rintro e w8 ⟨x8, y8, rfl, g8, -, u8⟩
          go_wp2_with fail
          refine Calls.mono (NM _ _ g8) ?_
          rintro e w9 ⟨rfl, u9⟩
          go_wp2_with fail
          go_ret2
          exact ⟨rfl, (((((((u2.alloc _).then u3 (fun _ _ => id)).then u4 (fun _ _ => id)).then u45 (fun _ _ => id)).then u56 (fun _ _ => id)).then u7 (fun _ _ => id)).then u8 (fun _ _ => id)).then u9 (fun _ _ => id)⟩

theorem RefFrom_any (w : World) (b : Nat) (hb : b < 18446744073709551616) :
    Calls Try.prog 17 #[.int .u64 b] w fun e w' => e = .returned (.tuple #[.int .i64 (fromVal b), .int .i64 (fromErr b)]) ∧ Upd w w' (fun _ => False) := by
  unfold fromVal fromErr
  have hC := fun w => RefClass_any w b hb
  rcases Nat.lt_trichotomy (rng b) infR with h | h | h
  · rw [if_pos h, if_neg (by omega), if_neg (by omega)]
    exact RefFrom_fin w b hb h
  · rw [if_neg (by omega), if_neg (by omega), if_pos h]
    have hc : cls b = 1 ∨ cls b = 6 := by
      unfold cls
      rw [if_neg (by omega), h]
      cases sgn b <;> simp
    clear h
    rcases hc with hc | hc <;> rw [hc] at hC
    · go_enter Try.func17, Try.ntmps17
      go_wp2_with fail
      refine Calls.mono (hC _) ?_
      rintro e w1 ⟨rfl, rfl⟩
      go_wp2_with fail
      go_ret2
      exact ⟨rfl, Upd.refl _ _⟩
    · go_enter Try.func17, Try.ntmps17
      go_wp2_with fail
      refine Calls.mono (hC _) ?_
      rintro e w1 ⟨rfl, rfl⟩
      go_wp2_with fail
      go_ret2
      exact ⟨rfl, Upd.refl _ _⟩
  · rw [if_neg (by omega), if_pos h]
    have hc : cls b = 0 := by unfold cls; rw [if_pos h]
    clear h
    rw [hc] at hC
    go_enter Try.func17, Try.ntmps17
    go_wp2_with fail
    refine Calls.mono (hC _) ?_
    rintro e w1 ⟨rfl, rfl⟩
    go_wp2_with fail
    go_ret2
    exact ⟨rfl, Upd.refl _ _⟩

theorem FloatFrom_any (w : World) (b : Nat) (hb : b < 18446744073709551616) : Calls Try.prog 4 #[.int .u64 b] w fun e w' => e = .returned (.bool true) ∧ Upd w w' (fun _ => False) := by
  have f1 := frombits64 b
  have F := fun w => From_any w b hb
  have R := fun w => RefFrom_any w b hb
  generalize fromVal b = v at *
  generalize fromErr b = x at *
  go_enter Try.func4, Try.ntmps4
  go_wp2_with fail
  refine Calls.mono (F _) ?_
  rintro e w1 ⟨rfl, u1⟩
  go_wp2_with fail
  refine Calls.mono (R _) ?_
  rintro e w2 ⟨rfl, u2⟩
  go_wp2_with fail
  refine Calls.mono (wakes_any _) ?_
  rintro e w3 ⟨rfl, u3⟩
  go_wp2_with fail
  go_ret
  exact ⟨by simp, (u1.then u2 (fun _ _ => id)).then u3 (fun _ _ => id)⟩
end Go.Proofs.Ytpdecbhlkblpfaa
