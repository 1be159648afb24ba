/- The walks of the reference's class, parts and order. -/
import Derived.Test.YtpdecbhlkblpfaaOrd
set_option maxRecDepth 100000
namespace Go.Proofs.Ytpdecbhlkblpfaa
open Go.RowKit Go.Lat

theorem RefClass_any (w : World) (b : Nat) (hb : b < 18446744073709551616) : Calls Try.prog 15 #[.int .u64 b] w fun e w' => e = .returned (.int .i64 (cls b)) ∧ w' = w := by
  obtain ⟨S, hS⟩ : ∃ S, b / 9223372036854775808 = S := ⟨_, rfl⟩
  obtain ⟨R, hR⟩ : ∃ R, rng b = R := ⟨_, rfl⟩
  have e1 : (b : Int) / 9223372036854775808 = (S : Int) := by omega
  have e2 : (b : Int) % 9223372036854775808 = (R : Int) := by unfold rng at hR; omega
  have hs : sgn b = (S == 1) := by
    unfold sgn
    rw [hS, Bool.eq_iff_iff]
    simp
    omega
  have hS2 : S = 0 ∨ S = 1 := by omega
  have hc : cls b = if infR < R then 0 else if (S == 1) then (if R = infR then 1 else if R = 0 then 3 else 2) else (if R = infR then 6 else if R = 0 then 4 else 5) := by
    unfold cls
    rw [hR, hs]
  rw [hc]
  clear hc hs hS hR
  unfold infR
  by_cases h1 : 9218868437227405312 < R
  · have d1 : decide ((9218868437227405312 : Int) < (R : Int)) = true := by simp; omega
    rw [if_pos h1]
    clear h1 hS2
    go_enter Try.func15, Try.ntmps15
    go_wp2_with fail
    go_ret
    exact ⟨rfl, rfl⟩
  · have d1 : decide ((9218868437227405312 : Int) < (R : Int)) = false := by simp; omega
    rw [if_neg h1]
    clear h1
    by_cases h2 : R = 9218868437227405312
    · have d2 : ((R : Int) == 9218868437227405312) = true := by simp; omega
      have d3 : ((R : Int) == 0) = false := by simp; omega
      rw [if_pos h2, if_pos h2]
      clear h2
      rcases hS2 with rfl | rfl
      · go_enter Try.func15, Try.ntmps15
        go_wp2_with fail
        go_ret
        exact ⟨rfl, rfl⟩
      · go_enter Try.func15, Try.ntmps15
        go_wp2_with fail
        go_ret
        exact ⟨rfl, rfl⟩
    · have d2 : ((R : Int) == 9218868437227405312) = false := by simp; omega
      rw [if_neg h2, if_neg h2]
      clear h2
      by_cases h3 : R = 0
      · have d3 : ((R : Int) == 0) = true := by simp; omega
        rw [if_pos h3, if_pos h3]
        clear h3
        rcases hS2 with rfl | rfl
        · go_enter Try.func15, Try.ntmps15
          go_wp2_with fail
          go_ret
          exact ⟨rfl, rfl⟩
        · go_enter Try.func15, Try.ntmps15
          go_wp2_with fail
          go_ret
          exact ⟨rfl, rfl⟩
      · have d3 : ((R : Int) == 0) = false := by simp; omega
        rw [if_neg h3, if_neg h3]
        clear h3
        rcases hS2 with rfl | rfl
        · go_enter Try.func15, Try.ntmps15
          go_wp2_with fail
          go_ret
          exact ⟨rfl, rfl⟩
        · go_enter Try.func15, Try.ntmps15
          go_wp2_with fail
          go_ret
          exact ⟨rfl, rfl⟩

theorem RefParts_any (w : World) (b : Nat) (hb : b < 18446744073709551616) : Calls Try.prog 12 #[.int .u64 b] w fun e w' => e = .returned (.tuple #[.bool (sgn b), .int .u64 (pm (rng b) : Nat), .int .i64 (pe (rng b))]) ∧ w' = w := by
  obtain ⟨R, hR⟩ : ∃ R, rng b = R := ⟨_, rfl⟩
  obtain ⟨E, hE⟩ : ∃ E, R / 4503599627370496 = E := ⟨_, rfl⟩
  obtain ⟨M, hM⟩ : ∃ M, R % 4503599627370496 = M := ⟨_, rfl⟩
  have lE : E < 2048 := by unfold rng at hR; omega
  have lM : M < 4503599627370496 := by omega
  have e2 : (b : Int) % 9223372036854775808 = (R : Int) := by unfold rng at hR; omega
  have e3 : (R : Int) / 4503599627370496 = (E : Int) := by omega
  have e5 : (R : Int) % 4503599627370496 = (M : Int) := by omega
  have e4 : ((b : Int) / 9223372036854775808 == 1) = sgn b := by
    unfold sgn
    rw [Bool.eq_iff_iff]
    simp
    omega
  rw [hR]
  unfold pm pe
  rw [hE, hM]
  clear hE hM hR
  by_cases h1 : E = 2047
  · have d1 : ((E : Int) == 2047) = true := by simp; omega
    rw [if_pos h1, if_pos h1]
    clear h1
    go_enter Try.func12, Try.ntmps12
    go_wp2_with fail
    go_ret3
    exact ⟨rfl, rfl⟩
  · have d1 : ((E : Int) == 2047) = false := by simp; omega
    rw [if_neg h1, if_neg h1]
    clear h1
    by_cases h2 : E = 0
    · have d2 : ((E : Int) == 0) = true := by simp; omega
      rw [if_pos h2, if_pos h2]
      clear h2
      go_enter Try.func12, Try.ntmps12
      go_wp2_with fail
      go_ret3
      exact ⟨by rw [← e5]; rfl, rfl⟩
    · have d2 : ((E : Int) == 0) = false := by simp; omega
      rw [if_neg h2, if_neg h2]
      clear h2
      go_enter Try.func12, Try.ntmps12
      go_wp2_with fail
      go_ret3
      exact ⟨by simp, rfl⟩

def seven (x : Nat) : Nat := if x = 0 then 7 else x
def refV (x y b c : Nat) : Int := if seven x < seven y then -1 else if seven y < seven x then 1 else if b = c ∨ seven x = 7 then 0 else if (b < c ↔ seven x = 5) then -1 else 1

theorem RefOrder_gen (w : World) (b c x y : Nat) (hx6 : x ≤ 6) (hy6 : y ≤ 6) (h1 : ∀ w, Calls Try.prog 15 #[.int .u64 b] w fun e w' => e = .returned (.int .i64 x) ∧ w' = w)
    (h2 : ∀ w, Calls Try.prog 15 #[.int .u64 c] w fun e w' => e = .returned (.int .i64 y) ∧ w' = w) :
    Calls Try.prog 25 #[.int .u64 b, .int .u64 c] w fun e w' => e = .returned (.int .i64 (refV x y b c)) ∧ w' = w := by
  by_cases hx : x = 0
  · by_cases hy : y = 0
    · have d0 : ((x : Int) == 0) = true := by simp; omega
      have d1 : ((y : Int) == 0) = true := by simp; omega
      rw [show refV x y b c = 0 from by unfold refV seven; (repeat' split) <;> omega]
      clear hx hy hx6 hy6
      go_enter Try.func25, Try.ntmps25
      go_wp2_with fail
      refine Calls.mono (h1 _) ?_
      rintro e w1 ⟨rfl, rfl⟩
      go_wp2_with fail
      refine Calls.mono (h2 _) ?_
      rintro e w1 ⟨rfl, rfl⟩
      go_wp2_with fail
      all_goals go_ret
      all_goals exact ⟨rfl, rfl⟩
    · have d0 : ((x : Int) == 0) = true := by simp; omega
      have d1 : ((y : Int) == 0) = false := by simp; omega
      have d2 : decide ((7 : Int) < (y : Int)) = false := by simp; omega
      have d3 : decide ((y : Int) < 7) = true := by simp; omega
      rw [show refV x y b c = 1 from by unfold refV seven; (repeat' split) <;> omega]
      clear hx hy hx6 hy6
      go_enter Try.func25, Try.ntmps25
      go_wp2_with fail
      refine Calls.mono (h1 _) ?_
      rintro e w1 ⟨rfl, rfl⟩
      go_wp2_with fail
      refine Calls.mono (h2 _) ?_
      rintro e w1 ⟨rfl, rfl⟩
      go_wp2_with fail
      go_ret
      exact ⟨rfl, rfl⟩
  · by_cases hy : y = 0
    · have d0 : ((x : Int) == 0) = false := by simp; omega
      have d1 : ((y : Int) == 0) = true := by simp; omega
      have d2 : decide ((x : Int) < 7) = true := by simp; omega
      rw [show refV x y b c = -1 from by unfold refV seven; (repeat' split) <;> omega]
      clear hx hy hx6 hy6
      go_enter Try.func25, Try.ntmps25
      go_wp2_with fail
      refine Calls.mono (h1 _) ?_
      rintro e w1 ⟨rfl, rfl⟩
      go_wp2_with fail
      refine Calls.mono (h2 _) ?_
      rintro e w1 ⟨rfl, rfl⟩
      go_wp2_with fail
      go_ret
      exact ⟨rfl, rfl⟩
    · rcases Nat.lt_trichotomy x y with h | h | h
      · have d0 : ((x : Int) == 0) = false := by simp; omega
        have d1 : ((y : Int) == 0) = false := by simp; omega
        have d2 : decide (x < y) = true := by simp; omega
        rw [show refV x y b c = -1 from by unfold refV seven; (repeat' split) <;> omega]
        clear hx hy hx6 hy6 h
        go_enter Try.func25, Try.ntmps25
        go_wp2_with fail
        refine Calls.mono (h1 _) ?_
        rintro e w1 ⟨rfl, rfl⟩
        go_wp2_with fail
        refine Calls.mono (h2 _) ?_
        rintro e w1 ⟨rfl, rfl⟩
        go_wp2_with fail
        go_ret
        exact ⟨rfl, rfl⟩
      · by_cases hbc : b = c
        · have d0 : ((x : Int) == 0) = false := by simp; omega
          have d1 : ((y : Int) == 0) = false := by simp; omega
          have d2 : decide (x < y) = false := by simp; omega
          have d3 : decide (y < x) = false := by simp; omega
          have d4 : ((b : Int) == (c : Int)) = true := by simp; omega
          rw [show refV x y b c = 0 from by unfold refV seven; (repeat' split) <;> omega]
          clear hx hy hx6 hy6 h hbc
          go_enter Try.func25, Try.ntmps25
          go_wp2_with fail
          refine Calls.mono (h1 _) ?_
          rintro e w1 ⟨rfl, rfl⟩
          go_wp2_with fail
          refine Calls.mono (h2 _) ?_
          rintro e w1 ⟨rfl, rfl⟩
          go_wp2_with fail
          go_ret
          exact ⟨rfl, rfl⟩
        · by_cases h5 : x = 5
          · by_cases hlt : b < c
            · have d0 : ((x : Int) == 0) = false := by simp; omega
              have d1 : ((y : Int) == 0) = false := by simp; omega
              have d2 : decide (x < y) = false := by simp; omega
              have d3 : decide (y < x) = false := by simp; omega
              have d4 : ((b : Int) == (c : Int)) = false := by simp; omega
              have d5 : ((x : Int) == 7) = false := by simp; omega
              have d6 : ((x : Int) == 5) = true := by simp; omega
              have d7 : decide (b < c) = true := by simp; omega
              rw [show refV x y b c = -1 from by unfold refV seven; (repeat' split) <;> omega]
              clear hx hy hx6 hy6 h hbc h5 hlt
              go_enter Try.func25, Try.ntmps25
              go_wp2_with fail
              refine Calls.mono (h1 _) ?_
              rintro e w1 ⟨rfl, rfl⟩
              go_wp2_with fail
              refine Calls.mono (h2 _) ?_
              rintro e w1 ⟨rfl, rfl⟩
              go_wp2_with fail
              go_ret
              exact ⟨rfl, rfl⟩
            · have d0 : ((x : Int) == 0) = false := by simp; omega
              have d1 : ((y : Int) == 0) = false := by simp; omega
              have d2 : decide (x < y) = false := by simp; omega
              have d3 : decide (y < x) = false := by simp; omega
              have d4 : ((b : Int) == (c : Int)) = false := by simp; omega
              have d5 : ((x : Int) == 7) = false := by simp; omega
              have d6 : ((x : Int) == 5) = true := by simp; omega
              have d7 : decide (b < c) = false := by simp; omega
              rw [show refV x y b c = 1 from by unfold refV seven; (repeat' split) <;> omega]
              clear hx hy hx6 hy6 h hbc h5 hlt
              go_enter Try.func25, Try.ntmps25
              go_wp2_with fail
              refine Calls.mono (h1 _) ?_
              rintro e w1 ⟨rfl, rfl⟩
              go_wp2_with fail
              refine Calls.mono (h2 _) ?_
              rintro e w1 ⟨rfl, rfl⟩
              go_wp2_with fail
              go_ret
              exact ⟨rfl, rfl⟩
          · by_cases hlt : b < c
            · have d0 : ((x : Int) == 0) = false := by simp; omega
              have d1 : ((y : Int) == 0) = false := by simp; omega
              have d2 : decide (x < y) = false := by simp; omega
              have d3 : decide (y < x) = false := by simp; omega
              have d4 : ((b : Int) == (c : Int)) = false := by simp; omega
              have d5 : ((x : Int) == 7) = false := by simp; omega
              have d6 : ((x : Int) == 5) = false := by simp; omega
              have d7 : decide (b < c) = true := by simp; omega
              rw [show refV x y b c = 1 from by unfold refV seven; (repeat' split) <;> omega]
              clear hx hy hx6 hy6 h hbc h5 hlt
              go_enter Try.func25, Try.ntmps25
              go_wp2_with fail
              refine Calls.mono (h1 _) ?_
              rintro e w1 ⟨rfl, rfl⟩
              go_wp2_with fail
              refine Calls.mono (h2 _) ?_
              rintro e w1 ⟨rfl, rfl⟩
              go_wp2_with fail
              go_ret
              exact ⟨rfl, rfl⟩
            · have d0 : ((x : Int) == 0) = false := by simp; omega
              have d1 : ((y : Int) == 0) = false := by simp; omega
              have d2 : decide (x < y) = false := by simp; omega
              have d3 : decide (y < x) = false := by simp; omega
              have d4 : ((b : Int) == (c : Int)) = false := by simp; omega
              have d5 : ((x : Int) == 7) = false := by simp; omega
              have d6 : ((x : Int) == 5) = false := by simp; omega
              have d7 : decide (b < c) = false := by simp; omega
              rw [show refV x y b c = -1 from by unfold refV seven; (repeat' split) <;> omega]
              clear hx hy hx6 hy6 h hbc h5 hlt
              go_enter Try.func25, Try.ntmps25
              go_wp2_with fail
              refine Calls.mono (h1 _) ?_
              rintro e w1 ⟨rfl, rfl⟩
              go_wp2_with fail
              refine Calls.mono (h2 _) ?_
              rintro e w1 ⟨rfl, rfl⟩
              go_wp2_with fail
              go_ret
              exact ⟨rfl, rfl⟩
      · have d0 : ((x : Int) == 0) = false := by simp; omega
        have d1 : ((y : Int) == 0) = false := by simp; omega
        have d2 : decide (x < y) = false := by simp; omega
        have d3 : decide (y < x) = true := by simp; omega
        rw [show refV x y b c = 1 from by unfold refV seven; (repeat' split) <;> omega]
        clear hx hy hx6 hy6 h
        go_enter Try.func25, Try.ntmps25
        go_wp2_with fail
        refine Calls.mono (h1 _) ?_
        rintro e w1 ⟨rfl, rfl⟩
        go_wp2_with fail
        refine Calls.mono (h2 _) ?_
        rintro e w1 ⟨rfl, rfl⟩
        go_wp2_with fail
        go_ret
        exact ⟨rfl, rfl⟩

theorem cls_le (b : Nat) : cls b ≤ 6 := by
  unfold cls
  repeat' split
  all_goals omega

theorem cls_at (b : Nat) (hb : b < 18446744073709551616) : (cls b = 5 → sval b = b) ∧ (cls b = 2 → sval b = 9223372036854775808 - (b : Int)) ∧ (cls b = 1 → b = 9223372036854775808 + infR) ∧ (cls b = 6 → b = infR) ∧ (cls b = 3 → b = 9223372036854775808) ∧ (cls b = 4 → b = 0) := by
  obtain ⟨r, hr⟩ : ∃ r, rng b = r := ⟨_, rfl⟩
  unfold cls sval
  rw [hr]
  by_cases p : 9223372036854775808 ≤ b
  · have hs : sgn b = true := by unfold sgn; simp; omega
    have e : b = 9223372036854775808 + r := by unfold rng at hr; omega
    rw [hs]
    simp only [if_true]
    refine ⟨?_, ?_, ?_, ?_, ?_, ?_⟩ <;> (intro h; repeat' split at h) <;> omega
  · have hs : sgn b = false := by unfold sgn; simp; omega
    have e : b = r := by unfold rng at hr; omega
    rw [hs]
    simp only [Bool.false_eq_true, if_false]
    refine ⟨?_, ?_, ?_, ?_, ?_, ?_⟩ <;> (intro h; repeat' split at h) <;> omega

/-- The reference's order is the program's. -/
theorem refV_ordV (b c : Nat) (hb : b < 18446744073709551616) (hc : c < 18446744073709551616) : refV (cls b) (cls c) b c = ordV b c := by
  have k1 := cls_le b
  have k2 := cls_le c
  obtain ⟨b5, b2, b1, b6, b3, b4⟩ := cls_at b hb
  obtain ⟨c5, c2, c1, c6, c3, c4⟩ := cls_at c hc
  have huv : b = c → sval b = sval c := fun h => by rw [h]
  unfold refV ordV seven cmpI
  generalize sval b = u at *
  generalize sval c = v at *
  generalize cls b = x at *
  generalize cls c = y at *
  by_cases h0 : x = 0
  · by_cases h1 : y = 0
    · simp [h0, h1]
    · have h2 : 0 < y := by omega
      have h3 : y < 7 := by omega
      have h4 : ¬ 7 < y := by omega
      simp [h0, h1, h2, h3, h4]
  · by_cases h1 : y = 0
    · have h2 : 0 < x := by omega
      have h3 : x < 7 := by omega
      simp [h0, h1, h2, h3]
    · rw [if_neg h0, if_neg h1]
      have hor : ¬ (x = 0 ∨ y = 0) := by omega
      rw [if_neg hor]
      by_cases he : x = y
      · rw [if_neg (by omega), if_neg (by omega), if_pos he]
        have hx : x = 1 ∨ x = 2 ∨ x = 3 ∨ x = 4 ∨ x = 5 ∨ x = 6 := by omega
        rcases hx with hx | hx | hx | hx | hx | hx
        all_goals (repeat' split) <;> omega
      · rw [if_neg he]
        rcases Nat.lt_trichotomy x y with h | h | h
        · rw [if_pos h, if_pos (by omega)]
        · exact absurd h he
        · rw [if_neg (by omega), if_pos h, if_neg (by omega), if_pos (by omega)]

theorem RefOrder_any (w : World) (b c : Nat) (hb : b < 18446744073709551616) (hc : c < 18446744073709551616) : Calls Try.prog 25 #[.int .u64 b, .int .u64 c] w fun e w' => e = .returned (.int .i64 (ordV b c)) ∧ w' = w := by
  rw [← refV_ordV b c hb hc]
  exact RefOrder_gen w b c _ _ (cls_le b) (cls_le c) (fun w => RefClass_any w b hb) (fun w => RefClass_any w c hc)
end Go.Proofs.Ytpdecbhlkblpfaa
