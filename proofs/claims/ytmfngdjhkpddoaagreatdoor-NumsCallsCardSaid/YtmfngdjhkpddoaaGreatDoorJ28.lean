/- The law FloatRatio: the class of a quotient of two numbers as floats. -/
import Derived.Test.YtmfngdjhkpddoaaGreatDoorJ27
import Derived.Test.YtmfngdjhkpddoaaGreatDoorJ05
import Derived.Test.YtmfngdjhkpddoaaGreatDoorJ07
import Derived.Test.YtmfngdjhkpddoaaGreatDoorJ06
/- The law FloatRatio: the class of a quotient of two numbers as floats. -/
set_option maxRecDepth 100000
namespace Go.Proofs.YtmfngdjhkpddoaaGreatDoor.Fl
open Go.RowKit Go.Lat

theorem run_nan (w : World) : ∃ b, (binOp .quo 123 (.float .f64 0) (.float .f64 0)).run Tryz.prog w = .ok (.float .f64 b) w.drew ∧ infR < rng b ∧ b < 18446744073709551616 := by
  have e : FloatKind.f64.format.div 0 0 = none := by kernel_rfl
  have e2 : ∀ t, (Question.nanBits .f64 0 0).cut t = t % 2 * 9223372036854775808 + 9218868437227405312 + 1 + t / 2 % 4503599627370495 := fun t => rfl
  refine ⟨(Question.nanBits .f64 0 0).cut (w.tape w.drawn (Question.nanBits .f64 0 0)), ?_, ?_, ?_⟩
  · simp [binOp, Op.floatArith, e, Question.forced]
  · rw [e2]
    generalize w.tape w.drawn (Question.nanBits .f64 0 0) = t
    have h1 : t % 2 = 0 ∨ t % 2 = 1 := by omega
    have h2 := Nat.mod_lt (t / 2) (show 0 < 4503599627370495 by omega)
    generalize t / 2 % 4503599627370495 = s at h2 ⊢
    unfold rng infR
    rcases h1 with h | h <;> rw [h] <;> omega
  · rw [e2]
    omega

theorem run_nans : ∃ N : World → Nat, ∀ w, (binOp .quo 123 (.float .f64 0) (.float .f64 0)).run Tryz.prog w = .ok (.float .f64 (N w)) w.drew ∧ infR < rng (N w) ∧ N w < 18446744073709551616 :=
  ⟨fun w => (run_nan w).choose, fun w => (run_nan w).choose_spec⟩

theorem cls_of (b r : Nat) (s : Bool) (hr : rng b = r) (hs : Lat.sgn b = s) : cls b = if infR < r then 0 else if s then (if r = infR then 1 else if r = 0 then 3 else 2) else (if r = infR then 6 else if r = 0 then 4 else 5) := by
  unfold cls
  rw [hr, hs]

theorem div_zero (b : Nat) (h1 : 4503599627370496 ≤ rng b) (h2 : rng b < infR) : ∃ r, Ieee.double.div b 0 = some r ∧ r < 18446744073709551616 ∧ cls r = if Lat.sgn b then 1 else 6 := by
  have e0 : Ieee.double.read 0 = .number false 0 (-1074) := by decide
  obtain ⟨g1, g2, g3⟩ := word_rng (Lat.sgn b ^^ false) infR (by unfold infR; omega)
  refine ⟨Ieee.double.word (Lat.sgn b ^^ false) infR, ?_, g3, ?_⟩
  · unfold Ieee.Format.div
    rw [read_norm b h1 h2, e0]
    simp only [Ieee.Datum.quotient]
    rw [if_pos trivial, if_neg (by omega)]
    rfl
  · rw [cls_of _ _ _ g1 g2]
    cases Lat.sgn b <;> simp

theorem zero_div (c : Nat) (h1 : 4503599627370496 ≤ rng c) (h2 : rng c < infR) : ∃ r, Ieee.double.div 0 c = some r ∧ r < 18446744073709551616 ∧ cls r = if Lat.sgn c then 3 else 4 := by
  have e0 : Ieee.double.read 0 = .number false 0 (-1074) := by decide
  obtain ⟨g1, g2, g3⟩ := word_rng (false ^^ Lat.sgn c) 0 (by omega)
  refine ⟨Ieee.double.word (false ^^ Lat.sgn c) 0, ?_, g3, ?_⟩
  · unfold Ieee.Format.div
    rw [read_norm c h1 h2, e0]
    simp only [Ieee.Datum.quotient]
    rw [if_neg (by omega)]
    simp only [Option.map_some, Ieee.Format.write, Nat.zero_shiftLeft, Nat.zero_div, Nat.zero_mod]
    unfold Ieee.Format.nearest
    rfl
  · rw [cls_of _ _ _ g1 g2]
    unfold infR
    cases Lat.sgn c <;> simp

theorem norm_div (b c : Nat) (h1 : 4503599627370496 * 1000 ≤ rng b) (h2 : rng b < 4503599627370496 * 1200) (h3 : 4503599627370496 * 1000 ≤ rng c) (h4 : rng c < 4503599627370496 * 1200) :
    ∃ r, Ieee.double.div b c = some r ∧ r < 18446744073709551616 ∧ cls r = if Lat.sgn b = Lat.sgn c then 5 else 2 := by
  obtain ⟨eb, heb⟩ : ∃ eb, rng b / 4503599627370496 = eb := ⟨_, rfl⟩
  obtain ⟨ec, hec⟩ : ∃ ec, rng c / 4503599627370496 = ec := ⟨_, rfl⟩
  have b1 : 1000 ≤ eb ∧ eb < 1200 := by omega
  have b2 : 1000 ≤ ec ∧ ec < 1200 := by omega
  obtain ⟨F, hF⟩ : ∃ F, eb + 1019 = ec + F := ⟨eb + 1019 - ec, by omega⟩
  obtain ⟨r, q, L, k, d1, d2, d3, d4, d5, d6, d7, d8, -, -, -, -⟩ := div_norm b c eb ec _ _ (by omega) (by unfold infR; omega) (by omega) (by unfold infR; omega) heb hec rfl rfl F hF (by omega) (by omega)
  refine ⟨r, d1, d3, ?_⟩
  have r1 : ¬ infR < rng r := by rw [d4]; unfold infR; omega
  have r2 : ¬ rng r = infR := by rw [d4]; unfold infR; omega
  have r3 : ¬ rng r = 0 := by rw [d4]; omega
  rw [cls_of r (rng r) _ rfl d2, if_neg r1, if_neg r2, if_neg r3, if_neg r2, if_neg r3]
  cases Lat.sgn b <;> cases Lat.sgn c <;> simp

def ratioCls (x y : Int) : Nat := if x = 0 ∧ y = 0 then 0 else if y = 0 then (if x < 0 then 1 else 6) else if x = 0 then (if y < 0 then 3 else 4) else if (decide (x < 0) = decide (y < 0)) then 5 else 2

theorem natAbs_ok (x : Int) (h : okNum x = true) : x.natAbs < 18446744073709551616 := by
  unfold okNum at h
  simp at h
  omega

/-- What To gives for the quotient. -/
theorem To_cases (x : Int) (h : okNum x = true) : ∃ b, floatBits .quo .f64 (floatOfInt .f64 x) 4666723172467343360 = some b ∧ (x = 0 → b = 0) ∧ (x ≠ 0 → Lat.sgn b = decide (x < 0) ∧ 4503599627370496 * 1000 ≤ rng b ∧ rng b < 4503599627370496 * 1200) := by
  by_cases hx : x = 0
  · subst hx
    exact ⟨0, by kernel_rfl, fun _ => rfl, fun h => absurd rfl h⟩
  · obtain ⟨w, F, W, h1, h2, h3, h4, h5, -, -⟩ := To_word x hx (natAbs_ok x h) 1074 rfl
    exact ⟨w, h1, fun h => absurd h hx, fun _ => ⟨h2, h4, h5⟩⟩

theorem Ratio_any (w : World) (x y : Int) (hx : okNum x = true) (hy : okNum y = true) : Calls Tryz.prog 124 #[.int .i64 x, .int .i64 y] w fun e w' => ∃ r, e = .returned (.float .f64 r) ∧ r < 18446744073709551616 ∧ cls r = ratioCls x y ∧ Upd w w' (fun _ => False) := by
  obtain ⟨b, b1, b2, b3⟩ := To_cases x hx
  obtain ⟨c, c1, c2, c3⟩ := To_cases y hy
  have hT1 := fun w => To_good w x b hx b1
  have hT2 := fun w => To_good w y c hy c1
  by_cases h00 : x = 0 ∧ y = 0
  · have eb := b2 h00.1
    have ec := c2 h00.2
    subst eb ec
    obtain ⟨N, hN⟩ := run_nans
    have hN1 := fun w => (hN w).1
    have hN2 := hide fun w => (hN w).2
    have hc : ratioCls x y = 0 := by unfold ratioCls; rw [if_pos h00]
    rw [hc]
    clear h00 hN b1 b2 b3 c1 c2 c3 hc
    go_enter Tryz.func124, Tryz.ntmps124
    go_wp2_with fail
    refine Calls.mono (hT1 _) ?_
    rintro e w1 ⟨rfl, hu1⟩
    go_wp2_with fail
    refine Calls.mono (hT2 _) ?_
    rintro e w2 ⟨rfl, hu2⟩
    go_wp2_with fail
    go_ret
    exact ⟨N w2, rfl, (hN2.out w2).2, (cls_nan _).2 (hN2.out w2).1, (hu1.then hu2 (fun _ _ => id)).drew⟩
  · obtain ⟨r, r1, r2, r3⟩ : ∃ r, Ieee.double.div b c = some r ∧ r < 18446744073709551616 ∧ cls r = ratioCls x y := by
      unfold ratioCls
      rw [if_neg h00]
      by_cases hy0 : y = 0
      · rw [if_pos hy0, c2 hy0]
        obtain ⟨s1, s2, s3⟩ := b3 (by omega)
        obtain ⟨r, r1, r2, r3⟩ := div_zero b (by omega) (by unfold infR; omega)
        refine ⟨r, r1, r2, ?_⟩
        rw [r3, s1]
        by_cases hn : x < 0
        · simp [hn]
        · simp [hn]
      · rw [if_neg hy0]
        obtain ⟨t1, t2, t3⟩ := c3 hy0
        by_cases hx0 : x = 0
        · rw [if_pos hx0, b2 hx0]
          obtain ⟨r, r1, r2, r3⟩ := zero_div c (by omega) (by unfold infR; omega)
          refine ⟨r, r1, r2, ?_⟩
          rw [r3, t1]
          by_cases hn : y < 0
          · simp [hn]
          · simp [hn]
        · rw [if_neg hx0]
          obtain ⟨s1, s2, s3⟩ := b3 hx0
          obtain ⟨r, r1, r2, r3⟩ := norm_div b c s2 s3 t2 t3
          exact ⟨r, r1, r2, by rw [r3, s1, t1]⟩
    have hq := fun w => run_float_arith (P := Tryz.prog) w .quo 123 .f64 b c r r1
    clear b1 b2 b3 c1 c2 c3 r1 h00
    go_enter Tryz.func124, Tryz.ntmps124
    go_wp2_with fail
    refine Calls.mono (hT1 _) ?_
    rintro e w1 ⟨rfl, hu1⟩
    go_wp2_with fail
    refine Calls.mono (hT2 _) ?_
    rintro e w2 ⟨rfl, hu2⟩
    go_wp2_with fail
    go_ret
    exact ⟨r, rfl, r2, r3, hu1.then hu2 (fun _ _ => id)⟩
end Go.Proofs.YtmfngdjhkpddoaaGreatDoor.Fl
/- A quotient of two numbers by way of float64, where the divisor is not 0: one float64, finite. -/
set_option maxRecDepth 100000
namespace Go.Proofs.YtmfngdjhkpddoaaGreatDoor.Fl
open Go.RowKit Go.Lat

theorem Ratio_at (x y : Int) (hx : okNum x = true) (hy : okNum y = true) (hy0 : y ≠ 0) : ∃ b c r, floatBits .quo .f64 (floatOfInt .f64 x) 4666723172467343360 = some b ∧ floatBits .quo .f64 (floatOfInt .f64 y) 4666723172467343360 = some c ∧
    Ieee.double.div b c = some r ∧ r < 18446744073709551616 ∧ (cls r = 2 ∨ cls r = 3 ∨ cls r = 4 ∨ cls r = 5) ∧
    ∀ w, Calls Tryz.prog 124 #[.int .i64 x, .int .i64 y] w fun e w' => e = .returned (.float .f64 r) ∧ Upd w w' (fun _ => False) := by
  obtain ⟨b, b1, b2, b3⟩ := To_cases x hx
  obtain ⟨c, c1, c2, c3⟩ := To_cases y hy
  obtain ⟨t1, t2, t3⟩ := c3 hy0
  obtain ⟨r, r1, r2, r3⟩ : ∃ r, Ieee.double.div b c = some r ∧ r < 18446744073709551616 ∧ (cls r = 2 ∨ cls r = 3 ∨ cls r = 4 ∨ cls r = 5) := by
    by_cases hx0 : x = 0
    · rw [b2 hx0]
      obtain ⟨r, r1, r2, r3⟩ := zero_div c (by omega) (by unfold infR; omega)
      refine ⟨r, r1, r2, ?_⟩
      rw [r3]
      split
      · exact .inr (.inl rfl)
      · exact .inr (.inr (.inl rfl))
    · obtain ⟨s1, s2, s3⟩ := b3 hx0
      obtain ⟨r, r1, r2, r3⟩ := norm_div b c s2 s3 t2 t3
      refine ⟨r, r1, r2, ?_⟩
      rw [r3]
      split
      · exact .inr (.inr (.inr rfl))
      · exact .inl rfl
  refine ⟨b, c, r, b1, c1, r1, r2, r3, fun w => ?_⟩
  have hT1 := fun w => To_good w x b hx b1
  have hT2 := fun w => To_good w y c hy c1
  have hq := fun w => run_float_arith (P := Tryz.prog) w .quo 123 .f64 b c r r1
  clear b1 b2 b3 c1 c2 c3 r1 r2 r3 t1 t2 t3 hy0
  go_enter Tryz.func124, Tryz.ntmps124
  go_wp2_with fail
  refine Calls.mono (hT1 _) ?_
  rintro e w1 ⟨rfl, hu1⟩
  go_wp2_with fail
  refine Calls.mono (hT2 _) ?_
  rintro e w2 ⟨rfl, hu2⟩
  go_wp2_with fail
  go_ret
  exact ⟨rfl, hu1.then hu2 (fun _ _ => id)⟩
end Go.Proofs.YtmfngdjhkpddoaaGreatDoor.Fl
/- The walks of the reference's digits of a word, of its powers of 2, and of its trimming. -/
set_option maxRecDepth 100000
namespace Go.Proofs.YtmfngdjhkpddoaaGreatDoor.Fl
open Go.RowKit Go.Lat

end Go.Proofs.YtmfngdjhkpddoaaGreatDoor.Fl
/- The walks of the reference's number of digits, and of its difference. -/
set_option maxRecDepth 100000
namespace Go.Proofs.YtmfngdjhkpddoaaGreatDoor.Fl
open Go.RowKit Go.Lat

end Go.Proofs.YtmfngdjhkpddoaaGreatDoor.Fl
/- The walk of the reference's sum of digits. -/
set_option maxRecDepth 100000
namespace Go.Proofs.YtmfngdjhkpddoaaGreatDoor.Fl
open Go.RowKit Go.Lat

end Go.Proofs.YtmfngdjhkpddoaaGreatDoor.Fl
/- The walk of the reference's division of digits. -/
set_option maxRecDepth 100000
namespace Go.Proofs.YtmfngdjhkpddoaaGreatDoor.Fl
open Go.RowKit Go.Lat

end Go.Proofs.YtmfngdjhkpddoaaGreatDoor.Fl
