/- The law's fixed examples of package float come true. -/
import Derived.Test.YtpdecbhlkblpfaaSqrt
set_option maxRecDepth 100000
namespace Go.Proofs.Ytpdecbhlkblpfaa
open Go.RowKit Go.Lat

theorem NaN_any (w : World) : Calls Try.prog 29 #[] w fun e w' => e = .returned (.float .f64 9221120237041090561) ∧ w' = w := by
  have hx := frombits64 9221120237041090561
  rw [show ((9221120237041090561 : Nat) : Int) = 9221120237041090561 from rfl] at hx
  go_enter Try.func29, Try.ntmps29
  go_wp2_with fail
  go_ret
  exact ⟨rfl, rfl⟩

theorem Sqrt_20000 (w : World) : Calls Try.prog 18 #[.int .i64 20000] w fun e w' => e = .returned (.tuple #[.int .i64 14142, .int .i64 0]) ∧ Upd w w' (fun _ => False) := by
  refine Calls.mono (Sqrt_gen w 20000 4730986895511650304 4669000335608402047 14142 (by omega) (by kernel_rfl) (by kernel_rfl) (by kernel_rfl) (by omega)) ?_
  rintro e w' ⟨x, rfl, h1, h2, hu⟩
  have e1 : x = 14142 := by
    rcases Nat.lt_trichotomy x 14142 with h | h | h
    · have := Nat.mul_le_mul (show x + 1 ≤ 14142 from h) (show x + 1 ≤ 14142 from h)
      omega
    · exact h
    · have := Nat.mul_le_mul (show 14143 ≤ x from h) (show 14143 ≤ x from h)
      omega
  subst e1
  exact ⟨rfl, hu⟩

theorem From_tenth (w : World) : Calls Try.prog 16 #[.float .f64 4591870180066957722] w fun e w' => e = .returned (.tuple #[.int .i64 1000, .int .i64 0]) ∧ Upd w w' (fun _ => False) := by
  have h := From_fin w 4591870180066957722 (by omega) (by decide)
  have e1 : fromR (rng 4591870180066957722) = 1000 := by
    rw [fromR_right (rng 4591870180066957722) 56 (by decide) (by omega) (by omega) (by decide)]
    decide
  have e2 : sgn 4591870180066957722 = false := by decide
  rw [e1, e2] at h
  exact h

set_option maxHeartbeats 1600000 in
theorem wakes_any (w : World) : Calls Try.prog 14 #[] w fun e w' => e = .returned (.bool true) ∧ Upd w w' (fun _ => False) := by
  have hO := fun w => Of_any w 13826050856027422720 (by omega)
  have hc : cls 13826050856027422720 = 2 := by decide
  rw [hc] at hO
  have hT := fun w => To_good w 15000 4609434218613702656 (by decide) (by kernel_rfl)
  have ho : (FloatKind.f64.format.order 4609434218613702656 4609434218613702656 == some Ordering.eq) = true := by kernel_rfl
  go_enter Try.func14, Try.ntmps14
  go_wp2_with fail
  refine Calls.mono (From_tenth w) ?_
  rintro e w1 ⟨rfl, hu1⟩
  go_wp2_with fail
  refine Calls.mono (Sqrt_20000 w1) ?_
  rintro e w2 ⟨rfl, hu2⟩
  go_wp2_with fail
  refine Calls.mono (NaN_any w2) ?_
  rintro e w3 ⟨rfl, rfl⟩
  go_wp2_with fail
  refine Calls.mono (From_nan w3 9221120237041090561 (by omega) (by decide)) ?_
  rintro e w4 ⟨rfl, rfl⟩
  go_wp2_with fail
  refine Calls.mono (hO w4) ?_
  rintro e w5 ⟨rfl, rfl⟩
  go_wp2_with fail
  refine Calls.mono (hT w5) ?_
  rintro e w6 ⟨rfl, hu6⟩
  go_wp2_with fail
  go_ret
  exact ⟨rfl, (hu1.then hu2 (fun _ _ => id)).then hu6 (fun _ _ => id)⟩
end Go.Proofs.Ytpdecbhlkblpfaa
