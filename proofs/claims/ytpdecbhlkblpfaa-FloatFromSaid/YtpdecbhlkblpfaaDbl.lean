/- The walks of package float's numbers of two words. -/
import Derived.Test.YtpdecbhlkblpfaaMul
set_option maxRecDepth 100000
namespace Go.Proofs.Ytpdecbhlkblpfaa
open Go.RowKit Go.Lat

/-- A number of two words. -/
def dbl (n : Nat) : Value := .agg #[.int .u64 (n / 18446744073709551616 : Nat), .int .u64 (n % 18446744073709551616 : Nat)]

theorem product_any (w : World) (x y : Nat) (hx : x < 18446744073709551616) (hy : y < 18446744073709551616) : Calls Try.prog 30 #[.int .u64 x, .int .u64 y] w fun e w' => e = .returned (dbl (x * y)) ∧ Upd w w' (fun _ => False) := by
  have hm := fun w => Mul64_any w x y hx hy
  unfold dbl
  generalize x * y / 18446744073709551616 = h at *
  generalize x * y % 18446744073709551616 = l at *
  go_enter Try.func30, Try.ntmps30
  go_wp2_with fail
  refine Calls.mono (hm _) ?_
  rintro e w1 ⟨rfl, rfl⟩
  go_wp2_with fail
  refine bodyPost_ret (results_cell_row rfl _ _ w.heap.size _ _ _ _ rfl (heap_alloc_new w _) Try.underlying57 rfl (by kernel_rfl)) rfl ?_
  exact ⟨rfl, (Upd.refl w _).alloc _⟩

theorem above_any (w : World) (a b : Nat) : Calls Try.prog 41 #[dbl a, dbl b] w fun e w' => e = .returned (.bool (decide (b < a))) ∧ Upd w w' (fun _ => False) := by
  have e : decide (b < a) = decide (b / 18446744073709551616 < a / 18446744073709551616 ∨ b / 18446744073709551616 = a / 18446744073709551616 ∧ b % 18446744073709551616 < a % 18446744073709551616) := by
    rw [Bool.eq_iff_iff]
    simp only [decide_eq_true_eq]
    omega
  rw [e]
  unfold dbl
  generalize a / 18446744073709551616 = h1 at *
  generalize a % 18446744073709551616 = l1 at *
  generalize b / 18446744073709551616 = h2 at *
  generalize b % 18446744073709551616 = l2 at *
  clear e
  go_enter Try.func41, Try.ntmps41
  go_wp2_with fail
  all_goals
    go_ret
    refine ⟨?_, ((Upd.refl w _).alloc _).alloc _⟩
    simp
    try rw [Bool.eq_iff_iff]
    try simp
    try omega

def okNum (a : Int) : Bool := decide (-9000000000000000000 ≤ a) && decide (a ≤ 9000000000000000000)

theorem fixgood_any (w : World) (B : Nat) (a : Int) (hc : w.cell? ⟨B, 0, none⟩ = some (.int .i64 a)) : Calls Try.prog 55 #[.slice (some ⟨B, 0, none⟩) 1 1] w fun e w' => e = .returned (.bool (okNum a)) ∧ w' = w := by
  unfold okNum
  by_cases h1 : a < -9000000000000000000
  · have d1 : decide (a < -9000000000000000000) = true := by simpa using h1
    have d2 : decide (-9000000000000000000 ≤ a) = false := by simp; omega
    rw [d2]
    clear h1 d2
    go_enter Try.func55, Try.ntmps55
    go_wp2_with fail
    refine wp_loop_rounds 1 ?_
    rw [rounds_succ]
    go_wp2_with fail
    go_ret
    exact ⟨rfl, rfl⟩
  · have d1 : decide (a < -9000000000000000000) = false := by simpa using h1
    have d2 : decide (-9000000000000000000 ≤ a) = true := by simp; omega
    rw [d2]
    clear h1 d2
    by_cases h3 : 9000000000000000000 < a
    · have d3 : decide (9000000000000000000 < a) = true := by simpa using h3
      have d4 : decide (a ≤ 9000000000000000000) = false := by simp; omega
      rw [d4]
      clear h3 d4
      go_enter Try.func55, Try.ntmps55
      go_wp2_with fail
      refine wp_loop_rounds 1 ?_
      rw [rounds_succ]
      go_wp2_with fail
      go_ret
      exact ⟨rfl, rfl⟩
    · have d3 : decide (9000000000000000000 < a) = false := by simpa using h3
      have d4 : decide (a ≤ 9000000000000000000) = true := by simp; omega
      rw [d4]
      clear h3 d4
      go_enter Try.func55, Try.ntmps55
      go_wp2_with fail
      refine wp_loop_rounds 2 ?_
      rw [rounds_succ]
      go_wp2_with fail
      rw [rounds_succ]
      go_wp2_with fail
      go_ret
      exact ⟨rfl, rfl⟩

theorem told_any (w : World) (a : Int) : Calls Try.prog 44 #[.int .i64 a] w fun e w' => e = .returned (.tuple #[.int .i64 (if okNum a then a else 0), .int .i64 (if okNum a then 0 else 5)]) ∧ Upd w w' (fun _ => False) := by
  have hg := fixgood_any (w.alloc (.cells #[.int .i64 a] 33)) w.heap.size a (cells1 (heap_alloc_new w _))
  obtain ⟨x, hx⟩ : ∃ x, okNum a = x := ⟨_, rfl⟩
  rw [hx] at hg ⊢
  clear hx
  cases x with
  | true =>
    go_enter Try.func44, Try.ntmps44
    go_wp2_with fail
    refine Calls.mono hg ?_
    rintro e w1 ⟨rfl, rfl⟩
    go_wp2_with fail
    go_ret2
    exact ⟨rfl, (Upd.refl w _).alloc _⟩
  | false =>
    go_enter Try.func44, Try.ntmps44
    go_wp2_with fail
    refine Calls.mono hg ?_
    rintro e w1 ⟨rfl, rfl⟩
    go_wp2_with fail
    go_ret2
    exact ⟨rfl, (Upd.refl w _).alloc _⟩

theorem Raw_any (w : World) (a : Int) : Calls Try.prog 22 #[.int .i64 a] w fun e w' => e = .returned (.tuple #[.int .i64 (if okNum a then a else 0), .int .i64 (if okNum a then 0 else 5)]) ∧ Upd w w' (fun _ => False) := by
  go_enter Try.func22, Try.ntmps22
  go_wp2_with fail
  refine Calls.mono (told_any w a) ?_
  rintro e w1 ⟨rfl, hu⟩
  go_wp2_with fail
  all_goals go_ret2
  all_goals exact ⟨rfl, hu⟩

theorem good_any (w : World) (a : Int) : Calls Try.prog 39 #[.int .i64 a] w fun e w' => e = .returned (.bool (okNum a)) ∧ Upd w w' (fun _ => False) := by
  have hr := Raw_any w a
  obtain ⟨x, hx⟩ : ∃ x, okNum a = x := ⟨_, rfl⟩
  rw [hx] at hr ⊢
  clear hx
  cases x with
  | true =>
    go_enter Try.func39, Try.ntmps39
    go_wp2_with fail
    refine Calls.mono hr ?_
    rintro e w1 ⟨rfl, hu⟩
    go_wp2_with fail
    go_ret
    exact ⟨rfl, hu⟩
  | false =>
    go_enter Try.func39, Try.ntmps39
    go_wp2_with fail
    refine Calls.mono hr ?_
    rintro e w1 ⟨rfl, hu⟩
    go_wp2_with fail
    go_ret
    exact ⟨rfl, hu⟩
end Go.Proofs.Ytpdecbhlkblpfaa
