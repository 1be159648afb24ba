/- The walks of package fixed: differences, whole numbers, sizes; what the reference lets be. -/
import Derived.Test.YtckpomcenkgekaaDoorFxA
set_option maxRecDepth 100000
namespace Go.Proofs.YtckpomcenkgekaaDoor
open Go.RowKit Go.Lat

theorem okNum_neg (b : Int) : okNum (-b) = okNum b := by
  unfold okNum
  rw [Bool.eq_iff_iff]
  simp only [Bool.and_eq_true, decide_eq_true_eq]
  omega

theorem Sub_any (w : World) (a b : Int) : Calls Tryd.prog 22 #[.int .i64 a, .int .i64 b] w fun e w' => e = .returned (.tuple #[.int .i64 (addV a (-b)), .int .i64 (addE a (-b))]) ∧ Upd w w' (fun _ => False) := by
  have hg := fixgood2_any (w.alloc (.cells #[.int .i64 a, .int .i64 b] 22)) w.heap.size a b (cells2 (heap_alloc_new w _)).1 (cells2 (heap_alloc_new w _)).2
  have hA := fun w => Add_any w a (-b)
  cases hx : (okNum a && okNum b) with
  | false =>
    have e1 : addV a (-b) = 0 := by unfold addV; rw [okNum_neg, hx]; rfl
    have e2 : addE a (-b) = 5 := by unfold addE; rw [okNum_neg, hx]; rfl
    rw [e1, e2]
    rw [hx] at hg
    clear hx hA e1 e2
    go_enter Tryd.func22, Tryd.ntmps22
    go_wp2_with fail
    refine Calls.mono hg ?_
    rintro e w1 ⟨rfl, rfl⟩
    go_wp2_with fail
    go_ret2
    exact ⟨rfl, (Upd.refl w _).alloc _⟩
  | true =>
    rw [hx] at hg
    have bb := okNum_true (show okNum b = true by simp only [Bool.and_eq_true] at hx; exact hx.2)
    have w3 : IntKind.i64.wrap (-b) = -b := IntWalk.i64_in _ (by omega)
    clear hx bb
    generalize addV a (-b) = x at *
    generalize addE a (-b) = y at *
    go_enter Tryd.func22, Tryd.ntmps22
    go_wp2_with fail
    refine Calls.mono hg ?_
    rintro e w1 ⟨rfl, rfl⟩
    go_wp2_with fail
    refine Calls.mono (hA _) ?_
    rintro e w1 ⟨rfl, hu⟩
    go_wp2_with fail
    go_ret2
    exact ⟨rfl, ((Upd.refl w _).alloc _).then hu (fun _ _ => id)⟩

/-- A whole number, and its error. -/
def wholeOk (a : Int) : Bool := decide (-900000000000000 ≤ a) && decide (a ≤ 900000000000000)

theorem Of_any (w : World) (a : Int) : Calls Tryd.prog 26 #[.int .i64 a] w fun e w' => e = .returned (.tuple #[.int .i64 (if wholeOk a then a * 10000 else 0), .int .i64 (if wholeOk a then 0 else 5)]) ∧ w' = w := by
  unfold wholeOk
  by_cases h1 : 900000000000000 < a
  · have d1 : decide (900000000000000 < a) = true := by simpa using h1
    have d2 : decide (a ≤ 900000000000000) = false := by simp; omega
    rw [d2]
    simp only [Bool.and_false]
    clear h1 d2
    go_enter Tryd.func26, Tryd.ntmps26
    go_wp2_with fail
    go_ret2
    exact ⟨rfl, rfl⟩
  · have d1 : decide (900000000000000 < a) = false := by simpa using h1
    have d2 : decide (a ≤ 900000000000000) = true := by simp; omega
    rw [d2]
    simp only [Bool.and_true]
    by_cases h2 : a < -900000000000000
    · have d3 : decide (a < -900000000000000) = true := by simpa using h2
      have d4 : decide (-900000000000000 ≤ a) = false := by simp; omega
      rw [d4]
      clear h1 h2 d2 d4
      go_enter Tryd.func26, Tryd.ntmps26
      go_wp2_with fail
      go_ret2
      exact ⟨rfl, rfl⟩
    · have d3 : decide (a < -900000000000000) = false := by simpa using h2
      have d4 : decide (-900000000000000 ≤ a) = true := by simp; omega
      have w1 : IntKind.i64.wrap (a * 10000) = a * 10000 := IntWalk.i64_in _ (by omega)
      rw [d4]
      clear h1 h2 d2 d4
      go_enter Tryd.func26, Tryd.ntmps26
      go_wp2_with fail
      go_ret2
      exact ⟨rfl, rfl⟩

theorem RefGood_any (w : World) (a : Int) : Calls Tryd.prog 25 #[.int .i64 a] w fun e w' => e = .returned (.bool (okNum a)) ∧ w' = w := by
  unfold okNum
  by_cases h1 : -9000000000000000000 ≤ a
  · have d1 : decide (-9000000000000000000 ≤ a) = true := by simpa using h1
    rw [d1]
    go_enter Tryd.func25, Tryd.ntmps25
    go_wp2_with fail
    go_ret
    exact ⟨by simp, rfl⟩
  · have d1 : decide (-9000000000000000000 ≤ a) = false := by simpa using h1
    rw [d1]
    go_enter Tryd.func25, Tryd.ntmps25
    go_wp2_with fail
    go_ret
    exact ⟨rfl, rfl⟩

theorem size_any (w : World) (s : Bool) (n : Nat) (hn : n ≤ 9000000000000000000) (h0 : s = true → 0 < n) : Calls Tryd.prog 34 #[.int .i64 (if s then -(n : Int) else n)] w fun e w' => e = .returned (.tuple #[.int .u64 n, .bool s]) ∧ w' = w := by
  cases s with
  | true =>
    have := h0 rfl
    simp only [if_true]
    have d1 : decide (-(n : Int) < 0) = true := by simp; omega
    have d2 : decide (0 < (n : Int)) = true := by simp; omega
    have d3 : decide (0 < n) = true := by simp; omega
    have w1 : IntKind.i64.wrap (- -(n : Int)) = (n : Int) := by rw [Int.neg_neg]; exact IntWalk.i64_in _ (by omega)
    have w1' : IntKind.i64.wrap (n : Int) = (n : Int) := IntWalk.i64_in _ (by omega)
    have w2 : IntKind.u64.wrap (n : Int) = (n : Int) := by rw [IntKind.wrap_u64]; omega
    go_enter Tryd.func34, Tryd.ntmps34
    go_wp2_with fail
    go_ret2
    exact ⟨rfl, rfl⟩
  | false =>
    simp only [Bool.false_eq_true, if_false]
    have d1 : decide ((n : Int) < 0) = false := by simp
    have w2 : IntKind.u64.wrap (n : Int) = (n : Int) := by rw [IntKind.wrap_u64]; omega
    go_enter Tryd.func34, Tryd.ntmps34
    go_wp2_with fail
    go_ret2
    exact ⟨rfl, rfl⟩
end Go.Proofs.YtckpomcenkgekaaDoor
