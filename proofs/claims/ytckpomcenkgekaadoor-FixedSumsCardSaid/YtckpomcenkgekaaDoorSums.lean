/- The walk of FixedSums. -/
import Derived.Test.YtckpomcenkgekaaDoorFSum
import Derived.Test.YtckpomcenkgekaaDoorWak
set_option maxRecDepth 100000
namespace Go.Proofs.YtckpomcenkgekaaDoor
open Go.RowKit Go.Lat

set_option maxHeartbeats 1600000 in
theorem sums_whole (w : World) (a b : Int) (ht : Pow w) (h : okNum a = true) (hl : -900000000000000 ≤ a) (hh : a ≤ 900000000000000) : Calls Tryd.prog 6 #[.int .i64 a, .int .i64 b] w fun e w' => e = .returned (.bool true) ∧ Upd w w' (fun _ => False) := by
  have A := fun w => Add_any w a b
  have R := fun w => RefAdd_any w a b
  have S := fun w => Sub_any w a b
  have T := fun w => RefSub_any w a b
  have G := fun w => RefGood_any w a
  have W := fun w => Raw_any w a
  have O := fun w => Of_any w a
  have hb := okNum_true h
  have k : wholeOk a = true := by simp [wholeOk]; omega
  rw [k] at O
  simp only [if_true] at O
  have d1 : decide (-900000000000000 ≤ a) = true := by simp; omega
  have d2 : decide (a ≤ 900000000000000) = true := by simp; omega
  have m1 : IntKind.i64.wrap (10000 * a) = a * 10000 := by rw [Int.mul_comm]; exact IntWalk.i64_in _ (by omega)
  clear k hb hl hh
  rw [h] at G W
  simp only [if_true] at W
  generalize addV a b = x at *
  generalize addE a b = y at *
  generalize addV a (-b) = x2 at *
  generalize addE a (-b) = y2 at *
  clear h
  go_enter Tryd.func6, Tryd.ntmps6
  go_wp2_with fail
  refine Calls.mono (A _) ?_
  rintro e w1 ⟨rfl, u1⟩
  go_wp2_with fail
  refine Calls.mono (R _) ?_
  rintro e w2 ⟨rfl, u2⟩
  go_wp2_with fail
  refine Calls.mono (S _) ?_
  rintro e w3 ⟨rfl, u3⟩
  go_wp2_with fail
  refine Calls.mono (T _) ?_
  rintro e w4 ⟨rfl, u4⟩
  go_wp2_with fail
  refine Calls.mono (G _) ?_
  rintro e w5 ⟨rfl, hw⟩
  replace hw := hw.symm
  subst hw
  go_wp2_with fail
  refine Calls.mono (W _) ?_
  rintro e w6 ⟨rfl, u6⟩
  go_wp2_with fail
  refine Calls.mono (G _) ?_
  rintro e w7 ⟨rfl, hw⟩
  replace hw := hw.symm
  subst hw
  go_wp2_with fail
  refine Calls.mono (O _) ?_
  rintro e w8 ⟨rfl, hw⟩
  replace hw := hw.symm
  subst hw
  go_wp2_with fail
  have uu := (((u1.then u2 (fun _ _ => id)).then u3 (fun _ _ => id)).then u4 (fun _ _ => id)).then u6 (fun _ _ => id)
  refine Calls.mono (wakes_any _ (ht.upd uu id)) ?_
  rintro e w9 ⟨rfl, u9⟩
  go_wp2_with fail
  go_ret
  exact ⟨rfl, uu.then u9 (fun _ _ => id)⟩

set_option maxHeartbeats 1600000 in
theorem sums_low (w : World) (a b : Int) (ht : Pow w) (h : okNum a = true) (hl : a < -900000000000000) : Calls Tryd.prog 6 #[.int .i64 a, .int .i64 b] w fun e w' => e = .returned (.bool true) ∧ Upd w w' (fun _ => False) := by
  have A := fun w => Add_any w a b
  have R := fun w => RefAdd_any w a b
  have S := fun w => Sub_any w a b
  have T := fun w => RefSub_any w a b
  have G := fun w => RefGood_any w a
  have W := fun w => Raw_any w a
  have O := fun w => Of_any w a
  have k : wholeOk a = false := by simp [wholeOk]; omega
  rw [k] at O
  simp only [Bool.false_eq_true, if_false] at O
  have d1 : decide (-900000000000000 ≤ a) = false := by simp; omega
  clear k hl
  rw [h] at G W
  simp only [if_true] at W
  generalize addV a b = x at *
  generalize addE a b = y at *
  generalize addV a (-b) = x2 at *
  generalize addE a (-b) = y2 at *
  clear h
  go_enter Tryd.func6, Tryd.ntmps6
  go_wp2_with fail
  refine Calls.mono (A _) ?_
  rintro e w1 ⟨rfl, u1⟩
  go_wp2_with fail
  refine Calls.mono (R _) ?_
  rintro e w2 ⟨rfl, u2⟩
  go_wp2_with fail
  refine Calls.mono (S _) ?_
  rintro e w3 ⟨rfl, u3⟩
  go_wp2_with fail
  refine Calls.mono (T _) ?_
  rintro e w4 ⟨rfl, u4⟩
  go_wp2_with fail
  refine Calls.mono (G _) ?_
  rintro e w5 ⟨rfl, hw⟩
  replace hw := hw.symm
  subst hw
  go_wp2_with fail
  refine Calls.mono (W _) ?_
  rintro e w6 ⟨rfl, u6⟩
  go_wp2_with fail
  refine Calls.mono (G _) ?_
  rintro e w7 ⟨rfl, hw⟩
  replace hw := hw.symm
  subst hw
  go_wp2_with fail
  refine Calls.mono (O _) ?_
  rintro e w8 ⟨rfl, hw⟩
  replace hw := hw.symm
  subst hw
  go_wp2_with fail
  have uu := (((u1.then u2 (fun _ _ => id)).then u3 (fun _ _ => id)).then u4 (fun _ _ => id)).then u6 (fun _ _ => id)
  refine Calls.mono (wakes_any _ (ht.upd uu id)) ?_
  rintro e w9 ⟨rfl, u9⟩
  go_wp2_with fail
  go_ret
  exact ⟨rfl, uu.then u9 (fun _ _ => id)⟩

set_option maxHeartbeats 1600000 in
theorem sums_high (w : World) (a b : Int) (ht : Pow w) (h : okNum a = true) (hl : 900000000000000 < a) : Calls Tryd.prog 6 #[.int .i64 a, .int .i64 b] w fun e w' => e = .returned (.bool true) ∧ Upd w w' (fun _ => False) := by
  have A := fun w => Add_any w a b
  have R := fun w => RefAdd_any w a b
  have S := fun w => Sub_any w a b
  have T := fun w => RefSub_any w a b
  have G := fun w => RefGood_any w a
  have W := fun w => Raw_any w a
  have O := fun w => Of_any w a
  have k : wholeOk a = false := by simp [wholeOk]; omega
  rw [k] at O
  simp only [Bool.false_eq_true, if_false] at O
  have d1 : decide (-900000000000000 ≤ a) = true := by simp; omega
  have d2 : decide (a ≤ 900000000000000) = false := by simp; omega
  clear k hl
  rw [h] at G W
  simp only [if_true] at W
  generalize addV a b = x at *
  generalize addE a b = y at *
  generalize addV a (-b) = x2 at *
  generalize addE a (-b) = y2 at *
  clear h
  go_enter Tryd.func6, Tryd.ntmps6
  go_wp2_with fail
  refine Calls.mono (A _) ?_
  rintro e w1 ⟨rfl, u1⟩
  go_wp2_with fail
  refine Calls.mono (R _) ?_
  rintro e w2 ⟨rfl, u2⟩
  go_wp2_with fail
  refine Calls.mono (S _) ?_
  rintro e w3 ⟨rfl, u3⟩
  go_wp2_with fail
  refine Calls.mono (T _) ?_
  rintro e w4 ⟨rfl, u4⟩
  go_wp2_with fail
  refine Calls.mono (G _) ?_
  rintro e w5 ⟨rfl, hw⟩
  replace hw := hw.symm
  subst hw
  go_wp2_with fail
  refine Calls.mono (W _) ?_
  rintro e w6 ⟨rfl, u6⟩
  go_wp2_with fail
  refine Calls.mono (G _) ?_
  rintro e w7 ⟨rfl, hw⟩
  replace hw := hw.symm
  subst hw
  go_wp2_with fail
  refine Calls.mono (O _) ?_
  rintro e w8 ⟨rfl, hw⟩
  replace hw := hw.symm
  subst hw
  go_wp2_with fail
  have uu := (((u1.then u2 (fun _ _ => id)).then u3 (fun _ _ => id)).then u4 (fun _ _ => id)).then u6 (fun _ _ => id)
  refine Calls.mono (wakes_any _ (ht.upd uu id)) ?_
  rintro e w9 ⟨rfl, u9⟩
  go_wp2_with fail
  go_ret
  exact ⟨rfl, uu.then u9 (fun _ _ => id)⟩

set_option maxHeartbeats 1600000 in
theorem sums_bad_low (w : World) (a b : Int) (ht : Pow w) (h : okNum a = false) (hl : a < -900000000000000) : Calls Tryd.prog 6 #[.int .i64 a, .int .i64 b] w fun e w' => e = .returned (.bool true) ∧ Upd w w' (fun _ => False) := by
  have A := fun w => Add_any w a b
  have R := fun w => RefAdd_any w a b
  have S := fun w => Sub_any w a b
  have T := fun w => RefSub_any w a b
  have G := fun w => RefGood_any w a
  have W := fun w => Raw_any w a
  have O := fun w => Of_any w a
  have k : wholeOk a = false := by simp [wholeOk]; omega
  rw [k] at O
  simp only [Bool.false_eq_true, if_false] at O
  have d1 : decide (-900000000000000 ≤ a) = false := by simp; omega
  clear k hl
  have e1 : addV a (-b) = 0 := by unfold addV; rw [h]; rfl
  have e2 : addE a (-b) = 5 := by unfold addE; rw [h]; rfl
  rw [e1, e2] at S T
  rw [h] at G W
  simp only [Bool.false_eq_true, if_false] at W
  clear e1 e2
  generalize addV a b = x at *
  generalize addE a b = y at *
  clear h
  go_enter Tryd.func6, Tryd.ntmps6
  go_wp2_with fail
  refine Calls.mono (A _) ?_
  rintro e w1 ⟨rfl, u1⟩
  go_wp2_with fail
  refine Calls.mono (R _) ?_
  rintro e w2 ⟨rfl, u2⟩
  go_wp2_with fail
  refine Calls.mono (S _) ?_
  rintro e w3 ⟨rfl, u3⟩
  go_wp2_with fail
  refine Calls.mono (T _) ?_
  rintro e w4 ⟨rfl, u4⟩
  go_wp2_with fail
  refine Calls.mono (G _) ?_
  rintro e w5 ⟨rfl, hw⟩
  replace hw := hw.symm
  subst hw
  go_wp2_with fail
  refine Calls.mono (W _) ?_
  rintro e w6 ⟨rfl, u6⟩
  go_wp2_with fail
  refine Calls.mono (G _) ?_
  rintro e w7 ⟨rfl, hw⟩
  replace hw := hw.symm
  subst hw
  go_wp2_with fail
  refine Calls.mono (O _) ?_
  rintro e w8 ⟨rfl, hw⟩
  replace hw := hw.symm
  subst hw
  go_wp2_with fail
  have uu := (((u1.then u2 (fun _ _ => id)).then u3 (fun _ _ => id)).then u4 (fun _ _ => id)).then u6 (fun _ _ => id)
  refine Calls.mono (wakes_any _ (ht.upd uu id)) ?_
  rintro e w9 ⟨rfl, u9⟩
  go_wp2_with fail
  go_ret
  exact ⟨rfl, uu.then u9 (fun _ _ => id)⟩

set_option maxHeartbeats 1600000 in
theorem sums_bad_high (w : World) (a b : Int) (ht : Pow w) (h : okNum a = false) (hl : 900000000000000 < a) : Calls Tryd.prog 6 #[.int .i64 a, .int .i64 b] w fun e w' => e = .returned (.bool true) ∧ Upd w w' (fun _ => False) := by
  have A := fun w => Add_any w a b
  have R := fun w => RefAdd_any w a b
  have S := fun w => Sub_any w a b
  have T := fun w => RefSub_any w a b
  have G := fun w => RefGood_any w a
  have W := fun w => Raw_any w a
  have O := fun w => Of_any w a
  have k : wholeOk a = false := by simp [wholeOk]; omega
  rw [k] at O
  simp only [Bool.false_eq_true, if_false] at O
  have d1 : decide (-900000000000000 ≤ a) = true := by simp; omega
  have d2 : decide (a ≤ 900000000000000) = false := by simp; omega
  clear k hl
  have e1 : addV a (-b) = 0 := by unfold addV; rw [h]; rfl
  have e2 : addE a (-b) = 5 := by unfold addE; rw [h]; rfl
  rw [e1, e2] at S T
  rw [h] at G W
  simp only [Bool.false_eq_true, if_false] at W
  clear e1 e2
  generalize addV a b = x at *
  generalize addE a b = y at *
  clear h
  go_enter Tryd.func6, Tryd.ntmps6
  go_wp2_with fail
  refine Calls.mono (A _) ?_
  rintro e w1 ⟨rfl, u1⟩
  go_wp2_with fail
  refine Calls.mono (R _) ?_
  rintro e w2 ⟨rfl, u2⟩
  go_wp2_with fail
  refine Calls.mono (S _) ?_
  rintro e w3 ⟨rfl, u3⟩
  go_wp2_with fail
  refine Calls.mono (T _) ?_
  rintro e w4 ⟨rfl, u4⟩
  go_wp2_with fail
  refine Calls.mono (G _) ?_
  rintro e w5 ⟨rfl, hw⟩
  replace hw := hw.symm
  subst hw
  go_wp2_with fail
  refine Calls.mono (W _) ?_
  rintro e w6 ⟨rfl, u6⟩
  go_wp2_with fail
  refine Calls.mono (G _) ?_
  rintro e w7 ⟨rfl, hw⟩
  replace hw := hw.symm
  subst hw
  go_wp2_with fail
  refine Calls.mono (O _) ?_
  rintro e w8 ⟨rfl, hw⟩
  replace hw := hw.symm
  subst hw
  go_wp2_with fail
  have uu := (((u1.then u2 (fun _ _ => id)).then u3 (fun _ _ => id)).then u4 (fun _ _ => id)).then u6 (fun _ _ => id)
  refine Calls.mono (wakes_any _ (ht.upd uu id)) ?_
  rintro e w9 ⟨rfl, u9⟩
  go_wp2_with fail
  go_ret
  exact ⟨rfl, uu.then u9 (fun _ _ => id)⟩

theorem FixedSums_any (w : World) (a b : Int) (ht : Pow w) : Calls Tryd.prog 6 #[.int .i64 a, .int .i64 b] w fun e w' => e = .returned (.bool true) ∧ Upd w w' (fun _ => False) := by
  cases h : okNum a with
  | true =>
    by_cases h1 : a < -900000000000000
    · exact sums_low w a b ht h h1
    · by_cases h2 : 900000000000000 < a
      · exact sums_high w a b ht h h2
      · exact sums_whole w a b ht h (by omega) (by omega)
  | false =>
    have := okNum_false h
    by_cases h1 : a < -900000000000000
    · exact sums_bad_low w a b ht h h1
    · exact sums_bad_high w a b ht h (by omega)
end Go.Proofs.YtckpomcenkgekaaDoor
