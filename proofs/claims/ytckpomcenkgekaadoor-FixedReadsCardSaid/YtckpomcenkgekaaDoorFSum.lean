/- The walks of the reference's sums and differences. -/
import Derived.Test.YtckpomcenkgekaaDoorFPlus
import Derived.Test.YtckpomcenkgekaaDoorFxB
set_option maxRecDepth 100000
namespace Go.Proofs.YtckpomcenkgekaaDoor
open Go.RowKit Go.Lat

theorem signed (a : Int) : ∃ (s : Bool) (n : Nat), a = (if s then -(n : Int) else (n : Int)) ∧ (s = true → 0 < n) ∧ decide (a < 0) = s ∧ n = a.natAbs := by
  by_cases h : a < 0
  · exact ⟨true, a.natAbs, (by simp; omega), (fun _ => by omega), (by simpa using h), rfl⟩
  · exact ⟨false, a.natAbs, (by simp; omega), (fun h => Bool.noConfusion h), (by simpa using h), rfl⟩

theorem norm_len (n : Nat) (h : n ≤ 9000000000000000000) : (dg n).length ≤ 1000 := by
  have := dg_len n 20 (by omega)
  omega

set_option maxHeartbeats 1600000 in
theorem RefAdd_same (w : World) (a b : Int) (ha : okNum a = true) (hb : okNum b = true) (s : Bool) (h1 : decide (a < 0) = s) (h2 : decide (b < 0) = s) :
    Calls Tryd.prog 23 #[.int .i64 a, .int .i64 b] w fun e w' => e = .returned (.tuple #[.int .i64 (numV s (a.natAbs + b.natAbs)), .int .i64 (numE (a.natAbs + b.natAbs))]) ∧ Upd w w' (fun _ => False) := by
  have G1 := fun w => RefGood_any w a
  have G2 := fun w => RefGood_any w b
  rw [ha] at G1
  rw [hb] at G2
  have ba := okNum_true ha
  have bb := okNum_true hb
  obtain ⟨s1, n, ea, -, e1, en⟩ := signed a
  obtain ⟨s2, m, eb, -, e2, em⟩ := signed b
  rw [h1] at e1
  rw [h2] at e2
  subst e1 e2
  rw [← en, ← em]
  have D1 := fun w => Digits_any w s n (by omega)
  have D2 := fun w => Digits_any w s m (by omega)
  rw [← ea] at D1
  rw [← eb] at D2
  have P := fun w v1 v2 k1 k2 => plus1_any w v1 v2 (dg n) (dg m) k1 k2 (dg_norm _) (dg_norm _) (norm_len n (by omega)) (norm_len m (by omega))
  rw [val_dg, val_dg] at P
  have N := fun w v k => Number_any w v (n + m) s k (by omega)
  clear ea eb en em ba bb ha hb
  generalize numV s (n + m) = x at *
  generalize numE (n + m) = y at *
  go_enter Tryd.func23, Tryd.ntmps23
  go_wp2_with fail
  refine Calls.mono (G1 _) ?_
  rintro e w1 ⟨rfl, hw⟩
  replace hw := hw.symm
  subst hw
  go_wp2_with fail
  refine Calls.mono (G2 _) ?_
  rintro e w2 ⟨rfl, hw⟩
  replace hw := hw.symm
  subst hw
  go_wp2_with fail
  refine Calls.mono (D1 _) ?_
  rintro e w3 ⟨v3, rfl, q3, u3, -⟩
  go_wp2_with fail
  refine Calls.mono (D2 _) ?_
  rintro e w4 ⟨v4, rfl, q4, u4, -⟩
  go_wp2_with fail
  refine Calls.mono (P _ _ _ (q3.upd u4) q4) ?_
  rintro e w5 ⟨v5, rfl, q5, u5⟩
  go_wp2_with fail
  refine Calls.mono (N _ _ q5) ?_
  rintro e w6 ⟨rfl, u6⟩
  go_wp2_with fail
  go_ret2
  exact ⟨rfl, ((u3.then u4 (fun _ _ => id)).then u5 (fun _ _ => id)).then u6 (fun _ _ => id)⟩

theorem RefAdd_diff (w : World) (a b : Int) (ha : okNum a = true) (hb : okNum b = true) (s t : Bool) (h1 : decide (a < 0) = s) (h2 : decide (b < 0) = t) (hst : (s == t) = false) :
    Calls Tryd.prog 23 #[.int .i64 a, .int .i64 b] w fun e w' => e = .returned (.tuple #[.int .i64 (a + b), .int .i64 0]) ∧ Upd w w' (fun _ => False) := by
  have G1 := fun w => RefGood_any w a
  have G2 := fun w => RefGood_any w b
  rw [ha] at G1
  rw [hb] at G2
  have ba := okNum_true ha
  have bb := okNum_true hb
  have w1 : IntKind.i64.wrap (a + b) = a + b := by
    refine IntWalk.i64_in _ ?_
    subst h1 h2
    by_cases c1 : a < 0 <;> by_cases c2 : b < 0 <;> simp [c1, c2] at hst <;> omega
  clear ba bb ha hb
  go_enter Tryd.func23, Tryd.ntmps23
  go_wp2_with fail
  refine Calls.mono (G1 _) ?_
  rintro e w1 ⟨rfl, hw⟩
  replace hw := hw.symm
  subst hw
  go_wp2_with fail
  refine Calls.mono (G2 _) ?_
  rintro e w2 ⟨rfl, hw⟩
  replace hw := hw.symm
  subst hw
  go_wp2_with fail
  go_ret2
  exact ⟨rfl, Upd.refl _ _⟩

theorem RefAdd_bad (w : World) (a b : Int) (h : (okNum a && okNum b) = false) :
    Calls Tryd.prog 23 #[.int .i64 a, .int .i64 b] w fun e w' => e = .returned (.tuple #[.int .i64 0, .int .i64 5]) ∧ Upd w w' (fun _ => False) := by
  have G1 := fun w => RefGood_any w a
  have G2 := fun w => RefGood_any w b
  generalize okNum a = x at *
  generalize okNum b = y at *
  cases x with
  | false =>
    go_enter Tryd.func23, Tryd.ntmps23
    go_wp2_with fail
    refine Calls.mono (G1 _) ?_
    rintro e w1 ⟨rfl, hw⟩
    replace hw := hw.symm
    subst hw
    go_wp2_with fail
    refine Calls.mono (G2 _) ?_
    rintro e w2 ⟨rfl, hw⟩
    replace hw := hw.symm
    subst hw
    go_wp2_with fail
    go_ret2
    exact ⟨rfl, Upd.refl _ _⟩
  | true =>
    obtain rfl : y = false := by simpa using h
    go_enter Tryd.func23, Tryd.ntmps23
    go_wp2_with fail
    refine Calls.mono (G1 _) ?_
    rintro e w1 ⟨rfl, hw⟩
    replace hw := hw.symm
    subst hw
    go_wp2_with fail
    refine Calls.mono (G2 _) ?_
    rintro e w2 ⟨rfl, hw⟩
    replace hw := hw.symm
    subst hw
    go_wp2_with fail
    go_ret2
    exact ⟨rfl, Upd.refl _ _⟩

theorem RefAdd_any (w : World) (a b : Int) : Calls Tryd.prog 23 #[.int .i64 a, .int .i64 b] w fun e w' => e = .returned (.tuple #[.int .i64 (addV a b), .int .i64 (addE a b)]) ∧ Upd w w' (fun _ => False) := by
  cases h : (okNum a && okNum b) with
  | false =>
    have e1 : addV a b = 0 := by unfold addV; rw [h]; rfl
    have e2 : addE a b = 5 := by unfold addE; rw [h]; rfl
    rw [e1, e2]
    exact RefAdd_bad w a b h
  | true =>
    have h' := h
    simp only [Bool.and_eq_true] at h'
    have ba := okNum_true h'.1
    have bb := okNum_true h'.2
    by_cases hst : decide (a < 0) = decide (b < 0)
    · have e1 : addV a b = numV (decide (a < 0)) (a.natAbs + b.natAbs) ∧ addE a b = numE (a.natAbs + b.natAbs) := by
        unfold addV addE numV numE
        rw [h, Bool.true_and]
        by_cases c1 : a < 0
        · have c2 : b < 0 := by simpa [c1] using hst
          by_cases hx : 9000000000000000000 < a.natAbs + b.natAbs
          · have e : okNum (a + b) = false := by simp [okNum]; omega
            simp [e, hx]
          · have e : okNum (a + b) = true := by simp [okNum]; omega
            simp [e, hx, c1]
            omega
        · have c2 : ¬ b < 0 := by simpa [c1] using hst
          by_cases hx : 9000000000000000000 < a.natAbs + b.natAbs
          · have e : okNum (a + b) = false := by simp [okNum]; omega
            simp [e, hx]
          · have e : okNum (a + b) = true := by simp [okNum]; omega
            simp [e, hx, c1]
            omega
      rw [e1.1, e1.2]
      exact RefAdd_same w a b h'.1 h'.2 _ rfl hst.symm
    · have hst' : (decide (a < 0) == decide (b < 0)) = false := by simpa using hst
      have e : okNum (a + b) = true := by
        by_cases c1 : a < 0 <;> by_cases c2 : b < 0 <;> simp [c1, c2] at hst <;> simp [okNum] <;> omega
      have e1 : addV a b = a + b := by unfold addV; rw [h, e]; rfl
      have e2 : addE a b = 0 := by unfold addE; rw [h, e]; rfl
      rw [e1, e2]
      exact RefAdd_diff w a b h'.1 h'.2 _ _ rfl rfl hst'

theorem RefSub_any (w : World) (a b : Int) : Calls Tryd.prog 24 #[.int .i64 a, .int .i64 b] w fun e w' => e = .returned (.tuple #[.int .i64 (addV a (-b)), .int .i64 (addE a (-b))]) ∧ Upd w w' (fun _ => False) := by
  have G2 := fun w => RefGood_any w b
  cases h : okNum b with
  | false =>
    have e0 : (okNum a && okNum (-b)) = false := by rw [okNum_neg, h]; simp
    have e1 : addV a (-b) = 0 := by unfold addV; rw [e0]; rfl
    have e2 : addE a (-b) = 5 := by unfold addE; rw [e0]; rfl
    rw [e1, e2]
    rw [h] at G2
    clear e0 e1 e2 h
    go_enter Tryd.func24, Tryd.ntmps24
    go_wp2_with fail
    refine Calls.mono (G2 _) ?_
    rintro e w2 ⟨rfl, hw⟩
    replace hw := hw.symm
    subst hw
    go_wp2_with fail
    go_ret2
    exact ⟨rfl, Upd.refl _ _⟩
  | true =>
    rw [h] at G2
    have bb := okNum_true h
    have w3 : IntKind.i64.wrap (-b) = -b := IntWalk.i64_in _ (by omega)
    have A := fun w => RefAdd_any w a (-b)
    generalize addV a (-b) = x at *
    generalize addE a (-b) = y at *
    clear h bb
    go_enter Tryd.func24, Tryd.ntmps24
    go_wp2_with fail
    refine Calls.mono (G2 _) ?_
    rintro e w2 ⟨rfl, hw⟩
    replace hw := hw.symm
    subst hw
    go_wp2_with fail
    refine Calls.mono (A _) ?_
    rintro e w3 ⟨rfl, u3⟩
    go_wp2_with fail
    go_ret2
    exact ⟨rfl, u3⟩
end Go.Proofs.YtckpomcenkgekaaDoor
