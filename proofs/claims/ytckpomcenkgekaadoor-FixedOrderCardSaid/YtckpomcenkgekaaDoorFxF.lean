/- The walks of ratio, and of the program's and the reference's products and quotients. -/
import Derived.Test.YtckpomcenkgekaaDoorDiv
import Derived.Test.YtckpomcenkgekaaDoorFxE
set_option maxRecDepth 100000
namespace Go.Proofs.YtckpomcenkgekaaDoor
open Go.RowKit Go.Lat

set_option maxHeartbeats 1600000 in
theorem ratio_any (w : World) (x y z : Nat) (s : Bool) (hx : x < 18446744073709551616) (hy : y < 18446744073709551616) (hz0 : 0 < z) (hz : z ≤ 9000000000000000000) :
    Calls Tryd.prog 35 #[.int .u64 x, .int .u64 y, .int .u64 z, .bool s] w fun e w' => e = .returned (.tuple #[.int .i64 (numV s (rnd (x * y) z)), .int .i64 (numE (rnd (x * y) z))]) ∧ Upd w w' (fun _ => False) := by
  have M : ∀ w, Calls Tryd.prog 52 #[.int .u64 x, .int .u64 y] w fun e w' => e = .returned (.tuple #[.int .u64 ((x * y / 18446744073709551616 : Nat) : Int), .int .u64 ((x * y % 18446744073709551616 : Nat) : Int)]) ∧ w' = w := fun w => Tryd.bits_Mul64 x y hx hy w
  obtain ⟨N, hN⟩ : ∃ N, x * y = N := ⟨_, rfl⟩
  rw [hN] at M ⊢
  clear hN
  obtain ⟨hi, hhi⟩ : ∃ hi, N / 18446744073709551616 = hi := ⟨_, rfl⟩
  obtain ⟨lo, hlo⟩ : ∃ lo, N % 18446744073709551616 = lo := ⟨_, rfl⟩
  rw [hhi, hlo] at M
  have eN : hi * 18446744073709551616 + lo = N := by omega
  have hlo2 : lo < 18446744073709551616 := by omega
  have D := fun w (h : hi < z) => Div64_any w hi lo z h hlo2 (by omega)
  rw [eN] at D
  have qd := Nat.div_add_mod N z
  have hr := Nat.mod_lt N hz0
  have hqb : hi < z → N / z < 18446744073709551616 := by
    intro h
    rw [Nat.div_lt_iff_lt_mul hz0]
    have := Nat.mul_le_mul_left 18446744073709551616 (show hi + 1 ≤ z by omega)
    omega
  unfold rnd
  obtain ⟨q, hq⟩ : ∃ q, N / z = q := ⟨_, rfl⟩
  obtain ⟨r, hre⟩ : ∃ r, N % z = r := ⟨_, rfl⟩
  have hbig : z ≤ hi → 9000000000000000000 < q := by
    intro h
    have : 18446744073709551616 ≤ N / z := by
      rw [Nat.le_div_iff_mul_le hz0]
      have := Nat.mul_le_mul_left 18446744073709551616 h
      omega
    omega
  rw [hq, hre] at D ⊢
  rw [hq] at hqb
  rw [hre] at hr
  clear hq hre qd eN hlo2 hhi hlo
  unfold numV numE
  by_cases c1 : z ≤ hi
  · have h9 : 9000000000000000000 < q + (if 2 * r < z then 0 else 1) := by have := hbig c1; omega
    rw [if_pos h9, if_pos h9]
    have d1 : decide (z ≤ hi) = true := by simpa using c1
    clear h9 c1 hbig hqb D hr hx hy hz0 hz
    go_enter Tryd.func35, Tryd.ntmps35
    go_wp2_with fail
    refine Calls.mono (M _) ?_
    rintro e w1 ⟨rfl, hw⟩
    replace hw := hw.symm
    subst hw
    go_wp2_with fail
    go_ret2
    exact ⟨rfl, Upd.refl _ _⟩
  · have d1 : decide (z ≤ hi) = false := by simpa using c1
    have DD := fun w => D w (by omega)
    have hq9 := hqb (by omega)
    clear D hbig hqb c1
    by_cases c2 : 9000000000000000000 < q
    · have h9 : 9000000000000000000 < q + (if 2 * r < z then 0 else 1) := by omega
      rw [if_pos h9, if_pos h9]
      have d2 : decide ((9000000000000000000 : Int) < (q : Int)) = true := by simp; omega
      have d3 : decide (9000000000000000000 < q) = true := by simp; omega
      clear h9 c2 hr hx hy hz0 hz hq9
      go_enter Tryd.func35, Tryd.ntmps35
      go_wp2_with fail
      refine Calls.mono (M _) ?_
      rintro e w1 ⟨rfl, hw⟩
      replace hw := hw.symm
      subst hw
      go_wp2_with fail
      refine Calls.mono (DD _) ?_
      rintro e w2 ⟨rfl, n, rfl⟩
      go_wp2_with fail
      go_ret2
      exact ⟨rfl, (Upd.refl _ _).drewN n⟩
    · have d2 : decide ((9000000000000000000 : Int) < (q : Int)) = false := by simp; omega
      have d3 : decide (9000000000000000000 < q) = false := by simp; omega
      obtain ⟨d, hd⟩ : ∃ d, z - r = d := ⟨_, rfl⟩
      have e1 : (z : Int) - (r : Int) = (d : Int) := by omega
      have e2 : IntKind.u64.wrap (d : Int) = (d : Int) := wrap_u64n d (by omega)
      by_cases c3 : 2 * r < z
      · rw [if_pos c3, Nat.add_zero]
        have d4 : decide (d ≤ r) = false := by simp; omega
        have hrz : q ≤ 9000000000000000000 := by omega
        clear hd c3 c2
        have hb : ¬ 9000000000000000000 < q := by omega
        rw [if_neg hb, if_neg hb]
        have w1 : IntKind.i64.wrap (q : Int) = (q : Int) := IntWalk.i64_in _ (by omega)
        have w2 : IntKind.i64.wrap (-(q : Int)) = -(q : Int) := IntWalk.i64_in _ (by omega)
        clear hb hq9 hr hrz hx hy hz0 hz
        cases s with
        | true =>
          simp only [if_true]
          go_enter Tryd.func35, Tryd.ntmps35
          go_wp2_with fail
          refine Calls.mono (M _) ?_
          rintro e w1 ⟨rfl, hw⟩
          replace hw := hw.symm
          subst hw
          go_wp2_with fail
          refine Calls.mono (DD _) ?_
          rintro e w2 ⟨rfl, n, rfl⟩
          go_wp2_with fail
          go_ret2
          exact ⟨rfl, (Upd.refl _ _).drewN n⟩
        | false =>
          simp only [Bool.false_eq_true, if_false]
          go_enter Tryd.func35, Tryd.ntmps35
          go_wp2_with fail
          refine Calls.mono (M _) ?_
          rintro e w1 ⟨rfl, hw⟩
          replace hw := hw.symm
          subst hw
          go_wp2_with fail
          refine Calls.mono (DD _) ?_
          rintro e w2 ⟨rfl, n, rfl⟩
          go_wp2_with fail
          go_ret2
          exact ⟨rfl, (Upd.refl _ _).drewN n⟩
      · rw [if_neg c3]
        have d4 : decide (d ≤ r) = true := by simp; omega
        have hrz : q ≤ 9000000000000000000 := by omega
        obtain ⟨k, hk⟩ : ∃ k, q + 1 = k := ⟨_, rfl⟩
        have e3 : (q : Int) + 1 = (k : Int) := by omega
        have e4 : IntKind.u64.wrap (k : Int) = (k : Int) := wrap_u64n k (by omega)
        rw [hk]
        clear hd c3 c2 hk
        by_cases hb : 9000000000000000000 < k
        · rw [if_pos hb, if_pos hb]
          have b1 : decide ((9000000000000000000 : Int) < (k : Int)) = true := by simp; omega
          have b2 : decide (9000000000000000000 < k) = true := by simp; omega
          clear hb hq9 hr hrz hx hy hz0 hz
          go_enter Tryd.func35, Tryd.ntmps35
          go_wp2_with fail
          refine Calls.mono (M _) ?_
          rintro e w1 ⟨rfl, hw⟩
          replace hw := hw.symm
          subst hw
          go_wp2_with fail
          refine Calls.mono (DD _) ?_
          rintro e w2 ⟨rfl, n, rfl⟩
          go_wp2_with fail
          go_ret2
          exact ⟨rfl, (Upd.refl _ _).drewN n⟩
        · rw [if_neg hb, if_neg hb]
          have b1 : decide ((9000000000000000000 : Int) < (k : Int)) = false := by simp; omega
          have b2 : decide (9000000000000000000 < k) = false := by simp; omega
          have w1 : IntKind.i64.wrap (k : Int) = (k : Int) := IntWalk.i64_in _ (by omega)
          have w2 : IntKind.i64.wrap (-(k : Int)) = -(k : Int) := IntWalk.i64_in _ (by omega)
          clear hb hq9 hr hrz hx hy hz0 hz
          cases s with
          | true =>
            simp only [if_true]
            go_enter Tryd.func35, Tryd.ntmps35
            go_wp2_with fail
            refine Calls.mono (M _) ?_
            rintro e w1 ⟨rfl, hw⟩
            replace hw := hw.symm
            subst hw
            go_wp2_with fail
            refine Calls.mono (DD _) ?_
            rintro e w2 ⟨rfl, n, rfl⟩
            go_wp2_with fail
            go_ret2
            exact ⟨rfl, (Upd.refl _ _).drewN n⟩
          | false =>
            simp only [Bool.false_eq_true, if_false]
            go_enter Tryd.func35, Tryd.ntmps35
            go_wp2_with fail
            refine Calls.mono (M _) ?_
            rintro e w1 ⟨rfl, hw⟩
            replace hw := hw.symm
            subst hw
            go_wp2_with fail
            refine Calls.mono (DD _) ?_
            rintro e w2 ⟨rfl, n, rfl⟩
            go_wp2_with fail
            go_ret2
            exact ⟨rfl, (Upd.refl _ _).drewN n⟩

theorem Mul_bad (w : World) (a b : Int) (h : (okNum a && okNum b) = false) : Calls Tryd.prog 9 #[.int .i64 a, .int .i64 b] w fun e w' => e = .returned (.tuple #[.int .i64 0, .int .i64 5]) ∧ Upd w w' (fun _ => False) := by
  have G := fun w B k1 k2 => fixgood2_any w B a b k1 k2
  rw [h] at G
  clear h
  go_enter Tryd.func9, Tryd.ntmps9
  go_wp2_with fail
  refine Calls.mono (G _ _ (cells2 (heap_alloc_new w _)).1 (cells2 (heap_alloc_new w _)).2) ?_
  rintro e w1 ⟨rfl, rfl⟩
  go_wp2_with fail
  go_ret2
  exact ⟨rfl, (Upd.refl w _).alloc _⟩

theorem Mul_in (w : World) (a b : Int) (ha : okNum a = true) (hb : okNum b = true) (sa sb : Bool) (x y : Nat) (ea : a = (if sa then -(x : Int) else (x : Int))) (eb : b = (if sb then -(y : Int) else (y : Int))) (h0 : sa = true → 0 < x) (k0 : sb = true → 0 < y) (hx : x ≤ 9000000000000000000) (hy : y ≤ 9000000000000000000) :
    Calls Tryd.prog 9 #[.int .i64 a, .int .i64 b] w fun e w' => e = .returned (.tuple #[.int .i64 (numV (sa != sb) (rnd (x * y) 10000)), .int .i64 (numE (rnd (x * y) 10000))]) ∧ Upd w w' (fun _ => False) := by
  have G := fun w B k1 k2 => fixgood2_any w B a b k1 k2
  rw [ha, hb] at G
  have S1 := fun w => size_any w sa x hx h0
  have S2 := fun w => size_any w sb y hy k0
  rw [← ea] at S1
  rw [← eb] at S2
  have R : ∀ w, Calls Tryd.prog 35 #[.int .u64 x, .int .u64 y, .int .u64 10000, .bool (sa != sb)] w fun e w' => e = .returned (.tuple #[.int .i64 (numV (sa != sb) (rnd (x * y) 10000)), .int .i64 (numE (rnd (x * y) 10000))]) ∧ Upd w w' (fun _ => False) := fun w => ratio_any w x y 10000 (sa != sb) (by omega) (by omega) (by omega) (by omega)
  generalize numV (sa != sb) (rnd (x * y) 10000) = V at *
  generalize numE (rnd (x * y) 10000) = E at *
  clear ea eb h0 k0 hx hy ha hb
  cases sa <;> cases sb
  all_goals go_enter Tryd.func9, Tryd.ntmps9
  all_goals go_wp2_with fail
  all_goals refine Calls.mono (G _ _ (cells2 (heap_alloc_new w _)).1 (cells2 (heap_alloc_new w _)).2) ?_
  all_goals rintro e w1 ⟨rfl, rfl⟩
  all_goals go_wp2_with fail
  all_goals refine Calls.mono (S1 _) ?_
  all_goals rintro e w2 ⟨rfl, rfl⟩
  all_goals go_wp2_with fail
  all_goals refine Calls.mono (S2 _) ?_
  all_goals rintro e w3 ⟨rfl, rfl⟩
  all_goals go_wp2_with fail
  all_goals refine Calls.mono (R _) ?_
  all_goals rintro e w4 ⟨rfl, u4⟩
  all_goals go_wp2_with fail
  all_goals go_ret2
  all_goals exact ⟨rfl, ((Upd.refl w _).alloc _).then u4 (fun _ _ => id)⟩

theorem Div_bad (w : World) (a b : Int) (h : (okNum a && okNum b) = false) : Calls Tryd.prog 11 #[.int .i64 a, .int .i64 b] w fun e w' => e = .returned (.tuple #[.int .i64 0, .int .i64 5]) ∧ Upd w w' (fun _ => False) := by
  have G := fun w B k1 k2 => fixgood2_any w B a b k1 k2
  rw [h] at G
  clear h
  go_enter Tryd.func11, Tryd.ntmps11
  go_wp2_with fail
  refine Calls.mono (G _ _ (cells2 (heap_alloc_new w _)).1 (cells2 (heap_alloc_new w _)).2) ?_
  rintro e w1 ⟨rfl, rfl⟩
  go_wp2_with fail
  go_ret2
  exact ⟨rfl, (Upd.refl w _).alloc _⟩

theorem Div_zero (w : World) (a : Int) (h : okNum a = true) : Calls Tryd.prog 11 #[.int .i64 a, .int .i64 0] w fun e w' => e = .returned (.tuple #[.int .i64 0, .int .i64 6]) ∧ Upd w w' (fun _ => False) := by
  have G := fun w B k1 k2 => fixgood2_any w B a 0 k1 k2
  rw [h, show okNum 0 = true from by decide] at G
  clear h
  go_enter Tryd.func11, Tryd.ntmps11
  go_wp2_with fail
  refine Calls.mono (G _ _ (cells2 (heap_alloc_new w _)).1 (cells2 (heap_alloc_new w _)).2) ?_
  rintro e w1 ⟨rfl, rfl⟩
  go_wp2_with fail
  go_ret2
  exact ⟨rfl, (Upd.refl w _).alloc _⟩

theorem Div_in (w : World) (a b : Int) (ha : okNum a = true) (hb : okNum b = true) (sa sb : Bool) (x y : Nat) (ea : a = (if sa then -(x : Int) else (x : Int))) (eb : b = (if sb then -(y : Int) else (y : Int))) (hyp : 0 < y) (h0 : sa = true → 0 < x) (k0 : sb = true → 0 < y) (hx : x ≤ 9000000000000000000) (hy : y ≤ 9000000000000000000) :
    Calls Tryd.prog 11 #[.int .i64 a, .int .i64 b] w fun e w' => e = .returned (.tuple #[.int .i64 (numV (sa != sb) (rnd (x * 10000) y)), .int .i64 (numE (rnd (x * 10000) y))]) ∧ Upd w w' (fun _ => False) := by
  have G := fun w B k1 k2 => fixgood2_any w B a b k1 k2
  rw [ha, hb] at G
  have S1 := fun w => size_any w sa x hx h0
  have S2 := fun w => size_any w sb y hy k0
  rw [← ea] at S1
  rw [← eb] at S2
  have R : ∀ w, Calls Tryd.prog 35 #[.int .u64 x, .int .u64 10000, .int .u64 y, .bool (sa != sb)] w fun e w' => e = .returned (.tuple #[.int .i64 (numV (sa != sb) (rnd (x * 10000) y)), .int .i64 (numE (rnd (x * 10000) y))]) ∧ Upd w w' (fun _ => False) := fun w => ratio_any w x 10000 y (sa != sb) (by omega) (by omega) (by omega) (by omega)
  generalize numV (sa != sb) (rnd (x * 10000) y) = V at *
  generalize numE (rnd (x * 10000) y) = E at *
  have hb0 : b ≠ 0 := by cases sb <;> simp at eb <;> omega
  have e0 : (b == 0) = false := by simpa using hb0
  clear hb0 hyp
  clear ea eb h0 k0 hx hy ha hb
  cases sa <;> cases sb
  all_goals go_enter Tryd.func11, Tryd.ntmps11
  all_goals go_wp2_with fail
  all_goals refine Calls.mono (G _ _ (cells2 (heap_alloc_new w _)).1 (cells2 (heap_alloc_new w _)).2) ?_
  all_goals rintro e w1 ⟨rfl, rfl⟩
  all_goals go_wp2_with fail
  all_goals refine Calls.mono (S1 _) ?_
  all_goals rintro e w2 ⟨rfl, rfl⟩
  all_goals go_wp2_with fail
  all_goals refine Calls.mono (S2 _) ?_
  all_goals rintro e w3 ⟨rfl, rfl⟩
  all_goals go_wp2_with fail
  all_goals refine Calls.mono (R _) ?_
  all_goals rintro e w4 ⟨rfl, u4⟩
  all_goals go_wp2_with fail
  all_goals go_ret2
  all_goals exact ⟨rfl, ((Upd.refl w _).alloc _).then u4 (fun _ _ => id)⟩

theorem RefMul_bad (w : World) (a b : Int) (h : (okNum a && okNum b) = false) : Calls Tryd.prog 10 #[.int .i64 a, .int .i64 b] w fun e w' => e = .returned (.tuple #[.int .i64 0, .int .i64 5]) ∧ Upd w w' (fun _ => False) := by
  have G1 := fun w => RefGood_any w a
  have G2 := fun w => RefGood_any w b
  generalize okNum a = x at *
  generalize okNum b = y at *
  cases x <;> cases y <;> simp at h
  all_goals go_enter Tryd.func10, Tryd.ntmps10
  all_goals go_wp2_with fail
  all_goals refine Calls.mono (G1 _) ?_
  all_goals rintro e w1 ⟨rfl, hw⟩
  all_goals replace hw := hw.symm
  all_goals subst hw
  all_goals go_wp2_with fail
  all_goals refine Calls.mono (G2 _) ?_
  all_goals rintro e w2 ⟨rfl, hw⟩
  all_goals replace hw := hw.symm
  all_goals subst hw
  all_goals go_wp2_with fail
  all_goals go_ret2
  all_goals exact ⟨rfl, Upd.refl _ _⟩

set_option maxHeartbeats 1600000 in
theorem RefMul_in (w : World) (a b : Int) (ha : okNum a = true) (hb : okNum b = true) (sa sb : Bool) (x y : Nat) (ea : a = (if sa then -(x : Int) else (x : Int))) (eb : b = (if sb then -(y : Int) else (y : Int))) (h1 : decide (a < 0) = sa) (h2 : decide (b < 0) = sb) (hx : x ≤ 9000000000000000000) (hy : y ≤ 9000000000000000000) :
    Calls Tryd.prog 10 #[.int .i64 a, .int .i64 b] w fun e w' => e = .returned (.tuple #[.int .i64 (numV (sa != sb) (rnd (x * y) 10000)), .int .i64 (numE (rnd (x * y) 10000))]) ∧ Upd w w' (fun _ => False) := by
  have G1 := fun w => RefGood_any w a
  have G2 := fun w => RefGood_any w b
  rw [ha] at G1
  rw [hb] at G2
  have D1 := fun w => Digits_any w sa x (by omega)
  have D2 := fun w => Digits_any w sb y (by omega)
  have D3 : ∀ w, Calls Tryd.prog 36 #[.int .i64 10000] w fun e w' => ∃ v, e = .returned v ∧ DgAt w' v (dg 10000) ∧ Upd w w' (fun _ => False) := fun w => Digits_nat w 10000 (by omega)
  rw [← ea] at D1
  rw [← eb] at D2
  have lx := dg_len x 20 (by omega)
  have ly := dg_len y 20 (by omega)
  have l4 := dg_len 10000 20 (by omega)
  have P := fun w v1 v2 k1 k2 => times1_any w v1 v2 (dg x) (dg y) k1 k2 (dg_norm _) (dg_norm _) (by omega) (by omega)
  simp only [val_dg] at P
  have hm : x * y < 10 ^ 50 := by
    have h3 := Nat.mul_le_mul hx hy
    have h4 : (9000000000000000000 * 9000000000000000000 : Nat) < 10 ^ 50 := by decide
    omega
  have h50 : (10 : Nat) ^ 50 < 10 ^ 100 := by decide
  have h20 : (9000000000000000000 : Nat) < 10 ^ 100 := by decide
  have NE := fun w v1 v2 k1 k2 => nearest_any w v1 v2 (x * y) 10000 k1 k2 (by omega) (by omega) (by omega)
  have hr : rnd (x * y) 10000 < 10 ^ 100 := by
    unfold rnd
    have := Nat.div_le_self (x * y) 10000
    split <;> omega
  have NU := fun w v k => Number_any w v (rnd (x * y) 10000) (sa != sb) k hr
  generalize numV (sa != sb) (rnd (x * y) 10000) = V at *
  generalize numE (rnd (x * y) 10000) = E at *
  clear hr hm h50 h20 lx ly l4 ea eb hx hy ha hb
  cases sa <;> cases sb
  all_goals go_enter Tryd.func10, Tryd.ntmps10
  all_goals go_wp2_with fail
  all_goals refine Calls.mono (G1 _) ?_
  all_goals rintro e w1 ⟨rfl, hw⟩
  all_goals replace hw := hw.symm
  all_goals subst hw
  all_goals go_wp2_with fail
  all_goals refine Calls.mono (G2 _) ?_
  all_goals rintro e w2 ⟨rfl, hw⟩
  all_goals replace hw := hw.symm
  all_goals subst hw
  all_goals go_wp2_with fail
  all_goals refine Calls.mono (D1 _) ?_
  all_goals rintro e w3 ⟨v3, rfl, q3, u3, -⟩
  all_goals go_wp2_with fail
  all_goals refine Calls.mono (D2 _) ?_
  all_goals rintro e w4 ⟨v4, rfl, q4, u4, -⟩
  all_goals go_wp2_with fail
  all_goals refine Calls.mono (P _ _ _ (q3.upd u4) q4) ?_
  all_goals rintro e w5 ⟨v5, rfl, q5, u5, -⟩
  all_goals go_wp2_with fail
  all_goals refine Calls.mono (D3 _) ?_
  all_goals rintro e w6 ⟨v6, rfl, q6, u6⟩
  all_goals go_wp2_with fail
  all_goals refine Calls.mono (NE _ _ _ (q5.upd u6) q6) ?_
  all_goals rintro e w7 ⟨v7, rfl, q7, u7⟩
  all_goals go_wp2_with fail
  all_goals refine Calls.mono (NU _ _ q7) ?_
  all_goals rintro e w8 ⟨rfl, u8⟩
  all_goals go_wp2_with fail
  all_goals go_ret2
  all_goals exact ⟨rfl, ((((u3.then u4 (fun _ _ => id)).then u5 (fun _ _ => id)).then u6 (fun _ _ => id)).then u7 (fun _ _ => id)).then u8 (fun _ _ => id)⟩

theorem RefDiv_bad (w : World) (a b : Int) (h : (okNum a && okNum b) = false) : Calls Tryd.prog 12 #[.int .i64 a, .int .i64 b] w fun e w' => e = .returned (.tuple #[.int .i64 0, .int .i64 5]) ∧ Upd w w' (fun _ => False) := by
  have G1 := fun w => RefGood_any w a
  have G2 := fun w => RefGood_any w b
  generalize okNum a = x at *
  generalize okNum b = y at *
  cases x <;> cases y <;> simp at h
  all_goals go_enter Tryd.func12, Tryd.ntmps12
  all_goals go_wp2_with fail
  all_goals refine Calls.mono (G1 _) ?_
  all_goals rintro e w1 ⟨rfl, hw⟩
  all_goals replace hw := hw.symm
  all_goals subst hw
  all_goals go_wp2_with fail
  all_goals refine Calls.mono (G2 _) ?_
  all_goals rintro e w2 ⟨rfl, hw⟩
  all_goals replace hw := hw.symm
  all_goals subst hw
  all_goals go_wp2_with fail
  all_goals go_ret2
  all_goals exact ⟨rfl, Upd.refl _ _⟩

theorem RefDiv_zero (w : World) (a : Int) (h : okNum a = true) : Calls Tryd.prog 12 #[.int .i64 a, .int .i64 0] w fun e w' => e = .returned (.tuple #[.int .i64 0, .int .i64 6]) ∧ Upd w w' (fun _ => False) := by
  have G1 := fun w => RefGood_any w a
  have G2 := fun w => RefGood_any w 0
  rw [h] at G1
  rw [show okNum 0 = true from by decide] at G2
  clear h
  go_enter Tryd.func12, Tryd.ntmps12
  go_wp2_with fail
  refine Calls.mono (G1 _) ?_
  rintro e w1 ⟨rfl, hw⟩
  replace hw := hw.symm
  subst hw
  go_wp2_with fail
  refine Calls.mono (G2 _) ?_
  rintro e w2 ⟨rfl, hw⟩
  replace hw := hw.symm
  subst hw
  go_wp2_with fail
  go_ret2
  exact ⟨rfl, Upd.refl _ _⟩

set_option maxHeartbeats 1600000 in
theorem RefDiv_in (w : World) (a b : Int) (ha : okNum a = true) (hb : okNum b = true) (sa sb : Bool) (x y : Nat) (ea : a = (if sa then -(x : Int) else (x : Int))) (eb : b = (if sb then -(y : Int) else (y : Int))) (hyp : 0 < y) (h1 : decide (a < 0) = sa) (h2 : decide (b < 0) = sb) (hx : x ≤ 9000000000000000000) (hy : y ≤ 9000000000000000000) :
    Calls Tryd.prog 12 #[.int .i64 a, .int .i64 b] w fun e w' => e = .returned (.tuple #[.int .i64 (numV (sa != sb) (rnd (x * 10000) y)), .int .i64 (numE (rnd (x * 10000) y))]) ∧ Upd w w' (fun _ => False) := by
  have G1 := fun w => RefGood_any w a
  have G2 := fun w => RefGood_any w b
  rw [ha] at G1
  rw [hb] at G2
  have D1 := fun w => Digits_any w sa x (by omega)
  have D2 := fun w => Digits_any w sb y (by omega)
  have D3 : ∀ w, Calls Tryd.prog 36 #[.int .i64 10000] w fun e w' => ∃ v, e = .returned v ∧ DgAt w' v (dg 10000) ∧ Upd w w' (fun _ => False) := fun w => Digits_nat w 10000 (by omega)
  rw [← ea] at D1
  rw [← eb] at D2
  have lx := dg_len x 20 (by omega)
  have ly := dg_len y 20 (by omega)
  have l4 := dg_len 10000 20 (by omega)
  have P := fun w v1 v2 k1 k2 => times1_any w v1 v2 (dg x) (dg 10000) k1 k2 (dg_norm _) (dg_norm _) (by omega) (by omega)
  simp only [val_dg] at P
  have hm : x * 10000 < 10 ^ 50 := by
    have h3 := Nat.mul_le_mul hx (show 10000 ≤ 9000000000000000000 by omega)
    have h4 : (9000000000000000000 * 9000000000000000000 : Nat) < 10 ^ 50 := by decide
    omega
  have h50 : (10 : Nat) ^ 50 < 10 ^ 100 := by decide
  have h20 : (9000000000000000000 : Nat) < 10 ^ 100 := by decide
  have NE := fun w v1 v2 k1 k2 => nearest_any w v1 v2 (x * 10000) y k1 k2 (by omega) (by omega) (by omega)
  have hr : rnd (x * 10000) y < 10 ^ 100 := by
    unfold rnd
    have := Nat.div_le_self (x * 10000) y
    split <;> omega
  have NU := fun w v k => Number_any w v (rnd (x * 10000) y) (sa != sb) k hr
  generalize numV (sa != sb) (rnd (x * 10000) y) = V at *
  generalize numE (rnd (x * 10000) y) = E at *
  have hb0 : b ≠ 0 := by cases sb <;> simp at eb <;> omega
  have e0 : (b == 0) = false := by simpa using hb0
  clear hb0 hyp
  clear hr hm h50 h20 lx ly l4 ea eb hx hy ha hb
  cases sa <;> cases sb
  all_goals go_enter Tryd.func12, Tryd.ntmps12
  all_goals go_wp2_with fail
  all_goals refine Calls.mono (G1 _) ?_
  all_goals rintro e w1 ⟨rfl, hw⟩
  all_goals replace hw := hw.symm
  all_goals subst hw
  all_goals go_wp2_with fail
  all_goals refine Calls.mono (G2 _) ?_
  all_goals rintro e w2 ⟨rfl, hw⟩
  all_goals replace hw := hw.symm
  all_goals subst hw
  all_goals go_wp2_with fail
  all_goals refine Calls.mono (D1 _) ?_
  all_goals rintro e w3 ⟨v3, rfl, q3, u3, -⟩
  all_goals go_wp2_with fail
  all_goals refine Calls.mono (D2 _) ?_
  all_goals rintro e w4 ⟨v4, rfl, q4, u4, -⟩
  all_goals go_wp2_with fail
  all_goals refine Calls.mono (D3 _) ?_
  all_goals rintro e w6 ⟨v6, rfl, q6, u6⟩
  all_goals go_wp2_with fail
  all_goals refine Calls.mono (P _ _ _ ((q3.upd u4).upd u6) q6) ?_
  all_goals rintro e w5 ⟨v5, rfl, q5, u5, -⟩
  all_goals go_wp2_with fail
  all_goals refine Calls.mono (NE _ _ _ q5 ((q4.upd u6).upd u5)) ?_
  all_goals rintro e w7 ⟨v7, rfl, q7, u7⟩
  all_goals go_wp2_with fail
  all_goals refine Calls.mono (NU _ _ q7) ?_
  all_goals rintro e w8 ⟨rfl, u8⟩
  all_goals go_wp2_with fail
  all_goals go_ret2
  all_goals exact ⟨rfl, ((((u3.then u4 (fun _ _ => id)).then u6 (fun _ _ => id)).then u5 (fun _ _ => id)).then u7 (fun _ _ => id)).then u8 (fun _ _ => id)⟩

theorem Mul_both (a b : Int) : ∃ V E : Int,
    (∀ w, Calls Tryd.prog 9 #[.int .i64 a, .int .i64 b] w fun e w' => e = .returned (.tuple #[.int .i64 V, .int .i64 E]) ∧ Upd w w' (fun _ => False)) ∧
    (∀ w, Calls Tryd.prog 10 #[.int .i64 a, .int .i64 b] w fun e w' => e = .returned (.tuple #[.int .i64 V, .int .i64 E]) ∧ Upd w w' (fun _ => False)) := by
  cases h : (okNum a && okNum b) with
  | false => exact ⟨0, 5, fun w => Mul_bad w a b h, fun w => RefMul_bad w a b h⟩
  | true =>
    simp only [Bool.and_eq_true] at h
    have ba := okNum_true h.1
    have bb := okNum_true h.2
    obtain ⟨s, x, ea, h0, hs, hx⟩ := signed a
    obtain ⟨t, y, eb, k0, ht, hy⟩ := signed b
    exact ⟨_, _, fun w => Mul_in w a b h.1 h.2 s t x y ea eb h0 k0 (by omega) (by omega), fun w => RefMul_in w a b h.1 h.2 s t x y ea eb hs ht (by omega) (by omega)⟩

theorem Div_both (a b : Int) : ∃ V E : Int,
    (∀ w, Calls Tryd.prog 11 #[.int .i64 a, .int .i64 b] w fun e w' => e = .returned (.tuple #[.int .i64 V, .int .i64 E]) ∧ Upd w w' (fun _ => False)) ∧
    (∀ w, Calls Tryd.prog 12 #[.int .i64 a, .int .i64 b] w fun e w' => e = .returned (.tuple #[.int .i64 V, .int .i64 E]) ∧ Upd w w' (fun _ => False)) := by
  cases h : (okNum a && okNum b) with
  | false => exact ⟨0, 5, fun w => Div_bad w a b h, fun w => RefDiv_bad w a b h⟩
  | true =>
    simp only [Bool.and_eq_true] at h
    have ba := okNum_true h.1
    have bb := okNum_true h.2
    by_cases hb0 : b = 0
    · subst hb0
      exact ⟨0, 6, fun w => Div_zero w a h.1, fun w => RefDiv_zero w a h.1⟩
    obtain ⟨s, x, ea, h0, hs, hx⟩ := signed a
    obtain ⟨t, y, eb, k0, ht, hy⟩ := signed b
    exact ⟨_, _, fun w => Div_in w a b h.1 h.2 s t x y ea eb (by omega) h0 k0 (by omega) (by omega), fun w => RefDiv_in w a b h.1 h.2 s t x y ea eb (by omega) hs ht (by omega) (by omega)⟩
end Go.Proofs.YtckpomcenkgekaaDoor
