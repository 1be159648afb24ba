/- The walks of ratio, and of the program's and the reference's products and quotients. -/
import Derived.Test.YtmfngdjhkpddoaaGreatDoorJ01
import Derived.Test.YtmfngdjhkpddoaaGreatDoorJ04
import Derived.Test.YtmfngdjhkpddoaaGreatDoorJ09
import Derived.Test.YtmfngdjhkpddoaaGreatDoorJ02
import Derived.DeepKeys
import Derived.Laws.Rows
/- The walks of ratio, and of the program's and the reference's products and quotients. -/
set_option maxRecDepth 100000
namespace Go.Proofs.YtmfngdjhkpddoaaGreatDoor
open Go.RowKit Go.Lat

set_option maxHeartbeats 1600000 in
theorem ratio_any (w : World) (x y z : Nat) (s : Bool) (hx : x < 18446744073709551616) (hy : y < 18446744073709551616) (hz0 : 0 < z) (hz : z ≤ 9000000000000000000) :
    Calls Tryz.prog 114 #[.int .u64 x, .int .u64 y, .int .u64 z, .bool s] w fun e w' => e = .returned (.tuple #[.int .i64 (numV s (rnd (x * y) z)), .int .i64 (numE (rnd (x * y) z))]) ∧ Upd w w' (fun _ => False) := by
  have M : ∀ w, Calls Tryz.prog 158 #[.int .u64 x, .int .u64 y] w fun e w' => e = .returned (.tuple #[.int .u64 ((x * y / 18446744073709551616 : Nat) : Int), .int .u64 ((x * y % 18446744073709551616 : Nat) : Int)]) ∧ w' = w := fun w => Tryz.bits_Mul64 x y hx hy w
  obtain ⟨N, hN⟩ : ∃ N, x * y = N := ⟨_, rfl⟩
  rw [hN] at M ⊢
  clear hN
  obtain ⟨hi, hhi⟩ : ∃ hi, N / 18446744073709551616 = hi := ⟨_, rfl⟩
  obtain ⟨lo, hlo⟩ : ∃ lo, N % 18446744073709551616 = lo := ⟨_, rfl⟩
  rw [hhi, hlo] at M
  have eN : hi * 18446744073709551616 + lo = N := by omega
  have hlo2 : lo < 18446744073709551616 := by omega
  have D := fun w (h : hi < z) => Div64_any w hi lo z h hlo2 (by omega)
  rw [eN] at D
  have qd := Nat.div_add_mod N z
  have hr := Nat.mod_lt N hz0
  have hqb : hi < z → N / z < 18446744073709551616 := by
    intro h
    rw [Nat.div_lt_iff_lt_mul hz0]
    have := Nat.mul_le_mul_left 18446744073709551616 (show hi + 1 ≤ z by omega)
    omega
  unfold rnd
  obtain ⟨q, hq⟩ : ∃ q, N / z = q := ⟨_, rfl⟩
  obtain ⟨r, hre⟩ : ∃ r, N % z = r := ⟨_, rfl⟩
  have hbig : z ≤ hi → 9000000000000000000 < q := by
    intro h
    have : 18446744073709551616 ≤ N / z := by
      rw [Nat.le_div_iff_mul_le hz0]
      have := Nat.mul_le_mul_left 18446744073709551616 h
      omega
    omega
  rw [hq, hre] at D ⊢
  rw [hq] at hqb
  rw [hre] at hr
  clear hq hre qd eN hlo2 hhi hlo
  unfold numV numE
  by_cases c1 : z ≤ hi
  · have h9 : 9000000000000000000 < q + (if 2 * r < z then 0 else 1) := by have := hbig c1; omega
    rw [if_pos h9, if_pos h9]
    have d1 : decide (z ≤ hi) = true := by simpa using c1
    clear h9 c1 hbig hqb D hr hx hy hz0 hz
    go_enter Tryz.func114, Tryz.ntmps114
    go_wp2_with fail
    refine Calls.mono (M _) ?_
    rintro e w1 ⟨rfl, hw⟩
    replace hw := hw.symm
    subst hw
    go_wp2_with fail
    go_ret2
    exact ⟨rfl, Upd.refl _ _⟩
  · have d1 : decide (z ≤ hi) = false := by simpa using c1
    have DD := fun w => D w (by omega)
    have hq9 := hqb (by omega)
    clear D hbig hqb c1
    by_cases c2 : 9000000000000000000 < q
    · have h9 : 9000000000000000000 < q + (if 2 * r < z then 0 else 1) := by omega
      rw [if_pos h9, if_pos h9]
      have d2 : decide ((9000000000000000000 : Int) < (q : Int)) = true := by simp; omega
      have d3 : decide (9000000000000000000 < q) = true := by simp; omega
      clear h9 c2 hr hx hy hz0 hz hq9
      go_enter Tryz.func114, Tryz.ntmps114
      go_wp2_with fail
      refine Calls.mono (M _) ?_
      rintro e w1 ⟨rfl, hw⟩
      replace hw := hw.symm
      subst hw
      go_wp2_with fail
      refine Calls.mono (DD _) ?_
      rintro e w2 ⟨rfl, n, rfl⟩
      go_wp2_with fail
      go_ret2
      exact ⟨rfl, (Upd.refl _ _).drewN n⟩
    · have d2 : decide ((9000000000000000000 : Int) < (q : Int)) = false := by simp; omega
      have d3 : decide (9000000000000000000 < q) = false := by simp; omega
      obtain ⟨d, hd⟩ : ∃ d, z - r = d := ⟨_, rfl⟩
      have e1 : (z : Int) - (r : Int) = (d : Int) := by omega
      have e2 : IntKind.u64.wrap (d : Int) = (d : Int) := wrap_u64n d (by omega)
      by_cases c3 : 2 * r < z
      · rw [if_pos c3, Nat.add_zero]
        have d4 : decide (d ≤ r) = false := by simp; omega
        have hrz : q ≤ 9000000000000000000 := by omega
        clear hd c3 c2
        have hb : ¬ 9000000000000000000 < q := by omega
        rw [if_neg hb, if_neg hb]
        have w1 : IntKind.i64.wrap (q : Int) = (q : Int) := IntWalk.i64_in _ (by omega)
        have w2 : IntKind.i64.wrap (-(q : Int)) = -(q : Int) := IntWalk.i64_in _ (by omega)
        clear hb hq9 hr hrz hx hy hz0 hz
        cases s with
        | true =>
          simp only [if_true]
          go_enter Tryz.func114, Tryz.ntmps114
          go_wp2_with fail
          refine Calls.mono (M _) ?_
          rintro e w1 ⟨rfl, hw⟩
          replace hw := hw.symm
          subst hw
          go_wp2_with fail
          refine Calls.mono (DD _) ?_
          rintro e w2 ⟨rfl, n, rfl⟩
          go_wp2_with fail
          go_ret2
          exact ⟨rfl, (Upd.refl _ _).drewN n⟩
        | false =>
          simp only [Bool.false_eq_true, if_false]
          go_enter Tryz.func114, Tryz.ntmps114
          go_wp2_with fail
          refine Calls.mono (M _) ?_
          rintro e w1 ⟨rfl, hw⟩
          replace hw := hw.symm
          subst hw
          go_wp2_with fail
          refine Calls.mono (DD _) ?_
          rintro e w2 ⟨rfl, n, rfl⟩
          go_wp2_with fail
          go_ret2
          exact ⟨rfl, (Upd.refl _ _).drewN n⟩
      · rw [if_neg c3]
        have d4 : decide (d ≤ r) = true := by simp; omega
        have hrz : q ≤ 9000000000000000000 := by omega
        obtain ⟨k, hk⟩ : ∃ k, q + 1 = k := ⟨_, rfl⟩
        have e3 : (q : Int) + 1 = (k : Int) := by omega
        have e4 : IntKind.u64.wrap (k : Int) = (k : Int) := wrap_u64n k (by omega)
        rw [hk]
        clear hd c3 c2 hk
        by_cases hb : 9000000000000000000 < k
        · rw [if_pos hb, if_pos hb]
          have b1 : decide ((9000000000000000000 : Int) < (k : Int)) = true := by simp; omega
          have b2 : decide (9000000000000000000 < k) = true := by simp; omega
          clear hb hq9 hr hrz hx hy hz0 hz
          go_enter Tryz.func114, Tryz.ntmps114
          go_wp2_with fail
          refine Calls.mono (M _) ?_
          rintro e w1 ⟨rfl, hw⟩
          replace hw := hw.symm
          subst hw
          go_wp2_with fail
          refine Calls.mono (DD _) ?_
          rintro e w2 ⟨rfl, n, rfl⟩
          go_wp2_with fail
          go_ret2
          exact ⟨rfl, (Upd.refl _ _).drewN n⟩
        · rw [if_neg hb, if_neg hb]
          have b1 : decide ((9000000000000000000 : Int) < (k : Int)) = false := by simp; omega
          have b2 : decide (9000000000000000000 < k) = false := by simp; omega
          have w1 : IntKind.i64.wrap (k : Int) = (k : Int) := IntWalk.i64_in _ (by omega)
          have w2 : IntKind.i64.wrap (-(k : Int)) = -(k : Int) := IntWalk.i64_in _ (by omega)
          clear hb hq9 hr hrz hx hy hz0 hz
          cases s with
          | true =>
            simp only [if_true]
            go_enter Tryz.func114, Tryz.ntmps114
            go_wp2_with fail
            refine Calls.mono (M _) ?_
            rintro e w1 ⟨rfl, hw⟩
            replace hw := hw.symm
            subst hw
            go_wp2_with fail
            refine Calls.mono (DD _) ?_
            rintro e w2 ⟨rfl, n, rfl⟩
            go_wp2_with fail
            go_ret2
            exact ⟨rfl, (Upd.refl _ _).drewN n⟩
          | false =>
            simp only [Bool.false_eq_true, if_false]
            go_enter Tryz.func114, Tryz.ntmps114
            go_wp2_with fail
            refine Calls.mono (M _) ?_
            rintro e w1 ⟨rfl, hw⟩
            replace hw := hw.symm
            subst hw
            go_wp2_with fail
            refine Calls.mono (DD _) ?_
            rintro e w2 ⟨rfl, n, rfl⟩
            go_wp2_with fail
            go_ret2
            exact ⟨rfl, (Upd.refl _ _).drewN n⟩

theorem Mul_bad (w : World) (a b : Int) (h : (okNum a && okNum b) = false) : Calls Tryz.prog 86 #[.int .i64 a, .int .i64 b] w fun e w' => e = .returned (.tuple #[.int .i64 0, .int .i64 5]) ∧ Upd w w' (fun _ => False) := by
  have G := fun w B k1 k2 => fixgood2_any w B a b k1 k2
  rw [h] at G
  clear h
  go_enter Tryz.func86, Tryz.ntmps86
  go_wp2_with fail
  refine Calls.mono (G _ _ (cells2 (heap_alloc_new w _)).1 (cells2 (heap_alloc_new w _)).2) ?_
  rintro e w1 ⟨rfl, rfl⟩
  go_wp2_with fail
  go_ret2
  exact ⟨rfl, (Upd.refl w _).alloc _⟩

theorem Mul_in (w : World) (a b : Int) (ha : okNum a = true) (hb : okNum b = true) (sa sb : Bool) (x y : Nat) (ea : a = (if sa then -(x : Int) else (x : Int))) (eb : b = (if sb then -(y : Int) else (y : Int))) (h0 : sa = true → 0 < x) (k0 : sb = true → 0 < y) (hx : x ≤ 9000000000000000000) (hy : y ≤ 9000000000000000000) :
    Calls Tryz.prog 86 #[.int .i64 a, .int .i64 b] w fun e w' => e = .returned (.tuple #[.int .i64 (numV (sa != sb) (rnd (x * y) 10000)), .int .i64 (numE (rnd (x * y) 10000))]) ∧ Upd w w' (fun _ => False) := by
  have G := fun w B k1 k2 => fixgood2_any w B a b k1 k2
  rw [ha, hb] at G
  have S1 := fun w => size_any w sa x hx h0
  have S2 := fun w => size_any w sb y hy k0
  rw [← ea] at S1
  rw [← eb] at S2
  have R : ∀ w, Calls Tryz.prog 114 #[.int .u64 x, .int .u64 y, .int .u64 10000, .bool (sa != sb)] w fun e w' => e = .returned (.tuple #[.int .i64 (numV (sa != sb) (rnd (x * y) 10000)), .int .i64 (numE (rnd (x * y) 10000))]) ∧ Upd w w' (fun _ => False) := fun w => ratio_any w x y 10000 (sa != sb) (by omega) (by omega) (by omega) (by omega)
  generalize numV (sa != sb) (rnd (x * y) 10000) = V at *
  generalize numE (rnd (x * y) 10000) = E at *
  clear ea eb h0 k0 hx hy ha hb
  cases sa <;> cases sb
  all_goals go_enter Tryz.func86, Tryz.ntmps86
  all_goals go_wp2_with fail
  all_goals refine Calls.mono (G _ _ (cells2 (heap_alloc_new w _)).1 (cells2 (heap_alloc_new w _)).2) ?_
  all_goals rintro e w1 ⟨rfl, rfl⟩
  all_goals go_wp2_with fail
  all_goals refine Calls.mono (S1 _) ?_
  all_goals rintro e w2 ⟨rfl, rfl⟩
  all_goals go_wp2_with fail
  all_goals refine Calls.mono (S2 _) ?_
  all_goals rintro e w3 ⟨rfl, rfl⟩
  all_goals go_wp2_with fail
  all_goals refine Calls.mono (R _) ?_
  all_goals rintro e w4 ⟨rfl, u4⟩
  all_goals go_wp2_with fail
  all_goals go_ret2
  all_goals exact ⟨rfl, ((Upd.refl w _).alloc _).then u4 (fun _ _ => id)⟩

theorem Div_bad (w : World) (a b : Int) (h : (okNum a && okNum b) = false) : Calls Tryz.prog 60 #[.int .i64 a, .int .i64 b] w fun e w' => e = .returned (.tuple #[.int .i64 0, .int .i64 5]) ∧ Upd w w' (fun _ => False) := by
  have G := fun w B k1 k2 => fixgood2_any w B a b k1 k2
  rw [h] at G
  clear h
  go_enter Tryz.func60, Tryz.ntmps60
  go_wp2_with fail
  refine Calls.mono (G _ _ (cells2 (heap_alloc_new w _)).1 (cells2 (heap_alloc_new w _)).2) ?_
  rintro e w1 ⟨rfl, rfl⟩
  go_wp2_with fail
  go_ret2
  exact ⟨rfl, (Upd.refl w _).alloc _⟩

theorem Div_zero (w : World) (a : Int) (h : okNum a = true) : Calls Tryz.prog 60 #[.int .i64 a, .int .i64 0] w fun e w' => e = .returned (.tuple #[.int .i64 0, .int .i64 6]) ∧ Upd w w' (fun _ => False) := by
  have G := fun w B k1 k2 => fixgood2_any w B a 0 k1 k2
  rw [h, show okNum 0 = true from by decide] at G
  clear h
  go_enter Tryz.func60, Tryz.ntmps60
  go_wp2_with fail
  refine Calls.mono (G _ _ (cells2 (heap_alloc_new w _)).1 (cells2 (heap_alloc_new w _)).2) ?_
  rintro e w1 ⟨rfl, rfl⟩
  go_wp2_with fail
  go_ret2
  exact ⟨rfl, (Upd.refl w _).alloc _⟩

theorem Div_in (w : World) (a b : Int) (ha : okNum a = true) (hb : okNum b = true) (sa sb : Bool) (x y : Nat) (ea : a = (if sa then -(x : Int) else (x : Int))) (eb : b = (if sb then -(y : Int) else (y : Int))) (hyp : 0 < y) (h0 : sa = true → 0 < x) (k0 : sb = true → 0 < y) (hx : x ≤ 9000000000000000000) (hy : y ≤ 9000000000000000000) :
    Calls Tryz.prog 60 #[.int .i64 a, .int .i64 b] w fun e w' => e = .returned (.tuple #[.int .i64 (numV (sa != sb) (rnd (x * 10000) y)), .int .i64 (numE (rnd (x * 10000) y))]) ∧ Upd w w' (fun _ => False) := by
  have G := fun w B k1 k2 => fixgood2_any w B a b k1 k2
  rw [ha, hb] at G
  have S1 := fun w => size_any w sa x hx h0
  have S2 := fun w => size_any w sb y hy k0
  rw [← ea] at S1
  rw [← eb] at S2
  have R : ∀ w, Calls Tryz.prog 114 #[.int .u64 x, .int .u64 10000, .int .u64 y, .bool (sa != sb)] w fun e w' => e = .returned (.tuple #[.int .i64 (numV (sa != sb) (rnd (x * 10000) y)), .int .i64 (numE (rnd (x * 10000) y))]) ∧ Upd w w' (fun _ => False) := fun w => ratio_any w x 10000 y (sa != sb) (by omega) (by omega) (by omega) (by omega)
  generalize numV (sa != sb) (rnd (x * 10000) y) = V at *
  generalize numE (rnd (x * 10000) y) = E at *
  have hb0 : b ≠ 0 := by cases sb <;> simp at eb <;> omega
  have e0 : (b == 0) = false := by simpa using hb0
  clear hb0 hyp
  clear ea eb h0 k0 hx hy ha hb
  cases sa <;> cases sb
  all_goals go_enter Tryz.func60, Tryz.ntmps60
  all_goals go_wp2_with fail
  all_goals refine Calls.mono (G _ _ (cells2 (heap_alloc_new w _)).1 (cells2 (heap_alloc_new w _)).2) ?_
  all_goals rintro e w1 ⟨rfl, rfl⟩
  all_goals go_wp2_with fail
  all_goals refine Calls.mono (S1 _) ?_
  all_goals rintro e w2 ⟨rfl, rfl⟩
  all_goals go_wp2_with fail
  all_goals refine Calls.mono (S2 _) ?_
  all_goals rintro e w3 ⟨rfl, rfl⟩
  all_goals go_wp2_with fail
  all_goals refine Calls.mono (R _) ?_
  all_goals rintro e w4 ⟨rfl, u4⟩
  all_goals go_wp2_with fail
  all_goals go_ret2
  all_goals exact ⟨rfl, ((Upd.refl w _).alloc _).then u4 (fun _ _ => id)⟩

theorem RefMul_bad (w : World) (a b : Int) (h : (okNum a && okNum b) = false) : Calls Tryz.prog 50 #[.int .i64 a, .int .i64 b] w fun e w' => e = .returned (.tuple #[.int .i64 0, .int .i64 5]) ∧ Upd w w' (fun _ => False) := by
  have G1 := fun w => RefGood_any w a
  have G2 := fun w => RefGood_any w b
  generalize okNum a = x at *
  generalize okNum b = y at *
  cases x <;> cases y <;> simp at h
  all_goals go_enter Tryz.func50, Tryz.ntmps50
  all_goals go_wp2_with fail
  all_goals refine Calls.mono (G1 _) ?_
  all_goals rintro e w1 ⟨rfl, hw⟩
  all_goals replace hw := hw.symm
  all_goals subst hw
  all_goals go_wp2_with fail
  all_goals refine Calls.mono (G2 _) ?_
  all_goals rintro e w2 ⟨rfl, hw⟩
  all_goals replace hw := hw.symm
  all_goals subst hw
  all_goals go_wp2_with fail
  all_goals go_ret2
  all_goals exact ⟨rfl, Upd.refl _ _⟩

set_option maxHeartbeats 1600000 in
theorem RefMul_in (w : World) (a b : Int) (ha : okNum a = true) (hb : okNum b = true) (sa sb : Bool) (x y : Nat) (ea : a = (if sa then -(x : Int) else (x : Int))) (eb : b = (if sb then -(y : Int) else (y : Int))) (h1 : decide (a < 0) = sa) (h2 : decide (b < 0) = sb) (hx : x ≤ 9000000000000000000) (hy : y ≤ 9000000000000000000) :
    Calls Tryz.prog 50 #[.int .i64 a, .int .i64 b] w fun e w' => e = .returned (.tuple #[.int .i64 (numV (sa != sb) (rnd (x * y) 10000)), .int .i64 (numE (rnd (x * y) 10000))]) ∧ Upd w w' (fun _ => False) := by
  have G1 := fun w => RefGood_any w a
  have G2 := fun w => RefGood_any w b
  rw [ha] at G1
  rw [hb] at G2
  have D1 := fun w => Digits_any w sa x (by omega)
  have D2 := fun w => Digits_any w sb y (by omega)
  have D3 : ∀ w, Calls Tryz.prog 96 #[.int .i64 10000] w fun e w' => ∃ v, e = .returned v ∧ DgAt w' v (dg 10000) ∧ Upd w w' (fun _ => False) := fun w => Digits_nat w 10000 (by omega)
  rw [← ea] at D1
  rw [← eb] at D2
  have lx := dg_len x 20 (by omega)
  have ly := dg_len y 20 (by omega)
  have l4 := dg_len 10000 20 (by omega)
  have P := fun w v1 v2 k1 k2 => times1_any w v1 v2 (dg x) (dg y) k1 k2 (dg_norm _) (dg_norm _) (by omega) (by omega)
  simp only [val_dg] at P
  have hm : x * y < 10 ^ 50 := by
    have h3 := Nat.mul_le_mul hx hy
    have h4 : (9000000000000000000 * 9000000000000000000 : Nat) < 10 ^ 50 := by decide
    omega
  have h50 : (10 : Nat) ^ 50 < 10 ^ 100 := by decide
  have h20 : (9000000000000000000 : Nat) < 10 ^ 100 := by decide
  have NE := fun w v1 v2 k1 k2 => nearest_any w v1 v2 (x * y) 10000 k1 k2 (by omega) (by omega) (by omega)
  have hr : rnd (x * y) 10000 < 10 ^ 100 := by
    unfold rnd
    have := Nat.div_le_self (x * y) 10000
    split <;> omega
  have NU := fun w v k => Number_any w v (rnd (x * y) 10000) (sa != sb) k hr
  generalize numV (sa != sb) (rnd (x * y) 10000) = V at *
  generalize numE (rnd (x * y) 10000) = E at *
  clear hr hm h50 h20 lx ly l4 ea eb hx hy ha hb
  cases sa <;> cases sb
  all_goals go_enter Tryz.func50, Tryz.ntmps50
  all_goals go_wp2_with fail
  all_goals refine Calls.mono (G1 _) ?_
  all_goals rintro e w1 ⟨rfl, hw⟩
  all_goals replace hw := hw.symm
  all_goals subst hw
  all_goals go_wp2_with fail
  all_goals refine Calls.mono (G2 _) ?_
  all_goals rintro e w2 ⟨rfl, hw⟩
  all_goals replace hw := hw.symm
  all_goals subst hw
  all_goals go_wp2_with fail
  all_goals refine Calls.mono (D1 _) ?_
  all_goals rintro e w3 ⟨v3, rfl, q3, u3, -⟩
  all_goals go_wp2_with fail
  all_goals refine Calls.mono (D2 _) ?_
  all_goals rintro e w4 ⟨v4, rfl, q4, u4, -⟩
  all_goals go_wp2_with fail
  all_goals refine Calls.mono (P _ _ _ (q3.upd u4) q4) ?_
  all_goals rintro e w5 ⟨v5, rfl, q5, u5, -⟩
  all_goals go_wp2_with fail
  all_goals refine Calls.mono (D3 _) ?_
  all_goals rintro e w6 ⟨v6, rfl, q6, u6⟩
  all_goals go_wp2_with fail
  all_goals refine Calls.mono (NE _ _ _ (q5.upd u6) q6) ?_
  all_goals rintro e w7 ⟨v7, rfl, q7, u7⟩
  all_goals go_wp2_with fail
  all_goals refine Calls.mono (NU _ _ q7) ?_
  all_goals rintro e w8 ⟨rfl, u8⟩
  all_goals go_wp2_with fail
  all_goals go_ret2
  all_goals exact ⟨rfl, ((((u3.then u4 (fun _ _ => id)).then u5 (fun _ _ => id)).then u6 (fun _ _ => id)).then u7 (fun _ _ => id)).then u8 (fun _ _ => id)⟩

theorem RefDiv_bad (w : World) (a b : Int) (h : (okNum a && okNum b) = false) : Calls Tryz.prog 51 #[.int .i64 a, .int .i64 b] w fun e w' => e = .returned (.tuple #[.int .i64 0, .int .i64 5]) ∧ Upd w w' (fun _ => False) := by
  have G1 := fun w => RefGood_any w a
  have G2 := fun w => RefGood_any w b
  generalize okNum a = x at *
  generalize okNum b = y at *
  cases x <;> cases y <;> simp at h
  all_goals go_enter Tryz.func51, Tryz.ntmps51
  all_goals go_wp2_with fail
  all_goals refine Calls.mono (G1 _) ?_
  all_goals rintro e w1 ⟨rfl, hw⟩
  all_goals replace hw := hw.symm
  all_goals subst hw
  all_goals go_wp2_with fail
  all_goals refine Calls.mono (G2 _) ?_
  all_goals rintro e w2 ⟨rfl, hw⟩
  all_goals replace hw := hw.symm
  all_goals subst hw
  all_goals go_wp2_with fail
  all_goals go_ret2
  all_goals exact ⟨rfl, Upd.refl _ _⟩

theorem RefDiv_zero (w : World) (a : Int) (h : okNum a = true) : Calls Tryz.prog 51 #[.int .i64 a, .int .i64 0] w fun e w' => e = .returned (.tuple #[.int .i64 0, .int .i64 6]) ∧ Upd w w' (fun _ => False) := by
  have G1 := fun w => RefGood_any w a
  have G2 := fun w => RefGood_any w 0
  rw [h] at G1
  rw [show okNum 0 = true from by decide] at G2
  clear h
  go_enter Tryz.func51, Tryz.ntmps51
  go_wp2_with fail
  refine Calls.mono (G1 _) ?_
  rintro e w1 ⟨rfl, hw⟩
  replace hw := hw.symm
  subst hw
  go_wp2_with fail
  refine Calls.mono (G2 _) ?_
  rintro e w2 ⟨rfl, hw⟩
  replace hw := hw.symm
  subst hw
  go_wp2_with fail
  go_ret2
  exact ⟨rfl, Upd.refl _ _⟩

set_option maxHeartbeats 1600000 in
theorem RefDiv_in (w : World) (a b : Int) (ha : okNum a = true) (hb : okNum b = true) (sa sb : Bool) (x y : Nat) (ea : a = (if sa then -(x : Int) else (x : Int))) (eb : b = (if sb then -(y : Int) else (y : Int))) (hyp : 0 < y) (h1 : decide (a < 0) = sa) (h2 : decide (b < 0) = sb) (hx : x ≤ 9000000000000000000) (hy : y ≤ 9000000000000000000) :
    Calls Tryz.prog 51 #[.int .i64 a, .int .i64 b] w fun e w' => e = .returned (.tuple #[.int .i64 (numV (sa != sb) (rnd (x * 10000) y)), .int .i64 (numE (rnd (x * 10000) y))]) ∧ Upd w w' (fun _ => False) := by
  have G1 := fun w => RefGood_any w a
  have G2 := fun w => RefGood_any w b
  rw [ha] at G1
  rw [hb] at G2
  have D1 := fun w => Digits_any w sa x (by omega)
  have D2 := fun w => Digits_any w sb y (by omega)
  have D3 : ∀ w, Calls Tryz.prog 96 #[.int .i64 10000] w fun e w' => ∃ v, e = .returned v ∧ DgAt w' v (dg 10000) ∧ Upd w w' (fun _ => False) := fun w => Digits_nat w 10000 (by omega)
  rw [← ea] at D1
  rw [← eb] at D2
  have lx := dg_len x 20 (by omega)
  have ly := dg_len y 20 (by omega)
  have l4 := dg_len 10000 20 (by omega)
  have P := fun w v1 v2 k1 k2 => times1_any w v1 v2 (dg x) (dg 10000) k1 k2 (dg_norm _) (dg_norm _) (by omega) (by omega)
  simp only [val_dg] at P
  have hm : x * 10000 < 10 ^ 50 := by
    have h3 := Nat.mul_le_mul hx (show 10000 ≤ 9000000000000000000 by omega)
    have h4 : (9000000000000000000 * 9000000000000000000 : Nat) < 10 ^ 50 := by decide
    omega
  have h50 : (10 : Nat) ^ 50 < 10 ^ 100 := by decide
  have h20 : (9000000000000000000 : Nat) < 10 ^ 100 := by decide
  have NE := fun w v1 v2 k1 k2 => nearest_any w v1 v2 (x * 10000) y k1 k2 (by omega) (by omega) (by omega)
  have hr : rnd (x * 10000) y < 10 ^ 100 := by
    unfold rnd
    have := Nat.div_le_self (x * 10000) y
    split <;> omega
  have NU := fun w v k => Number_any w v (rnd (x * 10000) y) (sa != sb) k hr
  generalize numV (sa != sb) (rnd (x * 10000) y) = V at *
  generalize numE (rnd (x * 10000) y) = E at *
  have hb0 : b ≠ 0 := by cases sb <;> simp at eb <;> omega
  have e0 : (b == 0) = false := by simpa using hb0
  clear hb0 hyp
  clear hr hm h50 h20 lx ly l4 ea eb hx hy ha hb
  cases sa <;> cases sb
  all_goals go_enter Tryz.func51, Tryz.ntmps51
  all_goals go_wp2_with fail
  all_goals refine Calls.mono (G1 _) ?_
  all_goals rintro e w1 ⟨rfl, hw⟩
  all_goals replace hw := hw.symm
  all_goals subst hw
  all_goals go_wp2_with fail
  all_goals refine Calls.mono (G2 _) ?_
  all_goals rintro e w2 ⟨rfl, hw⟩
  all_goals replace hw := hw.symm
  all_goals subst hw
  all_goals go_wp2_with fail
  all_goals refine Calls.mono (D1 _) ?_
  all_goals rintro e w3 ⟨v3, rfl, q3, u3, -⟩
  all_goals go_wp2_with fail
  all_goals refine Calls.mono (D2 _) ?_
  all_goals rintro e w4 ⟨v4, rfl, q4, u4, -⟩
  all_goals go_wp2_with fail
  all_goals refine Calls.mono (D3 _) ?_
  all_goals rintro e w6 ⟨v6, rfl, q6, u6⟩
  all_goals go_wp2_with fail
  all_goals refine Calls.mono (P _ _ _ ((q3.upd u4).upd u6) q6) ?_
  all_goals rintro e w5 ⟨v5, rfl, q5, u5, -⟩
  all_goals go_wp2_with fail
  all_goals refine Calls.mono (NE _ _ _ q5 ((q4.upd u6).upd u5)) ?_
  all_goals rintro e w7 ⟨v7, rfl, q7, u7⟩
  all_goals go_wp2_with fail
  all_goals refine Calls.mono (NU _ _ q7) ?_
  all_goals rintro e w8 ⟨rfl, u8⟩
  all_goals go_wp2_with fail
  all_goals go_ret2
  all_goals exact ⟨rfl, ((((u3.then u4 (fun _ _ => id)).then u6 (fun _ _ => id)).then u5 (fun _ _ => id)).then u7 (fun _ _ => id)).then u8 (fun _ _ => id)⟩

end Go.Proofs.YtmfngdjhkpddoaaGreatDoor
/- A value: its cells, '==' of two; the walks of package value's constructors. -/
set_option maxRecDepth 100000
namespace Go.Proofs.YtmfngdjhkpddoaaGreatDoor
open Go.RowKit Go.Lat

theorem Vnew1 (w : World) (A : Obj) : (w.alloc A).heap[w.heap.size]? = some A := heap_alloc_new w A
theorem Vnew2 (w : World) (A B : Obj) : ((w.alloc A).alloc B).heap[w.heap.size + 1]? = some B := by
  have := heap_alloc_new (w.alloc A) B
  simpa using this
abbrev enS (s : List UInt8) : Value := .string ⟨s.toArray⟩
/-- A value as plain data. -/
structure Vl where
  k : Int
  n : Int
  t : List UInt8
  b : Bool
  f : Int
def Vl.cs (x : Vl) : Array Value := #[.int .i64 x.k, .int .i64 x.n, enS x.t, .bool x.b, .int .i64 x.f]
def Vl.val (x : Vl) : Value := .agg #[.int .i64 x.k, .int .i64 x.n, enS x.t, .bool x.b, .int .i64 x.f]
def i64ok (z : Int) : Prop := -9223372036854775808 ≤ z ∧ z ≤ 9223372036854775807
/-- What a Go value may be. -/
structure Vl.ok (x : Vl) : Prop where
  k : i64ok x.k
  n : i64ok x.n
  t : x.t.length ≤ maxLen
  f : i64ok x.f
theorem wf_i64 {z : Int} (h : i64ok z) : (Lit.int .i64 z).wf = true := by
  obtain ⟨h1, h2⟩ := h
  simp [Lit.wf, IntKind.min, IntKind.max, IntKind.signed, IntKind.bits]
  omega
def eqV (x y : Vl) : Bool := decide (x.k = y.k) && (decide (x.n = y.n) && (decide (x.t = y.t) && (decide (x.b = y.b) && decide (x.f = y.f))))
theorem eqV_iff {x y : Vl} : eqV x y = true ↔ x = y := by
  obtain ⟨a, b, c, d, e⟩ := x
  obtain ⟨a', b', c', d', e'⟩ := y
  simp [eqV]
def Vl.lits (x : Vl) : List Lit := [.int .i64 x.k, .int .i64 x.n, .string x.t, .bool x.b, .int .i64 x.f]
theorem vlits_inj {x y : Vl} (h : x.lits = y.lits) : x = y := by
  obtain ⟨a, b, c, d, e⟩ := x
  obtain ⟨a', b', c', d', e'⟩ := y
  simpa [Vl.lits] using h
section
theorem vlK : Tryz.prog.keyTypeAt 2 26 = true := by kernel_rfl
theorem vl_formed (x : Vl) : x.val.formed Tryz.prog 26 = true := by
  have h2 : Tryz.prog.cellsOf 26 = 5 := by kernel_rfl
  simp [Vl.val, Value.formed, Tryz.underlying26, h2]
theorem vl_lits {x : Vl} (h : x.ok) : Tryz.prog.keyLits 5 26 x.val.cells.toList = some x.lits := by
  obtain ⟨k, n, t, b, f⟩ := x
  obtain ⟨hk, hn, ht, hf⟩ := h
  simp only at hk hn ht hf
  have h0 : Tryz.prog.cellsOf 26 = 5 := by kernel_rfl
  have h1 : Tryz.prog.cellsOf 9 = 1 := by kernel_rfl
  have h2 : Tryz.prog.cellsOf 22 = 1 := by kernel_rfl
  have h3 : Tryz.prog.cellsOf 23 = 1 := by kernel_rfl
  have h4 : Tryz.prog.cellsOf 4 = 1 := by kernel_rfl
  have h5 : Tryz.prog.cellsOf 24 = 1 := by kernel_rfl
  have s5 : Tryz.prog.keyLits 4 9 [.string ⟨t.toArray⟩] = some [.string t] := by
    have hz' : (⟨t.toArray⟩ : ByteArray).size ≤ maxLen := ht
    simp [Program.keyLits, Tryz.underlying9, hz']
  have i1 : Tryz.prog.keyLits 4 22 [.int .i64 k] = some [.int .i64 k] := by
    simp [Program.keyLits, Tryz.underlying22, wf_i64 hk]
  have i2 : Tryz.prog.keyLits 4 23 [.int .i64 n] = some [.int .i64 n] := by
    simp [Program.keyLits, Tryz.underlying23, wf_i64 hn]
  have i3 : Tryz.prog.keyLits 4 4 [.bool b] = some [.bool b] := by
    simp [Program.keyLits, Tryz.underlying4]
  have i4 : Tryz.prog.keyLits 4 24 [.int .i64 f] = some [.int .i64 f] := by
    simp [Program.keyLits, Tryz.underlying24, wf_i64 hf]
  unfold Program.keyLits
  rw [Tryz.underlying26]
  simp [h0, h1, h2, h3, h4, h5, s5, i1, i2, i3, i4, Vl.val, Vl.lits, Value.cells]
theorem eqIn_vl (w : World) {x y : Vl} (hx : x.ok) (hy : y.ok) : (Op.equalIn 10000 26 x.val y.val).run Tryz.prog w = .ok (eqV x y) w := by
  obtain ⟨r, h1, h2⟩ := run_equalIn_deep 9998 2 26 vlK w 5 5 _ _ _ _ (vl_formed x) (vl_formed y) (vl_lits hx) (vl_lits hy)
  rw [h1]
  congr 1
  rw [Bool.eq_iff_iff, h2, eqV_iff]
  exact ⟨vlits_inj, fun e => by rw [e]⟩
theorem eq_vl (w : World) {x y : Vl} (hx : x.ok) (hy : y.ok) : (binOp .eql 26 x.val y.val).run Tryz.prog w = .ok (.bool (eqV x y)) w := by
  have h := eqIn_vl w hx hy
  unfold Vl.val at h ⊢
  rw [run_eql_struct, h]
  rfl
end

theorem Tryz.infoV : (Tryz.prog.info? 26).map (·.size) = some 5 := by kernel_rfl
/-- A function's end: its one result lies in a cell. -/
theorem ret_vl {fn : Func} {p : Tmp} (h : fn.results = #[.cell p 26]) (tmps : Array Value) (W : World) (g : Nat) (x : Vl) (hp : tmps.getD p undef = .pointer (some ⟨g, 0, none⟩)) (hg : W.heap[g]? = some (.cells x.cs 26 (0, 0))) :
    (results fn tmps).run Tryz.prog W = .ok x.val W :=
  results_cell_row h tmps W g 26 x.cs (0, 0) _ hp hg Tryz.underlying26 rfl Tryz.infoV

def okFail (f : Int) : Bool := decide (0 < f) && decide (f < 9)
def mkE (f : Int) : Vl := ⟨4, 0, [], false, if okFail f then f else 3⟩
def mkN (n : Int) : Vl := if okNum n then ⟨1, n, [], false, 0⟩ else mkE 2
def mkT (s : List UInt8) : Vl := if s.length ≤ 255 then ⟨2, 0, s, false, 0⟩ else mkE 3
def mkB (b : Bool) : Vl := ⟨3, 0, [], b, 0⟩

theorem fits_any (w : World) (n : Int) : Calls Tryz.prog 29 #[.int .i64 n] w fun e w' => e = .returned (.bool (okNum n)) ∧ Upd w w' (fun _ => False) := by
  have R := Raw_any w n
  cases h : okNum n with
  | true =>
    simp only [h, if_true] at R
    clear h
    go_enter Tryz.func29, Tryz.ntmps29
    go_wp2_with (go_at_call 61; refine Calls.mono R ?_; rintro e w1 ⟨rfl, u1⟩)
    go_ret
    exact ⟨rfl, u1⟩
  | false =>
    simp only [h, Bool.false_eq_true, if_false] at R
    clear h
    go_enter Tryz.func29, Tryz.ntmps29
    go_wp2_with (go_at_call 61; refine Calls.mono R ?_; rintro e w1 ⟨rfl, u1⟩)
    go_ret
    exact ⟨rfl, u1⟩
theorem is_any (w : World) (f : Int) : Calls Tryz.prog 62 #[.int .i64 f] w fun e w' => e = .returned (.bool (okFail f)) ∧ w' = w := by
  unfold okFail
  cases h : decide (0 < f) with
  | true =>
    go_enter Tryz.func62, Tryz.ntmps62
    go_wp2_with fail
    go_ret
    exact ⟨by simp, rfl⟩
  | false =>
    go_enter Tryz.func62, Tryz.ntmps62
    go_wp2_with fail
    go_ret
    exact ⟨by simp, rfl⟩
theorem B_any (w : World) (b : Bool) : Calls Tryz.prog 38 #[.bool b] w fun e w' => e = .returned (mkB b).val ∧ Upd w w' (fun _ => False) := by
  go_enter Tryz.func38, Tryz.ntmps38
  go_wp2_with fail
  (try simp only [Exit.inBlock, Exit.then])
  refine bodyPost_ret (ret_vl rfl _ _ w.heap.size (mkB b) rfl (Vnew1 w _)) rfl ?_
  exact ⟨rfl, (Upd.refl w _).alloc _⟩
theorem E_any (w : World) (f : Int) : Calls Tryz.prog 30 #[.int .i64 f] w fun e w' => e = .returned (mkE f).val ∧ Upd w w' (fun _ => False) := by
  have I := fun w => is_any w f
  unfold mkE
  cases h : okFail f with
  | true =>
    rw [h] at I
    simp only [if_true]
    clear h
    go_enter Tryz.func30, Tryz.ntmps30
    go_wp2_with (go_at_call 62; refine Calls.mono (I _) ?_; rintro e w' ⟨rfl, hw⟩; replace hw := hw.symm; subst hw)
    (try simp only [Exit.inBlock, Exit.then])
    refine bodyPost_ret (ret_vl rfl _ _ w.heap.size ⟨4, 0, [], false, f⟩ rfl (Vnew1 w _)) rfl ?_
    exact ⟨rfl, (Upd.refl w _).alloc _⟩
  | false =>
    rw [h] at I
    simp only [Bool.false_eq_true, if_false]
    clear h
    go_enter Tryz.func30, Tryz.ntmps30
    go_wp2_with (go_at_call 62; refine Calls.mono (I _) ?_; rintro e w' ⟨rfl, hw⟩; replace hw := hw.symm; subst hw)
    (try simp only [Exit.inBlock, Exit.then])
    refine bodyPost_ret (ret_vl rfl _ _ w.heap.size ⟨4, 0, [], false, 3⟩ rfl (Vnew1 w _)) rfl ?_
    exact ⟨rfl, (Upd.refl w _).alloc _⟩
end Go.Proofs.YtmfngdjhkpddoaaGreatDoor
/- The walks of package value's N, T, Good, sound, beside, rank. -/
set_option maxRecDepth 100000
namespace Go.Proofs.YtmfngdjhkpddoaaGreatDoor
open Go.RowKit Go.Lat

theorem i0 : i64ok 0 := ⟨by decide, by decide⟩
theorem i1 : i64ok 1 := ⟨by decide, by decide⟩
theorem i2 : i64ok 2 := ⟨by decide, by decide⟩
theorem i3 : i64ok 3 := ⟨by decide, by decide⟩
theorem i4 : i64ok 4 := ⟨by decide, by decide⟩
theorem okFail_i64 {f : Int} (h : okFail f = true) : i64ok f := by
  simp [okFail] at h
  exact ⟨by omega, by omega⟩
theorem mkE_ok (f : Int) : (mkE f).ok := by
  unfold mkE
  refine ⟨i4, i0, Nat.zero_le _, ?_⟩
  simp only
  split
  · rename_i h
    exact okFail_i64 h
  · exact i3
theorem okNum_i64 {n : Int} (h : okNum n = true) : i64ok n := by
  have := okNum_true h
  exact ⟨by omega, by omega⟩
theorem mkN_ok (n : Int) : (mkN n).ok := by
  unfold mkN
  split
  · rename_i h
    exact ⟨i1, okNum_i64 h, Nat.zero_le _, i0⟩
  · exact mkE_ok 2
theorem mkT_ok (s : List UInt8) : (mkT s).ok := by
  unfold mkT
  split
  · rename_i h
    exact ⟨i2, i0, Nat.le_trans h (by decide), i0⟩
  · exact mkE_ok 3
theorem mkB_ok (b : Bool) : (mkB b).ok := ⟨i3, i0, Nat.zero_le _, i0⟩
def vZero : Vl := ⟨0, 0, [], false, 0⟩
theorem vZero_ok : vZero.ok := ⟨i0, i0, Nat.zero_le _, i0⟩

/-- Five cells are stored. -/
theorem block5 {W : World} {g : Nat} {x : Vl} (h : W.heap[g]? = some (.cells x.cs 26 (0, 0))) (v0 v1 v2 v3 v4 : Value) :
    (((((W.setCell ⟨g, 0, none⟩ v0).setCell ⟨g, 1, none⟩ v1).setCell ⟨g, 2, none⟩ v2).setCell ⟨g, 3, none⟩ v3).setCell ⟨g, 4, none⟩ v4).heap[g]? = some (.cells #[v0, v1, v2, v3, v4] 26 (0, 0)) :=
  block_setCell (block_setCell (block_setCell (block_setCell (block_setCell h 0 v0) 1 v1) 2 v2) 3 v3) 4 v4
theorem upd5 {a W : World} {S : Nat → Prop} (h : Upd a W S) {g : Nat} (hg : a.heap.size ≤ g) (v0 v1 v2 v3 v4 : Value) :
    Upd a (((((W.setCell ⟨g, 0, none⟩ v0).setCell ⟨g, 1, none⟩ v1).setCell ⟨g, 2, none⟩ v2).setCell ⟨g, 3, none⟩ v3).setCell ⟨g, 4, none⟩ v4) S :=
  ((((h.setCell ⟨g, 0, none⟩ v0 (.inl hg)).setCell ⟨g, 1, none⟩ v1 (.inl hg)).setCell ⟨g, 2, none⟩ v2 (.inl hg)).setCell ⟨g, 3, none⟩ v3 (.inl hg)).setCell ⟨g, 4, none⟩ v4 (.inl hg)

theorem N_any (w : World) (n : Int) : Calls Tryz.prog 10 #[.int .i64 n] w fun e w' => e = .returned (mkN n).val ∧ Upd w w' (fun _ => False) := by
  have I := fun w => fits_any w n
  have EA := fun w => E_any w 2
  unfold mkN
  cases h : okNum n with
  | true =>
    rw [h] at I
    simp only [if_true]
    clear h EA
    go_enter Tryz.func10, Tryz.ntmps10
    go_wp2_with (go_at_call 29; refine Calls.mono (I _) ?_; rintro e w1 ⟨rfl, u1⟩
                 have bX := u1.get (Vnew1 w (.cells vZero.cs 26)) id
                 obtain ⟨c0, c1, c2, c3, c4⟩ := cells5 bX
                 have xl := lt_at bX
                 have f0 := free_at bX 0
                 have f1 := free_at bX 1
                 have f2 := free_at bX 2
                 have f3 := free_at bX 3
                 have f4 := free_at bX 4
                 have HX := hide bX
                 have HU := hide u1
                 clear bX u1)
    (try simp only [Exit.inBlock, Exit.then])
    refine bodyPost_ret (ret_vl rfl _ _ w.heap.size ⟨1, n, [], false, 0⟩ rfl (block5 HX.out _ _ _ _ _)) rfl ?_
    exact ⟨rfl, upd5 (((Upd.refl w _).alloc _).then HU.out (fun _ _ => id)) (Nat.le_refl _) _ _ _ _ _⟩
  | false =>
    rw [h] at I
    simp only [Bool.false_eq_true, if_false]
    clear h
    obtain ⟨ev, hev⟩ : ∃ v, mkE 2 = v := ⟨_, rfl⟩
    rw [hev] at EA ⊢
    obtain ⟨k0, n0, t0, b0, e0⟩ := ev
    have HEV := hide hev
    unfold Vl.val at EA
    simp only at EA
    clear hev
    go_enter Tryz.func10, Tryz.ntmps10
    go_wp2_with (first
      | (go_at_call 29; refine Calls.mono (I _) ?_; rintro e w1 ⟨rfl, u1⟩
         have bX := u1.get (Vnew1 w (.cells vZero.cs 26)) id
         have HX := hide bX
         have HU := hide u1
         clear bX u1)
      | (go_at_call 30; refine Calls.mono (EA _) ?_; rintro e w2 ⟨rfl, u2⟩
         have bX2 := u2.get HX.out id
         obtain ⟨c0, c1, c2, c3, c4⟩ := cells5 bX2
         have xl := lt_at bX2
         have f0 := free_at bX2 0
         have f1 := free_at bX2 1
         have f2 := free_at bX2 2
         have f3 := free_at bX2 3
         have f4 := free_at bX2 4
         have HX2 := hide bX2
         have HU2 := hide u2
         clear bX2 u2))
    (try simp only [Exit.inBlock, Exit.then])
    refine bodyPost_ret (ret_vl rfl _ _ w.heap.size ⟨k0, n0, t0, b0, e0⟩ rfl (block5 HX2.out _ _ _ _ _)) rfl ?_
    exact ⟨rfl, upd5 ((((Upd.refl w _).alloc _).then HU.out (fun _ _ => id)).then HU2.out (fun _ _ => id)) (Nat.le_refl _) _ _ _ _ _⟩
theorem T_any (w : World) (s : List UInt8) : Calls Tryz.prog 56 #[enS s] w fun e w' => e = .returned (mkT s).val ∧ Upd w w' (fun _ => False) := by
  have EA := fun w => E_any w 3
  unfold mkT
  by_cases h : s.length ≤ 255
  · rw [if_pos h]
    have d1 : decide ((255 : Int) < (s.length : Int)) = false := by simp; omega
    have d2 : decide (255 < s.length) = false := by simp; omega
    clear h EA
    go_enter Tryz.func56, Tryz.ntmps56
    go_wp2_with fail
    (try simp only [Exit.inBlock, Exit.then])
    refine bodyPost_ret (ret_vl rfl _ _ w.heap.size ⟨2, 0, s, false, 0⟩ rfl (Vnew1 w _)) rfl ?_
    exact ⟨rfl, (Upd.refl w _).alloc _⟩
  · rw [if_neg h]
    have d1 : decide ((255 : Int) < (s.length : Int)) = true := by simp; omega
    have d2 : decide (255 < s.length) = true := by simp; omega
    clear h
    obtain ⟨ev, hev⟩ : ∃ v, mkE 3 = v := ⟨_, rfl⟩
    rw [hev] at EA ⊢
    obtain ⟨k0, n0, t0, b0, e0⟩ := ev
    have HEV := hide hev
    unfold Vl.val at EA
    simp only at EA
    clear hev
    go_enter Tryz.func56, Tryz.ntmps56
    go_wp2_with (go_at_call 30; refine Calls.mono (EA _) ?_; rintro e w2 ⟨rfl, u2⟩
                 have bX2 := u2.get (Vnew1 w (.cells vZero.cs 26)) id
                 obtain ⟨c0, c1, c2, c3, c4⟩ := cells5 bX2
                 have xl := lt_at bX2
                 have f0 := free_at bX2 0
                 have f1 := free_at bX2 1
                 have f2 := free_at bX2 2
                 have f3 := free_at bX2 3
                 have f4 := free_at bX2 4
                 have HX2 := hide bX2
                 have HU2 := hide u2
                 clear bX2 u2)
    (try simp only [Exit.inBlock, Exit.then])
    refine bodyPost_ret (ret_vl rfl _ _ w.heap.size ⟨k0, n0, t0, b0, e0⟩ rfl (block5 HX2.out _ _ _ _ _)) rfl ?_
    exact ⟨rfl, upd5 (((Upd.refl w _).alloc _).then HU2.out (fun _ _ => id)) (Nat.le_refl _) _ _ _ _ _⟩

/-- May a value be? -/
def goodV (x : Vl) : Bool :=
  if x.k = 0 then eqV x vZero else if x.k = 1 then eqV x (mkN x.n) else if x.k = 2 then eqV x (mkT x.t) else if x.k = 3 then eqV x (mkB x.b) else if x.k = 4 then eqV x (mkE x.f) else false
end Go.Proofs.YtmfngdjhkpddoaaGreatDoor
