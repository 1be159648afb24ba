/- The walks of package float's shifts. -/
import Derived.Test.YtmfngdjhkpddoaaGreatDoorJ25
import Derived.Test.YtmfngdjhkpddoaaGreatDoorJ02
import Derived.Laws.FloatArith
/- The walks of package float's shifts. -/
set_option maxRecDepth 100000
namespace Go.Proofs.YtmfngdjhkpddoaaGreatDoor.Fl
open Go.RowKit Go.Lat

theorem left_zero (w : World) (k : Nat) : Calls Tryz.prog 166 #[.agg #[.int .u64 0, .int .u64 0], .int .i64 k] w fun e w' => e = .returned (.tuple #[.int .u64 0, .bool true]) ∧ Upd w w' (fun _ => False) := by
  go_enter Tryz.func166, Tryz.ntmps166
  go_wp2_with fail
  go_ret2
  exact ⟨rfl, (Upd.refl w _).alloc _⟩

theorem left_high (w : World) (h l k : Nat) (hh : 0 < h) : Calls Tryz.prog 166 #[.agg #[.int .u64 h, .int .u64 l], .int .i64 k] w fun e w' => e = .returned (.tuple #[.int .u64 0, .bool false]) ∧ Upd w w' (fun _ => False) := by
  have d1 : ((h : Int) == 0) = false := by simp; omega
  have d2 : ((h : Int) != 0) = true := by simp; omega
  have d3 : ¬ (h : Int) = 0 := by omega
  go_enter Tryz.func166, Tryz.ntmps166
  go_wp2_with fail
  all_goals go_ret2
  all_goals exact ⟨rfl, (Upd.refl w _).alloc _⟩

theorem bitLenAux_spec : ∀ (f x : Nat), x < 2 ^ f → Lib.bitLenAux f x ≤ f ∧ x < 2 ^ Lib.bitLenAux f x ∧ (0 < x → 1 ≤ Lib.bitLenAux f x ∧ 2 ^ (Lib.bitLenAux f x - 1) ≤ x)
  | 0, x, h => by simp [Lib.bitLenAux] at h ⊢; omega
  | f + 1, x, h => by
    unfold Lib.bitLenAux
    by_cases hx : x = 0
    · simp [hx]
    · rw [if_neg hx]
      have hp := Nat.pow_succ (n := 2) (m := f)
      obtain ⟨a, b, c⟩ := bitLenAux_spec f (x / 2) (by omega)
      refine ⟨by omega, ?_, fun _ => ⟨by omega, ?_⟩⟩
      · rw [Nat.add_comm 1, Nat.pow_succ]
        omega
      · rw [Nat.add_sub_cancel_left]
        by_cases h2 : x / 2 = 0
        · have h1 : x = 1 := by omega
          subst h1
          have : Lib.bitLenAux f 0 = 0 := by cases f <;> rfl
          simp [this]
        · obtain ⟨c1, c2⟩ := c (by omega)
          have e : 2 ^ Lib.bitLenAux f (x / 2) = 2 * 2 ^ (Lib.bitLenAux f (x / 2) - 1) := by
            rw [← Nat.pow_succ']
            congr 1
            omega
          omega

theorem left_low (w : World) (l k : Nat) (hl : 0 < l) (hl2 : l < 18446744073709551616) (hk : k ≤ 2000) : Calls Tryz.prog 166 #[.agg #[.int .u64 0, .int .u64 l], .int .i64 k] w fun e w' => e = .returned (.tuple #[.int .u64 (if l * 2 ^ k < 18446744073709551616 then l * 2 ^ k else 0 : Nat), .bool (decide (l * 2 ^ k < 18446744073709551616))]) ∧ Upd w w' (fun _ => False) := by
  have hL := fun w => Len64_any (l : Int) w (by omega) (by omega)
  obtain ⟨s1, s2, s3⟩ := bitLenAux_spec 64 l (by omega)
  obtain ⟨s4, s5⟩ := s3 hl
  have eL : Lib.bitLen (l : Int).toNat = Lib.bitLenAux 64 l := rfl
  rw [eL] at hL
  generalize Lib.bitLenAux 64 l = L at *
  clear eL s3
  have d1 : ((l : Int) == 0) = false := by simp; omega
  have d2 : ¬ (l : Int) = 0 := by omega
  have pk : 0 < 2 ^ k := Nat.two_pow_pos k
  by_cases hk64 : 64 ≤ k
  · have hbig : ¬ l * 2 ^ k < 18446744073709551616 := by
      have h1 : 2 ^ 64 ≤ 2 ^ k := Nat.pow_le_pow_right (by omega) hk64
      have h2 := Nat.mul_le_mul hl h1
      omega
    rw [if_neg hbig, decide_eq_false hbig]
    have d3 : decide ((64 : Int) ≤ (k : Int)) = true := by simp; omega
    clear hbig s5 s2 pk
    go_enter Tryz.func166, Tryz.ntmps166
    go_wp2_with fail
    go_ret2
    exact ⟨rfl, (Upd.refl w _).alloc _⟩
  · have d3 : decide ((64 : Int) ≤ (k : Int)) = false := by simp; omega
    by_cases hLk : 64 < L + k
    · have hbig : ¬ l * 2 ^ k < 18446744073709551616 := by
        have h1 : 2 ^ 64 ≤ 2 ^ (L - 1) * 2 ^ k := by rw [← Nat.pow_add]; exact Nat.pow_le_pow_right (by omega) (by omega)
        have h2 := Nat.mul_le_mul_right (2 ^ k) s5
        omega
      rw [if_neg hbig, decide_eq_false hbig]
      have d4 : decide ((64 : Int) < (L : Int) + (k : Int)) = true := by simp; omega
      clear hbig s5 s2 pk
      go_enter Tryz.func166, Tryz.ntmps166
      go_wp2_with fail
      refine Calls.mono (hL _) ?_
      rintro e w1 ⟨rfl, rfl⟩
      go_wp2_with fail
      go_ret2
      exact ⟨rfl, (Upd.refl w _).alloc _⟩
    · have hsm : l * 2 ^ k < 18446744073709551616 := by
        have h1 : 2 ^ L * 2 ^ k ≤ 2 ^ 64 := by rw [← Nat.pow_add]; exact Nat.pow_le_pow_right (by omega) (by omega)
        have h2 := Nat.mul_lt_mul_of_pos_right s2 pk
        omega
      rw [if_pos hsm, decide_eq_true hsm]
      have d4 : decide ((64 : Int) < (L : Int) + (k : Int)) = false := by simp; omega
      have wl : IntKind.u64.wrap ((l : Int) * 2 ^ k) = ((l * 2 ^ k : Nat) : Int) := by
        have e1 := Mul64.wrapN (l * 2 ^ k) hsm
        have e2 : ((l * 2 ^ k : Nat) : Int) = (l : Int) * 2 ^ k := by simp
        rw [e2] at e1 ⊢
        exact e1
      clear hsm s5 s2 pk
      go_enter Tryz.func166, Tryz.ntmps166
      go_wp2_with fail
      refine Calls.mono (hL _) ?_
      rintro e w1 ⟨rfl, rfl⟩
      go_wp2_with fail
      go_ret2
      exact ⟨by simp, (Upd.refl w _).alloc _⟩

theorem pow_half (j : Nat) (h : 1 ≤ j) : 2 ^ j = 2 * 2 ^ (j - 1) := by
  rw [← Nat.pow_succ']
  congr 1
  omega

/-- A number of two words, moved right and rounded: a step of 64. -/
theorem shr_step (h l j : Nat) (hl : l < 18446744073709551616) (hj : 64 < j) : (h * 18446744073709551616 + l + 2 ^ (j - 1)) / 2 ^ j = (h + 2 ^ (j - 64 - 1)) / 2 ^ (j - 64) := by
  have e1 : 2 ^ j = 18446744073709551616 * 2 ^ (j - 64) := by
    rw [show 18446744073709551616 = 2 ^ 64 from rfl, ← Nat.pow_add]
    congr 1
    omega
  have e2 : 2 ^ (j - 1) = 18446744073709551616 * 2 ^ (j - 64 - 1) := by
    rw [show 18446744073709551616 = 2 ^ 64 from rfl, ← Nat.pow_add]
    congr 1
    omega
  rw [e1, e2, ← Nat.div_div_eq_div_mul]
  congr 1
  omega

theorem shr_last (l P : Nat) (hP : 0 < P) : (l + P) / (2 * P) = l / (2 * P) + l / P % 2 := by
  have e : ∀ x, x / (2 * P) = x / P / 2 := fun x => by rw [Nat.mul_comm, Nat.div_div_eq_div_mul]
  rw [e, e, Nat.add_div_right _ hP]
  omega

theorem and1 (b : Nat) : b &&& 1 = b % 2 := Nat.and_two_pow_sub_one_eq_mod b 1

set_option maxHeartbeats 1600000 in
theorem right_any (w : World) (h1 l1 k X : Nat) (hh : h1 < 18446744073709551616) (hl : l1 < 18446744073709551616) (hk : 1 ≤ k) (hk2 : k ≤ 2000) (hX : (h1 * 18446744073709551616 + l1 + 2 ^ (k - 1)) / 2 ^ k = X) :
    Calls Tryz.prog 167 #[.agg #[.int .u64 h1, .int .u64 l1], .int .i64 k] w fun e w' => ∃ v : Nat, e = .returned (.tuple #[.int .u64 v, .bool (decide (X < 18446744073709551616))]) ∧ (X < 18446744073709551616 → v = X) ∧ Upd w w' (fun _ => False) := by
  go_enter Tryz.func167, Tryz.ntmps167
  go_wp2_with fail
  go_loopg [1] k (fun q v wr => ∃ j h l : Nat, v = .int .i64 j ∧ j ≤ q ∧ j ≤ k ∧ 1 ≤ j ∧ h < 18446744073709551616 ∧ l < 18446744073709551616 ∧ (h * 18446744073709551616 + l + 2 ^ (j - 1)) / 2 ^ j = X ∧ wr.heap[w.heap.size]? = some (.cells #[.int .u64 h, .int .u64 l] 135 (0, 0)) ∧ Upd w wr (fun _ => False))
  case atStart => exact ⟨k, h1, l1, rfl, Nat.le_refl _, Nat.le_refl _, hk, hh, hl, hX, heap_alloc_new w _, (Upd.refl w _).alloc _⟩
  case round =>
    clear hX hh hl
    obtain ⟨j, h, l, rfl, hj, hjk, hj1, hh, hl, hX, hb, hu⟩ := hrel
    obtain ⟨c0, c1⟩ := cells2 hb
    have f0 := free_at hb 0
    have f1 := free_at hb 1
    have HX := hide hX
    have HB := hide hb
    clear hX hb
    by_cases hj64 : 64 < j
    · have d1 : decide (64 < (j : Int)) = true := by simp; omega
      go_wp2_with fail
      go_roundg (gk - 1)
      case measure => omega
      case rel =>
        refine ⟨j - 64, 0, h, by congr 1; omega, by omega, by omega, by omega, by omega, hh, ?_, ?_, ?_⟩
        · rw [Nat.zero_mul, Nat.zero_add, ← shr_step h l j hl hj64]
          exact HX.out
        · exact block_setCell (block_setCell HB.out 0 _) 1 _
        · exact (hu.setCell _ _ (.inl (Nat.le_refl _))).setCell _ _ (.inl (Nat.le_refl _))
    · have d1 : decide (64 < (j : Int)) = false := by simp; omega
      by_cases hj3 : j < 64
      · have d2 : decide ((j : Int) < 64) = true := by simp; omega
        obtain ⟨P, hP⟩ : ∃ P, 2 ^ (j - 1) = P := ⟨_, rfl⟩
        have pP : 0 < P := by rw [← hP]; exact Nat.two_pow_pos _
        have e2P : 2 ^ j = 2 * P := by rw [← hP]; exact pow_half j hj1
        by_cases hhi : h / (2 * P) = 0
        · have d3 : ((h : Int) / 2 ^ j != 0) = false := by
            have e : ((h : Int) / 2 ^ j) = ((h / 2 ^ j : Nat) : Int) := by simp
            rw [e, e2P, hhi]
            rfl
          have wa : IntKind.i64.wrap ((64 : Int) - (j : Int)) = (64 : Int) - (j : Int) := IntWalk.i64_in _ (by omega)
          have wb : IntKind.i64.wrap ((j : Int) - 1) = (j : Int) - 1 := IntWalk.i64_in _ (by omega)
          have HP := hide hP
          have HE := hide e2P
          clear hP e2P
          go_wp2_with fail
          go_quiet (fail)
          go_wp2_with fail
          go_quiet (fail)
          clear wa wb d3
          obtain ⟨S, hS⟩ : ∃ S, 2 ^ (64 - j) = S := ⟨_, rfl⟩
          have eSP : S * (2 * P) = 18446744073709551616 := by
            rw [← hS, ← HE.out, ← Nat.pow_add, show 64 - j + j = 64 from by omega]
          have hlt : h < 2 * P := by
            rcases Nat.lt_or_ge h (2 * P) with e | e
            · exact e
            · have := Nat.div_pos e (by omega)
              omega
          have hSb : h * S < 18446744073709551616 := by
            rw [← eSP, Nat.mul_comm S]
            exact Nat.mul_lt_mul_of_pos_right hlt (by rw [← hS]; exact Nat.two_pow_pos _)
          have hlq : l / (2 * P) < S := by
            rw [Nat.div_lt_iff_lt_mul (by omega), eSP]
            exact hl
          have hQ : h * S + l / (2 * P) < 18446744073709551616 := by
            have h3 : (h + 1) * S ≤ (2 * P) * S := Nat.mul_le_mul_right _ (by omega)
            rw [Nat.mul_comm (2 * P), eSP, Nat.add_mul] at h3
            omega
          have hor : h * S ||| l / (2 * P) = h * S + l / (2 * P) := by
            have := Nat.two_pow_add_eq_or_of_lt (i := 64 - j) (b := l / (2 * P)) (by rw [hS]; exact hlq) h
            rw [hS, Nat.mul_comm S h] at this
            exact this.symm
          have q1 : bits BinOp.or IntKind.u64 (IntKind.u64.wrap ((h : Int) * 2 ^ (64 - j))) ((l : Int) / 2 ^ j) = ((h * S + l / (2 * P) : Nat) : Int) := by
            have a1 : ((h : Int) * 2 ^ (64 - j)) = ((h * S : Nat) : Int) := by rw [← hS]; simp
            have a2 : ((l : Int) / 2 ^ j) = ((l / (2 * P) : Nat) : Int) := by rw [← HE.out]; simp
            rw [a1, a2, Mul64.wrapN _ hSb, bits_or_u64_nat _ _ hSb (by omega), hor]
          have q2 : bits BinOp.and IntKind.u64 ((l : Int) / 2 ^ (j - 1)) 1 = ((l / P % 2 : Nat) : Int) := by
            have a2 : ((l : Int) / 2 ^ (j - 1)) = ((l / P : Nat) : Int) := by rw [← HP.out]; simp
            have a3 := bits_and_u64_nat (l / P) 1 (by have := Nat.div_le_self l P; omega) (by omega)
            rw [and1] at a3
            rw [a2]
            exact a3
          have eX : X = h * S + l / (2 * P) + l / P % 2 := by
            rw [← HX.out, HP.out, HE.out, ← eSP, ← Nat.mul_assoc, Nat.add_assoc, Nat.mul_comm (h * S), Nat.mul_add_div (by omega), shr_last l P pP]
            omega
          have ha := add64 (h * S + l / (2 * P)) (l / P % 2)
          rw [q1, q2]
          clear q1 q2 hor
          rw [← eX] at ha
          have hXb : X ≤ 18446744073709551616 := by omega
          clear eX hQ hlq hSb hlt eSP hhi
          generalize h * S + l / (2 * P) = Q at ha ⊢
          generalize l / P % 2 = U at ha ⊢
          go_wp2_with fail
          go_ret2
          refine ⟨X % 18446744073709551616, ?_, fun hx => by omega, hu.drewN _⟩
          simp
          rw [Bool.eq_iff_iff]
          simp
          omega
        · have d3 : ((h : Int) / 2 ^ j != 0) = true := by
            have e : ((h : Int) / 2 ^ j) = ((h / 2 ^ j : Nat) : Int) := by simp
            rw [e, e2P]
            exact bne_iff_ne.2 (by omega)
          have hbig : ¬ X < 18446744073709551616 := by
            have h2 : 2 * P ≤ h := by
              rcases Nat.lt_or_ge h (2 * P) with e | e
              · exact absurd (Nat.div_eq_of_lt e) hhi
              · exact e
            rw [← HX.out, e2P]
            have h3 : 18446744073709551616 * (2 * P) ≤ h * 18446744073709551616 + l + 2 ^ (j - 1) := by
              have := Nat.mul_le_mul_left 18446744073709551616 h2
              omega
            have := (Nat.le_div_iff_mul_le (show 0 < 2 * P by omega)).2 h3
            omega
          have HE := hide e2P
          clear hP e2P
          go_wp2_with fail
          go_quiet (fail)
          go_wp2_with fail
          go_ret2
          exact ⟨0, by rw [decide_eq_false hbig]; rfl, fun hx => absurd hx hbig, hu.drewN _⟩
      · have hj4 : j = 64 := by omega
        subst hj4
        go_wp2_with fail
        go_quiet (fail)
        have hX' : X = h + l / 9223372036854775808 := by
          rw [← HX.out]
          omega
        have ha := add64 h (l / 9223372036854775808)
        rw [← hX'] at ha
        have hXb : X ≤ 18446744073709551616 := by omega
        have e : ((l : Int) / 9223372036854775808) = ((l / 9223372036854775808 : Nat) : Int) := by simp
        rw [e]
        clear e hX'
        generalize l / 9223372036854775808 = U at ha ⊢
        go_wp2_with fail
        go_ret2
        refine ⟨X % 18446744073709551616, ?_, fun hx => by omega, hu.drewN _⟩
        simp
        rw [Bool.eq_iff_iff]
        simp
        omega
end Go.Proofs.YtmfngdjhkpddoaaGreatDoor.Fl
/- The walks of package float's numbers of two words. -/
set_option maxRecDepth 100000
namespace Go.Proofs.YtmfngdjhkpddoaaGreatDoor.Fl
open Go.RowKit Go.Lat

/-- A number of two words. -/
def dbl (n : Nat) : Value := .agg #[.int .u64 (n / 18446744073709551616 : Nat), .int .u64 (n % 18446744073709551616 : Nat)]

theorem product_any (w : World) (x y : Nat) (hx : x < 18446744073709551616) (hy : y < 18446744073709551616) : Calls Tryz.prog 117 #[.int .u64 x, .int .u64 y] w fun e w' => e = .returned (dbl (x * y)) ∧ Upd w w' (fun _ => False) := by
  have hm := fun w => Mul64_any w x y hx hy
  unfold dbl
  generalize x * y / 18446744073709551616 = h at *
  generalize x * y % 18446744073709551616 = l at *
  go_enter Tryz.func117, Tryz.ntmps117
  go_wp2_with fail
  refine Calls.mono (hm _) ?_
  rintro e w1 ⟨rfl, rfl⟩
  go_wp2_with fail
  refine bodyPost_ret (results_cell_row rfl _ _ w.heap.size _ _ _ _ rfl (heap_alloc_new w _) Tryz.underlying135 rfl (by kernel_rfl)) rfl ?_
  exact ⟨rfl, (Upd.refl w _).alloc _⟩

theorem above_any (w : World) (a b : Nat) : Calls Tryz.prog 119 #[dbl a, dbl b] w fun e w' => e = .returned (.bool (decide (b < a))) ∧ Upd w w' (fun _ => False) := by
  have e : decide (b < a) = decide (b / 18446744073709551616 < a / 18446744073709551616 ∨ b / 18446744073709551616 = a / 18446744073709551616 ∧ b % 18446744073709551616 < a % 18446744073709551616) := by
    rw [Bool.eq_iff_iff]
    simp only [decide_eq_true_eq]
    omega
  rw [e]
  unfold dbl
  generalize a / 18446744073709551616 = h1 at *
  generalize a % 18446744073709551616 = l1 at *
  generalize b / 18446744073709551616 = h2 at *
  generalize b % 18446744073709551616 = l2 at *
  clear e
  go_enter Tryz.func119, Tryz.ntmps119
  go_wp2_with fail
  all_goals
    go_ret
    refine ⟨?_, ((Upd.refl w _).alloc _).alloc _⟩
    simp
    try rw [Bool.eq_iff_iff]
    try simp
    try omega

theorem good_any (w : World) (a : Int) : Calls Tryz.prog 116 #[.int .i64 a] w fun e w' => e = .returned (.bool (okNum a)) ∧ Upd w w' (fun _ => False) := by
  have hr := Raw_any w a
  obtain ⟨x, hx⟩ : ∃ x, okNum a = x := ⟨_, rfl⟩
  rw [hx] at hr ⊢
  clear hx
  cases x with
  | true =>
    go_enter Tryz.func116, Tryz.ntmps116
    go_wp2_with fail
    refine Calls.mono hr ?_
    rintro e w1 ⟨rfl, hu⟩
    go_wp2_with fail
    go_ret
    exact ⟨rfl, hu⟩
  | false =>
    go_enter Tryz.func116, Tryz.ntmps116
    go_wp2_with fail
    refine Calls.mono hr ?_
    rintro e w1 ⟨rfl, hu⟩
    go_wp2_with fail
    go_ret
    exact ⟨rfl, hu⟩
end Go.Proofs.YtmfngdjhkpddoaaGreatDoor.Fl
/- The walk of float.From: what number a float64 is nearest to. -/
set_option maxRecDepth 100000
namespace Go.Proofs.YtmfngdjhkpddoaaGreatDoor.Fl
open Go.RowKit Go.Lat

theorem left_any (w : World) (n k : Nat) (hn : n < 340282366920938463463374607431768211456) (hk : k ≤ 2000) : Calls Tryz.prog 166 #[dbl n, .int .i64 k] w fun e w' => ∃ v : Nat, e = .returned (.tuple #[.int .u64 v, .bool (decide (n * 2 ^ k < 18446744073709551616))]) ∧ (n * 2 ^ k < 18446744073709551616 → v = n * 2 ^ k) ∧ Upd w w' (fun _ => False) := by
  unfold dbl
  by_cases h0 : n = 0
  · subst h0
    refine Calls.mono (left_zero w k) ?_
    rintro e w' ⟨rfl, hu⟩
    exact ⟨0, by simp, by simp, hu⟩
  · by_cases hh : n / 18446744073709551616 = 0
    · rw [hh, Nat.mod_eq_of_lt (by omega)]
      refine Calls.mono (left_low w n k (by omega) (by omega) hk) ?_
      rintro e w' ⟨rfl, hu⟩
      exact ⟨_, rfl, fun h => by rw [if_pos h], hu⟩
    · refine Calls.mono (left_high w _ _ k (by omega)) ?_
      rintro e w' ⟨rfl, hu⟩
      have hb : ¬ n * 2 ^ k < 18446744073709551616 := by
        have h1 := Nat.mul_le_mul_left n (Nat.one_le_two_pow (n := k))
        omega
      exact ⟨0, by rw [decide_eq_false hb]; rfl, fun h => absurd h hb, hu⟩

theorem right_all (w : World) (n k : Nat) (hn : n < 340282366920938463463374607431768211456) (hk : 1 ≤ k) (hk2 : k ≤ 2000) :
    Calls Tryz.prog 167 #[dbl n, .int .i64 k] w fun e w' => ∃ v : Nat, e = .returned (.tuple #[.int .u64 v, .bool (decide ((n + 2 ^ (k - 1)) / 2 ^ k < 18446744073709551616))]) ∧ ((n + 2 ^ (k - 1)) / 2 ^ k < 18446744073709551616 → v = (n + 2 ^ (k - 1)) / 2 ^ k) ∧ Upd w w' (fun _ => False) := by
  unfold dbl
  exact right_any w _ _ k _ (by omega) (by omega) hk hk2 (by rw [Nat.div_add_mod'])

theorem mag_parts (r : Nat) (h : r < infR) : pm r * 2 ^ (pe r + 1074).toNat = mag r := by
  unfold infR at h
  unfold pm pe mag
  have h1 : ¬ r / 4503599627370496 = 2047 := by omega
  rw [if_neg h1, if_neg h1]
  by_cases h2 : r / 4503599627370496 = 0
  · rw [if_pos h2, if_pos h2, if_pos (by omega)]
    simp
    omega
  · rw [if_neg h2, if_neg h2, if_neg (by omega)]
    rw [show (((r / 4503599627370496 : Nat) : Int) - 1075 + 1074).toNat = r / 4503599627370496 - 1 from by omega, Nat.add_comm]

/-- A power of 2 that nothing reckons out. -/
def twoTo (n : Nat) : Nat := 2 ^ n
theorem twoTo_add (a b : Nat) : twoTo (a + b) = twoTo a * twoTo b := Nat.pow_add ..
theorem twoTo_succ (a : Nat) : twoTo (a + 1) = 2 * twoTo a := Nat.pow_succ'
theorem twoTo_pos (a : Nat) : 0 < twoTo a := Nat.two_pow_pos a
theorem twoTo_eq (a : Nat) : 2 ^ a = twoTo a := rfl

theorem gen_left (m e E : Nat) : (m * twoTo (e + (E + 1)) * 10000 + twoTo E) / twoTo (E + 1) = m * 10000 * twoTo e := by
  have hp := twoTo_pos E
  rw [twoTo_add, twoTo_succ]
  generalize twoTo E = T at hp ⊢
  generalize twoTo e = K
  have e3 : m * (K * (2 * T)) * 10000 + T = (2 * T) * (m * 10000 * K) + T := by
    congr 1
    rw [← Nat.mul_assoc, Nat.mul_comm _ (2 * T), Nat.mul_assoc]
    congr 1
    rw [Nat.mul_assoc, Nat.mul_comm K, ← Nat.mul_assoc]
  rw [e3, Nat.mul_add_div (by omega), Nat.div_eq_of_lt (by omega), Nat.add_zero]

theorem gen_right (m k E : Nat) (hk : 1 ≤ k) (hk2 : k ≤ E + 1) : (m * twoTo (E + 1 - k) * 10000 + twoTo E) / twoTo (E + 1) = (m * 10000 + twoTo (k - 1)) / twoTo k := by
  have e1 : twoTo (E + 1) = twoTo (E + 1 - k) * twoTo k := by rw [← twoTo_add]; congr 1; omega
  have e2 : twoTo E = twoTo (E + 1 - k) * twoTo (k - 1) := by rw [← twoTo_add]; congr 1; omega
  rw [e1, e2]
  have hp := twoTo_pos (E + 1 - k)
  generalize twoTo (E + 1 - k) = T at hp ⊢
  rw [← Nat.mul_div_mul_left (m * 10000 + twoTo (k - 1)) (twoTo k) hp]
  congr 1
  rw [Nat.mul_add, Nat.mul_comm m T, Nat.mul_assoc]

/-- How many parts (ten thousandths) a float's number is nearest to, its sign left off. -/
def fromR (r : Nat) : Nat := (mag r * 10000 + twoTo 1073) / twoTo 1074

theorem fromR_left (r e : Nat) (h : r < infR) (he : pe r = (e : Nat)) : fromR r = pm r * 10000 * 2 ^ e := by
  unfold fromR
  rw [← mag_parts r h, he, show ((e : Int) + 1074).toNat = e + (1073 + 1) from by omega, twoTo_eq, twoTo_eq]
  exact gen_left (pm r) e 1073

theorem fromR_right (r k : Nat) (h : r < infR) (hk : 1 ≤ k) (hk2 : k ≤ 1074) (he : pe r = -(k : Int)) : fromR r = (pm r * 10000 + 2 ^ (k - 1)) / 2 ^ k := by
  unfold fromR
  rw [← mag_parts r h, he, show (-(k : Int) + 1074).toNat = 1073 + 1 - k from by omega, twoTo_eq, twoTo_eq, twoTo_eq]
  exact gen_right (pm r) k 1073 hk hk2

theorem pe_range (r : Nat) (h : r < infR) : -1074 ≤ pe r ∧ pe r ≤ 971 := by
  unfold infR at h
  unfold pe
  have h1 : ¬ r / 4503599627370496 = 2047 := by omega
  rw [if_neg h1]
  split <;> omega
theorem pm_range (r : Nat) : pm r < 9007199254740992 := by
  unfold pm
  split
  · omega
  · split <;> omega

/-- What From answers to a float that is a number. -/
def fromV (s : Bool) (X : Nat) : Int := if 9000000000000000000 < X then 0 else if s then -(X : Int) else X
def fromE (X : Nat) : Int := if 9000000000000000000 < X then 5 else 0

set_option maxHeartbeats 1600000 in
theorem From_fin (w : World) (b : Nat) (hb : b < 18446744073709551616) (hr : rng b < infR) : Calls Tryz.prog 126 #[.float .f64 b] w fun e w' => e = .returned (.tuple #[.int .i64 (fromV (Lat.sgn b) (fromR (rng b))), .int .i64 (fromE (fromR (rng b)))]) ∧ Upd w w' (fun _ => False) := by
  have hO := fun w => Of_any w b hb
  have hP := fun w => Parts_any w b hb
  have hc : cls b ≠ 0 ∧ cls b ≠ 1 ∧ cls b ≠ 6 := by
    unfold cls
    rw [if_neg (by omega)]
    split <;> rw [if_neg (by omega)] <;> split <;> simp
  obtain ⟨c1, c2, c3⟩ := hc
  have hm := pm_range (rng b)
  obtain ⟨he1, he2⟩ := pe_range (rng b) hr
  have hL := fun (e : Nat) he => fromR_left (rng b) e hr he
  have hR := fun (k : Nat) h1 h2 he => fromR_right (rng b) k hr h1 h2 he
  have HL := hide hL
  have HR := hide hR
  clear hL hR hr
  generalize cls b = c at hO c1 c2 c3
  generalize Lat.sgn b = s at hP ⊢
  obtain ⟨X, hX⟩ : ∃ X, fromR (rng b) = X := ⟨_, rfl⟩
  rw [hX]
  have HX := hide hX
  clear hX
  generalize hM : pm (rng b) = M at hP hm
  have HM := hide hM
  clear hM
  generalize hE : pe (rng b) = E at hP he1 he2
  have HE := hide hE
  clear hE
  have d1 : ((c : Int) == 0) = false := by simp; omega
  have d2 : ((c : Int) == 1) = false := by simp; omega
  have d3 : ((c : Int) == 6) = false := by simp; omega
  have hM2 : M * 10000 < 340282366920938463463374607431768211456 := by omega
  go_enter Tryz.func126, Tryz.ntmps126
  go_wp2_with fail
  refine Calls.mono (hO _) ?_
  rintro e w1 ⟨rfl, hw⟩
  replace hw := hw.symm
  subst hw
  go_wp2_with fail
  refine Calls.mono (hP _) ?_
  rintro e w1 ⟨rfl, hw⟩
  replace hw := hw.symm
  subst hw
  clear hO hP d1 d2 d3 c1 c2 c3
  go_wp2_with fail
  refine Calls.mono (product_any _ M 10000 (by omega) (by omega)) ?_
  rintro e w1 ⟨rfl, hu1⟩
  by_cases hE0 : 0 ≤ E
  · obtain ⟨k, rfl⟩ := Int.eq_ofNat_of_zero_le hE0
    have eX : M * 10000 * 2 ^ k = X := by rw [← HX.out, ← HM.out]; exact (HL.out k HE.out).symm
    have d1 : decide ((0 : Int) ≤ (k : Int)) = true := by simp
    have hS := fun w => left_any w (M * 10000) k hM2 (by omega)
    rw [eX] at hS
    clear eX
    generalize M * 10000 = n at hS ⊢
    unfold dbl at hS ⊢
    generalize n / 18446744073709551616 = h1 at hS ⊢
    generalize n % 18446744073709551616 = l1 at hS ⊢
    go_wp2_with fail
    refine Calls.mono (hS _) ?_
    rintro e w2 ⟨v, rfl, hv, hu2⟩
    clear hS
    have uz := (hu1.alloc (.cells #[.int .u64 h1, .int .u64 l1] 135)).then hu2 (fun _ _ => id)
    by_cases hX64 : X < 18446744073709551616
    · rw [hv hX64, decide_eq_true hX64]
      clear hv
      by_cases hbig : 9000000000000000000 < X
      · have d2 : decide ((9000000000000000000 : Int) < (X : Int)) = true := by simp; omega
        go_wp2_with fail
        go_ret2
        exact ⟨by unfold fromV fromE; rw [if_pos hbig, if_pos hbig]; rfl, uz⟩
      · have d2 : decide ((9000000000000000000 : Int) < (X : Int)) = false := by simp; omega
        cases s with
        | true =>
          go_wp2_with fail
          go_ret2
          exact ⟨by unfold fromV fromE; rw [if_neg hbig, if_neg hbig]; simp, uz⟩
        | false =>
          go_wp2_with fail
          go_ret2
          exact ⟨by unfold fromV fromE; rw [if_neg hbig, if_neg hbig]; simp, uz⟩
    · rw [decide_eq_false hX64]
      clear hv
      have hbig : 9000000000000000000 < X := by omega
      go_wp2_with fail
      go_ret2
      exact ⟨by unfold fromV fromE; rw [if_pos hbig, if_pos hbig]; rfl, uz⟩
  · obtain ⟨k, hk⟩ := Int.eq_ofNat_of_zero_le (show 0 ≤ -E by omega)
    obtain rfl : E = -(k : Int) := by omega
    have eX : (M * 10000 + 2 ^ (k - 1)) / 2 ^ k = X := by rw [← HX.out, ← HM.out]; exact (HR.out k (by omega) (by omega) HE.out).symm
    have d1 : decide ((0 : Int) ≤ -(k : Int)) = false := by simp; omega
    have d4 : ¬ (k : Int) ≤ 0 := by omega
    have hS := fun w => right_all w (M * 10000) k hM2 (by omega) (by omega)
    rw [eX] at hS
    clear eX hk
    generalize M * 10000 = n at hS ⊢
    unfold dbl at hS ⊢
    generalize n / 18446744073709551616 = h1 at hS ⊢
    generalize n % 18446744073709551616 = l1 at hS ⊢
    go_wp2_with fail
    refine Calls.mono (hS _) ?_
    rintro e w2 ⟨v, rfl, hv, hu2⟩
    clear hS
    have uz := (hu1.alloc (.cells #[.int .u64 h1, .int .u64 l1] 135)).then hu2 (fun _ _ => id)
    by_cases hX64 : X < 18446744073709551616
    · rw [hv hX64, decide_eq_true hX64]
      clear hv
      by_cases hbig : 9000000000000000000 < X
      · have d2 : decide ((9000000000000000000 : Int) < (X : Int)) = true := by simp; omega
        go_wp2_with fail
        go_ret2
        exact ⟨by unfold fromV fromE; rw [if_pos hbig, if_pos hbig]; rfl, uz⟩
      · have d2 : decide ((9000000000000000000 : Int) < (X : Int)) = false := by simp; omega
        cases s with
        | true =>
          go_wp2_with fail
          go_ret2
          exact ⟨by unfold fromV fromE; rw [if_neg hbig, if_neg hbig]; simp, uz⟩
        | false =>
          go_wp2_with fail
          go_ret2
          exact ⟨by unfold fromV fromE; rw [if_neg hbig, if_neg hbig]; simp, uz⟩
    · rw [decide_eq_false hX64]
      clear hv
      have hbig : 9000000000000000000 < X := by omega
      go_wp2_with fail
      go_ret2
      exact ⟨by unfold fromV fromE; rw [if_pos hbig, if_pos hbig]; rfl, uz⟩

theorem From_nan (w : World) (b : Nat) (hb : b < 18446744073709551616) (hr : infR < rng b) : Calls Tryz.prog 126 #[.float .f64 b] w fun e w' => e = .returned (.tuple #[.int .i64 0, .int .i64 4]) ∧ w' = w := by
  have hO := fun w => Of_any w b hb
  have hc : cls b = 0 := by unfold cls; rw [if_pos hr]
  rw [hc] at hO
  go_enter Tryz.func126, Tryz.ntmps126
  go_wp2_with fail
  refine Calls.mono (hO _) ?_
  rintro e w1 ⟨rfl, rfl⟩
  go_wp2_with fail
  go_ret2
  exact ⟨rfl, rfl⟩
theorem From_inf (w : World) (b : Nat) (hb : b < 18446744073709551616) (hr : rng b = infR) : Calls Tryz.prog 126 #[.float .f64 b] w fun e w' => e = .returned (.tuple #[.int .i64 0, .int .i64 5]) ∧ w' = w := by
  have hO := fun w => Of_any w b hb
  have hc : cls b = 1 ∨ cls b = 6 := by
    unfold cls
    rw [if_neg (by omega), hr]
    cases Lat.sgn b <;> simp
  rcases hc with hc | hc <;> rw [hc] at hO
  · go_enter Tryz.func126, Tryz.ntmps126
    go_wp2_with fail
    refine Calls.mono (hO _) ?_
    rintro e w1 ⟨rfl, rfl⟩
    go_wp2_with fail
    go_ret2
    exact ⟨rfl, rfl⟩
  · go_enter Tryz.func126, Tryz.ntmps126
    go_wp2_with fail
    refine Calls.mono (hO _) ?_
    rintro e w1 ⟨rfl, rfl⟩
    go_wp2_with fail
    go_ret2
    exact ⟨rfl, rfl⟩
end Go.Proofs.YtmfngdjhkpddoaaGreatDoor.Fl
/- The walks of float.Sqrt and float.To. -/
set_option maxRecDepth 100000
namespace Go.Proofs.YtmfngdjhkpddoaaGreatDoor.Fl
open Go.RowKit Go.Lat

theorem sqrt_run (x r : Nat) (h : FloatKind.f64.format.sqrt x = some r) (w : World) : (callFunc 160 #[.float .f64 x]).run Tryz.prog w = .ok (.value (.float .f64 r)) w := by
  rw [run_callFunc_extern Tryz.func160 (by kernel_rfl) (by kernel_rfl) (by kernel_rfl) (e := Extern.MathSqrt.sqrt) (by kernel_rfl)]
  have e : Extern.MathSqrt.sqrt #[.float .f64 x] = (match FloatKind.f64.format.sqrt x with
    | some r => pure (Value.float .f64 r)
    | none => do pure (Value.float .f64 (← choose (.nanBits .f64 x x)))) := rfl
  rw [e, h]
  rfl

theorem mathSqrt_any (w : World) (x r : Nat) (h : FloatKind.f64.format.sqrt x = some r) : Calls Tryz.prog 118 #[.float .f64 x] w fun e w' => e = .returned (.float .f64 r) ∧ w' = w := by
  have hs := sqrt_run x r h
  go_enter Tryz.func118, Tryz.ntmps118
  go_wp2_with fail
  go_ret
  exact ⟨rfl, rfl⟩

theorem To_good (w : World) (a : Int) (r : Nat) (ha : okNum a = true) (h : floatBits .quo .f64 (floatOfInt .f64 a) 4666723172467343360 = some r) : Calls Tryz.prog 162 #[.int .i64 a] w fun e w' => e = .returned (.float .f64 r) ∧ Upd w w' (fun _ => False) := by
  have hg := fun w => good_any w a
  rw [ha] at hg
  have hq := fun w => run_float_arith (P := Tryz.prog) w .quo 123 .f64 _ _ _ h
  clear ha h
  go_enter Tryz.func162, Tryz.ntmps162
  go_wp2_with fail
  refine Calls.mono (hg _) ?_
  rintro e w1 ⟨rfl, hu⟩
  go_wp2_with fail
  go_ret
  exact ⟨rfl, hu⟩

set_option maxHeartbeats 1600000 in
theorem Sqrt_gen (w : World) (a f2 f3 x0 : Nat) (ha : a ≤ 9000000000000000000) (h1 : floatBits .mul .f64 (floatOfInt .f64 a) 4666723172467343360 = some f2) (h2 : FloatKind.f64.format.sqrt f2 = some f3)
    (h3 : floatToIntVal .f64 f3 .u64 = some (x0 : Int)) (hx0 : x0 < 18446744073709551616) :
    Calls Tryz.prog 67 #[.int .i64 a] w fun e w' => ∃ x : Nat, e = .returned (.tuple #[.int .i64 (if x * (x + 1) < a * 10000 then x + 1 else x : Nat), .int .i64 0]) ∧ x * x ≤ a * 10000 ∧ a * 10000 < (x + 1) * (x + 1) ∧ Upd w w' (fun _ => False) := by
  have hg := fun w => good_any w (a : Int)
  have ho : okNum (a : Int) = true := by unfold okNum; simp; omega
  rw [ho] at hg
  have hmul := fun w => run_float_arith (P := Tryz.prog) w .mul 123 .f64 _ _ _ h1
  have hsq := fun w => mathSqrt_any w f2 f3 h2
  have hcv := fun w => run_convert_float_int (P := Tryz.prog) w 123 124 .f64 .u64 f3 x0 (by kernel_rfl) Tryz.underlying124 h3
  have hd := fun w => product_any w a 10000 (by omega) (by omega)
  have hp := fun x y w (h : x < 18446744073709551616) (h' : y < 18446744073709551616) => product_any w x y h h'
  have hab := fun n w => above_any w n (a * 10000)
  have hba := fun n w => above_any w (a * 10000) n
  have hDb : a * 10000 ≤ 90000000000000000000000 := by omega
  obtain ⟨D, hD⟩ : ∃ D, a * 10000 = D := ⟨_, rfl⟩
  rw [hD] at hd hab hba hDb ⊢
  unfold dbl at hd
  have e1 : dbl D = .agg #[.int .u64 (D / 18446744073709551616 : Nat), .int .u64 (D % 18446744073709551616 : Nat)] := rfl
  rw [e1] at hab hba
  clear e1 hD h1 h2 h3 ho
  generalize D / 18446744073709551616 = H at hd hab hba
  generalize D % 18446744073709551616 = L at hd hab hba
  go_enter Tryz.func67, Tryz.ntmps67
  go_wp2_with fail
  refine Calls.mono (hg _) ?_
  rintro e w1 ⟨rfl, hu⟩
  clear hg
  go_wp2_with fail
  refine Calls.mono (hd _) ?_
  rintro e w2 ⟨rfl, hu2⟩
  clear hd
  go_wp2_with fail
  refine Calls.mono (hsq _) ?_
  rintro e w3 ⟨rfl, hw⟩
  replace hw := hw.symm
  subst hw
  clear hsq
  go_wp2_with fail
  clear hmul hcv
  have hB : (w2.alloc (.cells #[.int .u64 H, .int .u64 L] 135)).heap[w2.heap.size]? = some (.cells #[.int .u64 H, .int .u64 L] 135 (0, 0)) := heap_alloc_new w2 _
  have uB : Upd w (w2.alloc (.cells #[.int .u64 H, .int .u64 L] 135)) (fun _ => False) := (hu.then hu2 (fun _ _ => id)).alloc _
  generalize (w2.alloc (.cells #[.int .u64 H, .int .u64 L] 135)) = wb at hB uB ⊢
  generalize w2.heap.size = B at hB ⊢
  obtain ⟨z0, z1⟩ := cells2 hB
  have hBl := lt_at hB
  clear hB hu hu2
  go_loopg [5] x0 (fun q v wr => ∃ x : Nat, v = .int .u64 x ∧ x ≤ q ∧ x < 18446744073709551616 ∧ Upd wb wr (fun _ => False))
  case atStart => exact ⟨x0, rfl, Nat.le_refl _, hx0, Upd.refl _ _⟩
  case round =>
    obtain ⟨x, rfl, hx, hxb, hur⟩ := hrel
    have c0 := (hur.cell B 0 hBl id).trans z0
    have c1 := (hur.cell B 1 hBl id).trans z1
    go_wp2_with fail
    have hBr : B < wr.heap.size := by have := hur.size; omega
    go_region_held3 (fun w' => w'.cell? ⟨B, 0, none⟩ = some (.int .u64 H) ∧ w'.cell? ⟨B, 1, none⟩ = some (.int .u64 L) ∧ Upd wr w' (fun _ => False))
      (first
        | (go_keep; done)
        | exact ⟨c0, c1, (Upd.refl wr _).drew⟩
        | (have hz : Upd wr w4 (fun _ => False) := Upd.then ((Upd.refl wr (fun _ => False)).drew) hv (fun _ _ => id); exact ⟨(hz.cell B 0 hBr id).trans c0, (hz.cell B 1 hBr id).trans c1, hz⟩)
        | (have hz : Upd wr w4 (fun _ => False) := Upd.then (And.right (And.right (by assumption))) hv (fun _ _ => id); exact ⟨(hz.cell B 0 hBr id).trans c0, (hz.cell B 1 hBr id).trans c1, hz⟩))
      ((first
        | (go_at_call 117; refine Calls.mono (hp x x _ hxb hxb) ?_; rintro e w4 ⟨rfl, hv⟩)
        | (go_at_call 119; refine Calls.mono (hab (x * x) _) ?_; rintro e w4 ⟨rfl, hv⟩)))
    have hz : Upd wr w4 (fun _ => False) := And.right (And.right (by assumption))
    obtain ⟨g1, hg1⟩ : ∃ g1, decide (D < x * x) = g1 := ⟨_, rfl⟩
    rw [hg1]
    cases g1
    case true =>
      have hgt : D < x * x := of_decide_eq_true hg1
      clear hg1
      have hx1 : 1 ≤ x := by
        rcases Nat.eq_zero_or_pos x with e | e
        · subst e; omega
        · exact e
      clear hgt
      go_wp2_with fail
      go_roundg (gk - 1)
      case measure => omega
      case rel => exact ⟨x - 1, by congr 1; omega, by omega, by omega, hur.then hz (fun _ _ => id)⟩
    case false =>
      have hgt : ¬ D < x * x := of_decide_eq_false hg1
      clear hg1
      have hle : x * x ≤ D := by omega
      have u4 : Upd wb w4 (fun _ => False) := hur.then hz (fun _ _ => id)
      clear hgt hz hBr c0 c1
      obtain ⟨wo, hwo⟩ : ∃ wo : World, wo = wr := ⟨_, rfl⟩
      go_wp2_with fail
      go_loopg [5] D (fun q v w5 => ∃ y : Nat, v = .int .u64 y ∧ y * y ≤ D ∧ D - y ≤ q ∧ Upd wb w5 (fun _ => False))
      case atStart => exact ⟨x, rfl, hle, by omega, u4⟩
      case round =>
        clear hle hx hxb hur u4 hwo
        obtain ⟨y, rfl, hy, hq, hur⟩ := hrel
        have hy4 : y < 400000000000 := by
          rcases Nat.lt_or_ge y 400000000000 with e | e
          · exact e
          · have := Nat.mul_le_mul e e
            omega
        have c0 := (hur.cell B 0 hBl id).trans z0
        have c1 := (hur.cell B 1 hBl id).trans z1
        have hBr : B < wr.heap.size := by have := hur.size; omega
        have wa : IntKind.u64.wrap ((y : Int) + 1) = (y : Int) + 1 := Mul64.wrapN (y + 1) (by omega)
        have hp2 := fun w => hp (y + 1) (y + 1) w (by omega) (by omega)
        have hp3 := fun w => hp y (y + 1) w (by omega) (by omega)
        rw [show ((y + 1 : Nat) : Int) = (y : Int) + 1 from rfl] at hp2 hp3
        go_wp2_with fail
        go_region_held3 (fun w' => w'.cell? ⟨B, 0, none⟩ = some (.int .u64 H) ∧ w'.cell? ⟨B, 1, none⟩ = some (.int .u64 L) ∧ Upd wr w' (fun _ => False))
          (first
            | (go_keep; done)
            | exact ⟨c0, c1, (Upd.refl wr _).drew⟩
            | (have hz : Upd wr w4 (fun _ => False) := Upd.then ((Upd.refl wr (fun _ => False)).drew) hv (fun _ _ => id); exact ⟨(hz.cell B 0 hBr id).trans c0, (hz.cell B 1 hBr id).trans c1, hz⟩)
            | (have hz : Upd wr w4 (fun _ => False) := Upd.then (And.right (And.right (by assumption))) hv (fun _ _ => id); exact ⟨(hz.cell B 0 hBr id).trans c0, (hz.cell B 1 hBr id).trans c1, hz⟩))
          ((first
            | (go_at_call 117; refine Calls.mono (hp2 _) ?_; rintro e w4 ⟨rfl, hv⟩)
            | (go_at_call 119; refine Calls.mono (hab ((y + 1) * (y + 1)) _) ?_; rintro e w4 ⟨rfl, hv⟩)))
        have hz : Upd wr w4 (fun _ => False) := And.right (And.right (by assumption))
        obtain ⟨g2, hg2⟩ : ∃ g2, decide (D < (y + 1) * (y + 1)) = g2 := ⟨_, rfl⟩
        rw [hg2]
        cases g2
        case true =>
          have hgt : D < (y + 1) * (y + 1) := of_decide_eq_true hg2
          clear hg2
          have u4 : Upd wb w4 (fun _ => False) := hur.then hz (fun _ _ => id)
          have k0 := (u4.cell B 0 hBl id).trans z0
          have k1 := (u4.cell B 1 hBl id).trans z1
          have hB4 : B < w4.heap.size := by have := u4.size; omega
          obtain ⟨w5, hw5⟩ : ∃ w5 : World, w5 = w4 := ⟨_, rfl⟩
          rw [← hw5] at u4 k0 k1 hB4 ⊢
          clear hz hw5 c0 c1 hBr
          go_wp2_with fail
          go_region_held3 (fun w' => w'.cell? ⟨B, 0, none⟩ = some (.int .u64 H) ∧ w'.cell? ⟨B, 1, none⟩ = some (.int .u64 L) ∧ Upd w5 w' (fun _ => False))
            (first
              | (go_keep; done)
              | exact ⟨k0, k1, (Upd.refl w5 _).drew⟩
              | (have hz : Upd w5 w4 (fun _ => False) := Upd.then ((Upd.refl w5 (fun _ => False)).drew) hv (fun _ _ => id); exact ⟨(hz.cell B 0 hB4 id).trans k0, (hz.cell B 1 hB4 id).trans k1, hz⟩)
              | (have hz : Upd w5 w4 (fun _ => False) := Upd.then (And.right (And.right (by assumption))) hv (fun _ _ => id); exact ⟨(hz.cell B 0 hB4 id).trans k0, (hz.cell B 1 hB4 id).trans k1, hz⟩))
            ((first
              | (go_at_call 117; refine Calls.mono (hp3 _) ?_; rintro e w4 ⟨rfl, hv⟩)
              | (go_at_call 119; refine Calls.mono (hba (y * (y + 1)) _) ?_; rintro e w4 ⟨rfl, hv⟩)))
          have hz : Upd w5 w4 (fun _ => False) := And.right (And.right (by assumption))
          have uz := uB.then (u4.then hz (fun _ _ => id)) (fun _ _ => id)
          obtain ⟨g3, hg3⟩ : ∃ g3, decide (y * (y + 1) < D) = g3 := ⟨_, rfl⟩
          rw [hg3]
          cases g3
          case true =>
            have hmid : y * (y + 1) < D := of_decide_eq_true hg3
            clear hg3
            go_wp2_with fail
            go_ret2
            exact ⟨y, by rw [if_pos hmid]; simp, hy, hgt, uz⟩
          case false =>
            have hmid : ¬ y * (y + 1) < D := of_decide_eq_false hg3
            clear hg3
            go_wp2_with fail
            go_ret2
            exact ⟨y, by rw [if_neg hmid]; simp, hy, hgt, uz⟩
        case false =>
          have hgt : ¬ D < (y + 1) * (y + 1) := of_decide_eq_false hg2
          clear hg2
          have hlt : y < D := by
            have h1 := Nat.mul_le_mul (Nat.le_refl (y + 1)) (show 1 ≤ y + 1 by omega)
            omega
          go_wp2_with fail
          go_roundg (gk - 1)
          case measure => omega
          case rel => exact ⟨y + 1, by go_num, by omega, by omega, hur.then hz (fun _ _ => id)⟩
end Go.Proofs.YtmfngdjhkpddoaaGreatDoor.Fl
/- The law's fixed examples of package float come true. -/
set_option maxRecDepth 100000
namespace Go.Proofs.YtmfngdjhkpddoaaGreatDoor.Fl
open Go.RowKit Go.Lat

end Go.Proofs.YtmfngdjhkpddoaaGreatDoor.Fl
/- The walks of float.Order and of the reference's class, parts and order. -/
set_option maxRecDepth 100000
namespace Go.Proofs.YtmfngdjhkpddoaaGreatDoor.Fl
open Go.RowKit Go.Lat

def cmpI (x y : Int) : Int := if x < y then -1 else if y < x then 1 else 0

def ordV (b c : Nat) : Int := if cls b = 0 ∨ cls c = 0 then cmpI (cls c) (cls b) else if cls b = cls c then cmpI (sval b) (sval c) else cmpI (cls b) (cls c)

theorem cls_nan (b : Nat) : cls b = 0 ↔ infR < rng b := by
  unfold cls
  by_cases h : infR < rng b
  · simp [h]
  · rw [if_neg h]
    constructor
    · intro he
      split at he <;> (split at he) <;> (try split at he) <;> omega
    · intro he; exact absurd he h

end Go.Proofs.YtmfngdjhkpddoaaGreatDoor.Fl
