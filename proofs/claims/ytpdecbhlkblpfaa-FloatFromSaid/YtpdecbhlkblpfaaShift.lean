/- The walks of package float's shifts. -/
import Derived.Test.YtpdecbhlkblpfaaMul
set_option maxRecDepth 100000
namespace Go.Proofs.Ytpdecbhlkblpfaa
open Go.RowKit Go.Lat

theorem left_zero (w : World) (k : Nat) : Calls Try.prog 31 #[.agg #[.int .u64 0, .int .u64 0], .int .i64 k] w fun e w' => e = .returned (.tuple #[.int .u64 0, .bool true]) ∧ Upd w w' (fun _ => False) := by
  go_enter Try.func31, Try.ntmps31
  go_wp2_with fail
  go_ret2
  exact ⟨rfl, (Upd.refl w _).alloc _⟩

theorem left_high (w : World) (h l k : Nat) (hh : 0 < h) : Calls Try.prog 31 #[.agg #[.int .u64 h, .int .u64 l], .int .i64 k] w fun e w' => e = .returned (.tuple #[.int .u64 0, .bool false]) ∧ Upd w w' (fun _ => False) := by
  have d1 : ((h : Int) == 0) = false := by simp; omega
  have d2 : ((h : Int) != 0) = true := by simp; omega
  have d3 : ¬ (h : Int) = 0 := by omega
  go_enter Try.func31, Try.ntmps31
  go_wp2_with fail
  all_goals go_ret2
  all_goals exact ⟨rfl, (Upd.refl w _).alloc _⟩

theorem bitLenAux_spec : ∀ (f x : Nat), x < 2 ^ f → Lib.bitLenAux f x ≤ f ∧ x < 2 ^ Lib.bitLenAux f x ∧ (0 < x → 1 ≤ Lib.bitLenAux f x ∧ 2 ^ (Lib.bitLenAux f x - 1) ≤ x)
  | 0, x, h => by simp [Lib.bitLenAux] at h ⊢; omega
  | f + 1, x, h => by
    unfold Lib.bitLenAux
    by_cases hx : x = 0
    · simp [hx]
    · rw [if_neg hx]
      have hp := Nat.pow_succ (n := 2) (m := f)
      obtain ⟨a, b, c⟩ := bitLenAux_spec f (x / 2) (by omega)
      refine ⟨by omega, ?_, fun _ => ⟨by omega, ?_⟩⟩
      · rw [Nat.add_comm 1, Nat.pow_succ]
        omega
      · rw [Nat.add_sub_cancel_left]
        by_cases h2 : x / 2 = 0
        · have h1 : x = 1 := by omega
          subst h1
          have : Lib.bitLenAux f 0 = 0 := by cases f <;> rfl
          simp [this]
        · obtain ⟨c1, c2⟩ := c (by omega)
          have e : 2 ^ Lib.bitLenAux f (x / 2) = 2 * 2 ^ (Lib.bitLenAux f (x / 2) - 1) := by
            rw [← Nat.pow_succ']
            congr 1
            omega
          omega

theorem left_low (w : World) (l k : Nat) (hl : 0 < l) (hl2 : l < 18446744073709551616) (hk : k ≤ 2000) : Calls Try.prog 31 #[.agg #[.int .u64 0, .int .u64 l], .int .i64 k] w fun e w' => e = .returned (.tuple #[.int .u64 (if l * 2 ^ k < 18446744073709551616 then l * 2 ^ k else 0 : Nat), .bool (decide (l * 2 ^ k < 18446744073709551616))]) ∧ Upd w w' (fun _ => False) := by
  have hL := fun w => Len64_any (l : Int) w (by omega) (by omega)
  obtain ⟨s1, s2, s3⟩ := bitLenAux_spec 64 l (by omega)
  obtain ⟨s4, s5⟩ := s3 hl
  have eL : Lib.bitLen (l : Int).toNat = Lib.bitLenAux 64 l := rfl
  rw [eL] at hL
  generalize Lib.bitLenAux 64 l = L at *
  clear eL s3
  have d1 : ((l : Int) == 0) = false := by simp; omega
  have d2 : ¬ (l : Int) = 0 := by omega
  have pk : 0 < 2 ^ k := Nat.two_pow_pos k
  by_cases hk64 : 64 ≤ k
  · have hbig : ¬ l * 2 ^ k < 18446744073709551616 := by
      have h1 : 2 ^ 64 ≤ 2 ^ k := Nat.pow_le_pow_right (by omega) hk64
      have h2 := Nat.mul_le_mul hl h1
      omega
    rw [if_neg hbig, decide_eq_false hbig]
    have d3 : decide ((64 : Int) ≤ (k : Int)) = true := by simp; omega
    clear hbig s5 s2 pk
    go_enter Try.func31, Try.ntmps31
    go_wp2_with fail
    go_ret2
    exact ⟨rfl, (Upd.refl w _).alloc _⟩
  · have d3 : decide ((64 : Int) ≤ (k : Int)) = false := by simp; omega
    by_cases hLk : 64 < L + k
    · have hbig : ¬ l * 2 ^ k < 18446744073709551616 := by
        have h1 : 2 ^ 64 ≤ 2 ^ (L - 1) * 2 ^ k := by rw [← Nat.pow_add]; exact Nat.pow_le_pow_right (by omega) (by omega)
        have h2 := Nat.mul_le_mul_right (2 ^ k) s5
        omega
      rw [if_neg hbig, decide_eq_false hbig]
      have d4 : decide ((64 : Int) < (L : Int) + (k : Int)) = true := by simp; omega
      clear hbig s5 s2 pk
      go_enter Try.func31, Try.ntmps31
      go_wp2_with fail
      refine Calls.mono (hL _) ?_
      rintro e w1 ⟨rfl, rfl⟩
      go_wp2_with fail
      go_ret2
      exact ⟨rfl, (Upd.refl w _).alloc _⟩
    · have hsm : l * 2 ^ k < 18446744073709551616 := by
        have h1 : 2 ^ L * 2 ^ k ≤ 2 ^ 64 := by rw [← Nat.pow_add]; exact Nat.pow_le_pow_right (by omega) (by omega)
        have h2 := Nat.mul_lt_mul_of_pos_right s2 pk
        omega
      rw [if_pos hsm, decide_eq_true hsm]
      have d4 : decide ((64 : Int) < (L : Int) + (k : Int)) = false := by simp; omega
      have wl : IntKind.u64.wrap ((l : Int) * 2 ^ k) = ((l * 2 ^ k : Nat) : Int) := by
        have e1 := Mul64.wrapN (l * 2 ^ k) hsm
        have e2 : ((l * 2 ^ k : Nat) : Int) = (l : Int) * 2 ^ k := by simp
        rw [e2] at e1 ⊢
        exact e1
      clear hsm s5 s2 pk
      go_enter Try.func31, Try.ntmps31
      go_wp2_with fail
      refine Calls.mono (hL _) ?_
      rintro e w1 ⟨rfl, rfl⟩
      go_wp2_with fail
      go_ret2
      exact ⟨by simp, (Upd.refl w _).alloc _⟩

theorem pow_half (j : Nat) (h : 1 ≤ j) : 2 ^ j = 2 * 2 ^ (j - 1) := by
  rw [← Nat.pow_succ']
  congr 1
  omega

/-- A number of two words, moved right and rounded: a step of 64. -/
theorem shr_step (h l j : Nat) (hl : l < 18446744073709551616) (hj : 64 < j) : (h * 18446744073709551616 + l + 2 ^ (j - 1)) / 2 ^ j = (h + 2 ^ (j - 64 - 1)) / 2 ^ (j - 64) := by
  have e1 : 2 ^ j = 18446744073709551616 * 2 ^ (j - 64) := by
    rw [show 18446744073709551616 = 2 ^ 64 from rfl, ← Nat.pow_add]
    congr 1
    omega
  have e2 : 2 ^ (j - 1) = 18446744073709551616 * 2 ^ (j - 64 - 1) := by
    rw [show 18446744073709551616 = 2 ^ 64 from rfl, ← Nat.pow_add]
    congr 1
    omega
  rw [e1, e2, ← Nat.div_div_eq_div_mul]
  congr 1
  omega

theorem shr_last (l P : Nat) (hP : 0 < P) : (l + P) / (2 * P) = l / (2 * P) + l / P % 2 := by
  have e : ∀ x, x / (2 * P) = x / P / 2 := fun x => by rw [Nat.mul_comm, Nat.div_div_eq_div_mul]
  rw [e, e, Nat.add_div_right _ hP]
  omega

theorem and1 (b : Nat) : b &&& 1 = b % 2 := Nat.and_two_pow_sub_one_eq_mod b 1

set_option maxHeartbeats 1600000 in
theorem right_any (w : World) (h1 l1 k X : Nat) (hh : h1 < 18446744073709551616) (hl : l1 < 18446744073709551616) (hk : 1 ≤ k) (hk2 : k ≤ 2000) (hX : (h1 * 18446744073709551616 + l1 + 2 ^ (k - 1)) / 2 ^ k = X) :
    Calls Try.prog 32 #[.agg #[.int .u64 h1, .int .u64 l1], .int .i64 k] w fun e w' => ∃ v : Nat, e = .returned (.tuple #[.int .u64 v, .bool (decide (X < 18446744073709551616))]) ∧ (X < 18446744073709551616 → v = X) ∧ Upd w w' (fun _ => False) := by
  go_enter Try.func32, Try.ntmps32
  go_wp2_with fail
  go_loopg [1] k (fun q v wr => ∃ j h l : Nat, v = .int .i64 j ∧ j ≤ q ∧ j ≤ k ∧ 1 ≤ j ∧ h < 18446744073709551616 ∧ l < 18446744073709551616 ∧ (h * 18446744073709551616 + l + 2 ^ (j - 1)) / 2 ^ j = X ∧ wr.heap[w.heap.size]? = some (.cells #[.int .u64 h, .int .u64 l] 57 (0, 0)) ∧ Upd w wr (fun _ => False))
  case atStart => exact ⟨k, h1, l1, rfl, Nat.le_refl _, Nat.le_refl _, hk, hh, hl, hX, heap_alloc_new w _, (Upd.refl w _).alloc _⟩
  case round =>
    clear hX hh hl
    obtain ⟨j, h, l, rfl, hj, hjk, hj1, hh, hl, hX, hb, hu⟩ := hrel
    obtain ⟨c0, c1⟩ := cells2 hb
    have f0 := free_at hb 0
    have f1 := free_at hb 1
    have HX := hide hX
    have HB := hide hb
    clear hX hb
    by_cases hj64 : 64 < j
    · have d1 : decide (64 < (j : Int)) = true := by simp; omega
      go_wp2_with fail
      go_roundg (gk - 1)
      case measure => omega
      case rel =>
        refine ⟨j - 64, 0, h, by congr 1; omega, by omega, by omega, by omega, by omega, hh, ?_, ?_, ?_⟩
        · rw [Nat.zero_mul, Nat.zero_add, ← shr_step h l j hl hj64]
          exact HX.out
        · exact block_setCell (block_setCell HB.out 0 _) 1 _
        · exact (hu.setCell _ _ (.inl (Nat.le_refl _))).setCell _ _ (.inl (Nat.le_refl _))
    · have d1 : decide (64 < (j : Int)) = false := by simp; omega
      by_cases hj3 : j < 64
      · have d2 : decide ((j : Int) < 64) = true := by simp; omega
        obtain ⟨P, hP⟩ : ∃ P, 2 ^ (j - 1) = P := ⟨_, rfl⟩
        have pP : 0 < P := by rw [← hP]; exact Nat.two_pow_pos _
        have e2P : 2 ^ j = 2 * P := by rw [← hP]; exact pow_half j hj1
        by_cases hhi : h / (2 * P) = 0
        · have d3 : ((h : Int) / 2 ^ j != 0) = false := by
            have e : ((h : Int) / 2 ^ j) = ((h / 2 ^ j : Nat) : Int) := by simp
            rw [e, e2P, hhi]
            rfl
          have wa : IntKind.i64.wrap ((64 : Int) - (j : Int)) = (64 : Int) - (j : Int) := IntWalk.i64_in _ (by omega)
          have wb : IntKind.i64.wrap ((j : Int) - 1) = (j : Int) - 1 := IntWalk.i64_in _ (by omega)
          have HP := hide hP
          have HE := hide e2P
          clear hP e2P
          go_wp2_with fail
          go_quiet (fail)
          go_wp2_with fail
          go_quiet (fail)
          clear wa wb d3
          obtain ⟨S, hS⟩ : ∃ S, 2 ^ (64 - j) = S := ⟨_, rfl⟩
          have eSP : S * (2 * P) = 18446744073709551616 := by
            rw [← hS, ← HE.out, ← Nat.pow_add, show 64 - j + j = 64 from by omega]
          have hlt : h < 2 * P := by
            rcases Nat.lt_or_ge h (2 * P) with e | e
            · exact e
            · have := Nat.div_pos e (by omega)
              omega
          have hSb : h * S < 18446744073709551616 := by
            rw [← eSP, Nat.mul_comm S]
            exact Nat.mul_lt_mul_of_pos_right hlt (by rw [← hS]; exact Nat.two_pow_pos _)
          have hlq : l / (2 * P) < S := by
            rw [Nat.div_lt_iff_lt_mul (by omega), eSP]
            exact hl
          have hQ : h * S + l / (2 * P) < 18446744073709551616 := by
            have h3 : (h + 1) * S ≤ (2 * P) * S := Nat.mul_le_mul_right _ (by omega)
            rw [Nat.mul_comm (2 * P), eSP, Nat.add_mul] at h3
            omega
          have hor : h * S ||| l / (2 * P) = h * S + l / (2 * P) := by
            have := Nat.two_pow_add_eq_or_of_lt (i := 64 - j) (b := l / (2 * P)) (by rw [hS]; exact hlq) h
            rw [hS, Nat.mul_comm S h] at this
            exact this.symm
          have q1 : bits BinOp.or IntKind.u64 (IntKind.u64.wrap ((h : Int) * 2 ^ (64 - j))) ((l : Int) / 2 ^ j) = ((h * S + l / (2 * P) : Nat) : Int) := by
            have a1 : ((h : Int) * 2 ^ (64 - j)) = ((h * S : Nat) : Int) := by rw [← hS]; simp
            have a2 : ((l : Int) / 2 ^ j) = ((l / (2 * P) : Nat) : Int) := by rw [← HE.out]; simp
            rw [a1, a2, Mul64.wrapN _ hSb, bits_or_u64_nat _ _ hSb (by omega), hor]
          have q2 : bits BinOp.and IntKind.u64 ((l : Int) / 2 ^ (j - 1)) 1 = ((l / P % 2 : Nat) : Int) := by
            have a2 : ((l : Int) / 2 ^ (j - 1)) = ((l / P : Nat) : Int) := by rw [← HP.out]; simp
            have a3 := bits_and_u64_nat (l / P) 1 (by have := Nat.div_le_self l P; omega) (by omega)
            rw [and1] at a3
            rw [a2]
            exact a3
          have eX : X = h * S + l / (2 * P) + l / P % 2 := by
            rw [← HX.out, HP.out, HE.out, ← eSP, ← Nat.mul_assoc, Nat.add_assoc, Nat.mul_comm (h * S), Nat.mul_add_div (by omega), shr_last l P pP]
            omega
          have ha := add64 (h * S + l / (2 * P)) (l / P % 2)
          rw [q1, q2]
          clear q1 q2 hor
          rw [← eX] at ha
          have hXb : X ≤ 18446744073709551616 := by omega
          clear eX hQ hlq hSb hlt eSP hhi
          generalize h * S + l / (2 * P) = Q at ha ⊢
          generalize l / P % 2 = U at ha ⊢
          go_wp2_with fail
          go_ret2
          refine ⟨X % 18446744073709551616, ?_, fun hx => by omega, hu.drewN _⟩
          simp
          rw [Bool.eq_iff_iff]
          simp
          omega
        · have d3 : ((h : Int) / 2 ^ j != 0) = true := by
            have e : ((h : Int) / 2 ^ j) = ((h / 2 ^ j : Nat) : Int) := by simp
            rw [e, e2P]
            exact bne_iff_ne.2 (by omega)
          have hbig : ¬ X < 18446744073709551616 := by
            have h2 : 2 * P ≤ h := by
              rcases Nat.lt_or_ge h (2 * P) with e | e
              · exact absurd (Nat.div_eq_of_lt e) hhi
              · exact e
            rw [← HX.out, e2P]
            have h3 : 18446744073709551616 * (2 * P) ≤ h * 18446744073709551616 + l + 2 ^ (j - 1) := by
              have := Nat.mul_le_mul_left 18446744073709551616 h2
              omega
            have := (Nat.le_div_iff_mul_le (show 0 < 2 * P by omega)).2 h3
            omega
          have HE := hide e2P
          clear hP e2P
          go_wp2_with fail
          go_quiet (fail)
          go_wp2_with fail
          go_ret2
          exact ⟨0, by rw [decide_eq_false hbig]; rfl, fun hx => absurd hx hbig, hu.drewN _⟩
      · have hj4 : j = 64 := by omega
        subst hj4
        go_wp2_with fail
        go_quiet (fail)
        have hX' : X = h + l / 9223372036854775808 := by
          rw [← HX.out]
          omega
        have ha := add64 h (l / 9223372036854775808)
        rw [← hX'] at ha
        have hXb : X ≤ 18446744073709551616 := by omega
        have e : ((l : Int) / 9223372036854775808) = ((l / 9223372036854775808 : Nat) : Int) := by simp
        rw [e]
        clear e hX'
        generalize l / 9223372036854775808 = U at ha ⊢
        go_wp2_with fail
        go_ret2
        refine ⟨X % 18446744073709551616, ?_, fun hx => by omega, hu.drewN _⟩
        simp
        rw [Bool.eq_iff_iff]
        simp
        omega
end Go.Proofs.Ytpdecbhlkblpfaa
