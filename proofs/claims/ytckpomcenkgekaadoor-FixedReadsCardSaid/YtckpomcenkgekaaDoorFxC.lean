/- The walks of fixed.power and fixed.Round. -/
import Derived.Test.YtckpomcenkgekaaDoorFxB
import Derived.Test.YtckpomcenkgekaaDoorFNear
import Derived.Test.YtckpomcenkgekaaDoorShelf
set_option maxRecDepth 100000
namespace Go.Proofs.YtckpomcenkgekaaDoor
open Go.RowKit Go.Lat

theorem pow19 (n : Nat) (hn : n ≤ 19) : 10 ^ n ≤ 10000000000000000000 := by
  have := Nat.pow_le_pow_right (n := 10) (by omega) hn
  have e : (10 : Nat) ^ 19 = 10000000000000000000 := by decide
  omega

theorem power_any (w : World) (n : Nat) (hn : n ≤ 19) : Calls Tryd.prog 51 #[.int .i64 n] w fun e w' => e = .returned (.int .u64 ((10 ^ n : Nat) : Int)) ∧ w' = w := by
  go_enter Tryd.func51, Tryd.ntmps51
  go_wp2_with fail
  go_loopg [3, 5] n (fun q p i wr => wr = w ∧ ∃ k : Nat, k + q = n ∧ i = .int .i64 k ∧ p = .int .u64 ((10 ^ k : Nat) : Int))
  case atStart => exact ⟨rfl, 0, by omega, rfl, rfl⟩
  case round =>
    obtain ⟨hwr, k, hk, rfl, rfl⟩ := hrel
    replace hwr := hwr.symm
    subst hwr
    by_cases hkn : k < n
    · have d1 : decide (k < n) = true := by simpa using hkn
      have hp := pow19 (k + 1) (by omega)
      obtain ⟨T, hT⟩ : ∃ T, 10 ^ k = T := ⟨_, rfl⟩
      have e1 : 10 ^ (k + 1) = T * 10 := by rw [Nat.pow_succ, hT]
      rw [e1] at hp
      rw [hT]
      have w1 : IntKind.u64.wrap ((T : Int) * 10) = (T : Int) * 10 := by rw [IntKind.wrap_u64]; omega
      have HE := hide e1
      clear e1 hT
      go_wp2_with fail
      go_roundg (gk - 1)
      case measure => omega
      case rel => exact ⟨rfl, k + 1, by omega, by go_num, by rw [HE.out]; simp⟩
    · have hke : k = n := by omega
      subst hke
      have d1 : decide (k < k) = false := by simp
      go_wp2_with fail
      go_ret
      exact ⟨rfl, rfl⟩

set_option maxHeartbeats 3200000 in
theorem Round_up (w : World) (s : Bool) (x : Nat) (hx : x ≤ 9000000000000000000) (h0 : s = true → 0 < x) (p : Int) (hp : -15 ≤ p) (hp2 : p ≤ 3) (e : Nat) (he : (e : Int) = 4 - p) (T : Nat) (hT : 10 ^ e = T) (hg : T ≤ 2 * (x % T)) :
    Calls Tryd.prog 27 #[.int .i64 (if s then -(x : Int) else x), .int .i64 p] w fun e w' => e = .returned (.tuple #[.int .i64 (numV s ((x / T + 1) * T)), .int .i64 (numE ((x / T + 1) * T))]) ∧ Upd w w' (fun _ => False) := by
  have hTp : 0 < T := by rw [← hT]; exact Nat.pow_pos (by omega)
  have hTb := pow19 e (by omega)
  rw [hT] at hTb
  have G := fun w B h => fixgood_any w B (if s then -(x : Int) else x) h
  rw [show okNum (if s then -(x : Int) else (x : Int)) = true from by cases s <;> simp [okNum] <;> omega] at G
  have S := fun w => size_any w s x hx h0
  have P := fun w => power_any w e (by omega)
  rw [hT] at P
  generalize (if s then -(x : Int) else (x : Int)) = v at *
  have hmod := Nat.mod_lt x hTp
  have mixed := Tryd.lays219.mixed
  have d1 : decide (p < -15) = false := by simp; omega
  have d2 : decide (15 < p) = false := by simp; omega
  have d3 : decide (4 ≤ p) = false := by simp; omega
  have w1 : IntKind.i64.wrap (4 - p) = (e : Int) := by rw [← he]; exact IntWalk.i64_in _ (by omega)
  obtain ⟨q, hq⟩ : ∃ q, x / T = q := ⟨_, rfl⟩
  obtain ⟨r, hr⟩ : ∃ r, x % T = r := ⟨_, rfl⟩
  have hqx : q ≤ x := by rw [← hq]; exact Nat.div_le_self ..
  rw [hq]
  rw [hr] at hg hmod
  have t0 : ¬ (T : Int) = 0 := by omega
  have t0' : ¬ T = 0 := by omega
  have e1 : (x : Int) / (T : Int) = (q : Int) := by rw [← hq]; rfl
  have e2 : (x : Int) % (T : Int) = (r : Int) := by rw [← hr]; rfl
  have w2 : IntKind.u64.wrap (q : Int) = (q : Int) := by rw [IntKind.wrap_u64]; omega
  obtain ⟨d, hd⟩ : ∃ d, T - r = d := ⟨_, rfl⟩
  have e3 : (T : Int) - (r : Int) = (d : Int) := by omega
  have w3 : IntKind.u64.wrap (d : Int) = (d : Int) := by rw [IntKind.wrap_u64]; omega
  have d4 : decide (d ≤ r) = true := by simp; omega
  obtain ⟨k, hk⟩ : ∃ k, q + 1 = k := ⟨_, rfl⟩
  have e4 : (q : Int) + 1 = (k : Int) := by omega
  have w4 : IntKind.u64.wrap (k : Int) = (k : Int) := by rw [IntKind.wrap_u64]; omega
  rw [hk]
  clear hk
  obtain ⟨M, hM⟩ : ∃ M, 9000000000000000000 / T = M := ⟨_, rfl⟩
  have e5 : (9000000000000000000 : Int) / (T : Int) = (M : Int) := by rw [← hM]; rfl
  have hMb : M ≤ 9000000000000000000 := by rw [← hM]; exact Nat.div_le_self ..
  have w5 : IntKind.u64.wrap (M : Int) = (M : Int) := by rw [IntKind.wrap_u64]; omega
  have hcmp : 9000000000000000000 < k * T ↔ M < k := by rw [← hM, Nat.div_lt_iff_lt_mul hTp]
  obtain ⟨V, hV⟩ : ∃ V, k * T = V := ⟨_, rfl⟩
  have e6 : (k : Int) * (T : Int) = (V : Int) := by rw [← hV]; simp
  rw [hV] at hcmp ⊢
  unfold numV numE
  by_cases hz : M < k
  · have d5 : decide (M < k) = true := by simpa using hz
    rw [if_pos (hcmp.2 hz), if_pos (hcmp.2 hz)]
    clear hq hr hg hmod hT hTb hTp hd hM hMb hcmp hV hz hx h0 he hp hp2 hqx
    go_enter Tryd.func27, Tryd.ntmps27
    go_wp2_with fail
    refine Calls.mono (G _ _ (cells1 (heap_alloc_new w _))) ?_
    rintro e' w1 ⟨rfl, rfl⟩
    go_wp2_with fail
    refine Calls.mono (S _) ?_
    rintro e' w2 ⟨rfl, rfl⟩
    go_wp2_with fail
    refine Calls.mono (P _) ?_
    rintro e' w3 ⟨rfl, rfl⟩
    go_wp2_with fail
    go_region_o
    go_wp2_with fail
    go_ret2
    exact ⟨rfl, ((Upd.refl w _).alloc _).drew⟩
  · have d5 : decide (M < k) = false := by simpa using hz
    have hVb : ¬ 9000000000000000000 < V := fun h => hz (hcmp.1 h)
    rw [if_neg hVb, if_neg hVb]
    have w6 : IntKind.u64.wrap (V : Int) = (V : Int) := by rw [IntKind.wrap_u64]; omega
    have w7 : IntKind.i64.wrap (V : Int) = (V : Int) := IntWalk.i64_in _ (by omega)
    have w8 : IntKind.i64.wrap (-(V : Int)) = -(V : Int) := IntWalk.i64_in _ (by omega)
    clear hq hr hg hmod hT hTb hTp hd hM hMb hcmp hV hz hx h0 he hp hp2 hqx hVb
    cases s with
    | false =>
      go_enter Tryd.func27, Tryd.ntmps27
      go_wp2_with fail
      refine Calls.mono (G _ _ (cells1 (heap_alloc_new w _))) ?_
      rintro e' w1 ⟨rfl, rfl⟩
      go_wp2_with fail
      refine Calls.mono (S _) ?_
      rintro e' w2 ⟨rfl, rfl⟩
      go_wp2_with fail
      refine Calls.mono (P _) ?_
      rintro e' w3 ⟨rfl, rfl⟩
      go_wp2_with fail
      go_region_o
      go_wp2_with fail
      go_ret2
      exact ⟨rfl, ((Upd.refl w _).alloc _).drew⟩
    | true =>
      go_enter Tryd.func27, Tryd.ntmps27
      go_wp2_with fail
      refine Calls.mono (G _ _ (cells1 (heap_alloc_new w _))) ?_
      rintro e' w1 ⟨rfl, rfl⟩
      go_wp2_with fail
      refine Calls.mono (S _) ?_
      rintro e' w2 ⟨rfl, rfl⟩
      go_wp2_with fail
      refine Calls.mono (P _) ?_
      rintro e' w3 ⟨rfl, rfl⟩
      go_wp2_with fail
      go_region_o
      go_wp2_with fail
      go_ret2
      exact ⟨rfl, ((Upd.refl w _).alloc _).drew⟩

set_option maxHeartbeats 3200000 in
theorem Round_down (w : World) (s : Bool) (x : Nat) (hx : x ≤ 9000000000000000000) (h0 : s = true → 0 < x) (p : Int) (hp : -15 ≤ p) (hp2 : p ≤ 3) (e : Nat) (he : (e : Int) = 4 - p) (T : Nat) (hT : 10 ^ e = T) (hg : 2 * (x % T) < T) :
    Calls Tryd.prog 27 #[.int .i64 (if s then -(x : Int) else x), .int .i64 p] w fun e w' => e = .returned (.tuple #[.int .i64 (numV s ((x / T) * T)), .int .i64 (numE ((x / T) * T))]) ∧ Upd w w' (fun _ => False) := by
  have hTp : 0 < T := by rw [← hT]; exact Nat.pow_pos (by omega)
  have hTb := pow19 e (by omega)
  rw [hT] at hTb
  have G := fun w B h => fixgood_any w B (if s then -(x : Int) else x) h
  rw [show okNum (if s then -(x : Int) else (x : Int)) = true from by cases s <;> simp [okNum] <;> omega] at G
  have S := fun w => size_any w s x hx h0
  have P := fun w => power_any w e (by omega)
  rw [hT] at P
  generalize (if s then -(x : Int) else (x : Int)) = v at *
  have hmod := Nat.mod_lt x hTp
  have mixed := Tryd.lays219.mixed
  have d1 : decide (p < -15) = false := by simp; omega
  have d2 : decide (15 < p) = false := by simp; omega
  have d3 : decide (4 ≤ p) = false := by simp; omega
  have w1 : IntKind.i64.wrap (4 - p) = (e : Int) := by rw [← he]; exact IntWalk.i64_in _ (by omega)
  obtain ⟨q, hq⟩ : ∃ q, x / T = q := ⟨_, rfl⟩
  obtain ⟨r, hr⟩ : ∃ r, x % T = r := ⟨_, rfl⟩
  have hqx : q ≤ x := by rw [← hq]; exact Nat.div_le_self ..
  rw [hq]
  rw [hr] at hg hmod
  have t0 : ¬ (T : Int) = 0 := by omega
  have t0' : ¬ T = 0 := by omega
  have e1 : (x : Int) / (T : Int) = (q : Int) := by rw [← hq]; rfl
  have e2 : (x : Int) % (T : Int) = (r : Int) := by rw [← hr]; rfl
  have w2 : IntKind.u64.wrap (q : Int) = (q : Int) := by rw [IntKind.wrap_u64]; omega
  obtain ⟨d, hd⟩ : ∃ d, T - r = d := ⟨_, rfl⟩
  have e3 : (T : Int) - (r : Int) = (d : Int) := by omega
  have w3 : IntKind.u64.wrap (d : Int) = (d : Int) := by rw [IntKind.wrap_u64]; omega
  have d4 : decide (d ≤ r) = false := by simp; omega
  obtain ⟨M, hM⟩ : ∃ M, 9000000000000000000 / T = M := ⟨_, rfl⟩
  have e5 : (9000000000000000000 : Int) / (T : Int) = (M : Int) := by rw [← hM]; rfl
  have hMb : M ≤ 9000000000000000000 := by rw [← hM]; exact Nat.div_le_self ..
  have w5 : IntKind.u64.wrap (M : Int) = (M : Int) := by rw [IntKind.wrap_u64]; omega
  have hcmp : 9000000000000000000 < q * T ↔ M < q := by rw [← hM, Nat.div_lt_iff_lt_mul hTp]
  obtain ⟨V, hV⟩ : ∃ V, q * T = V := ⟨_, rfl⟩
  have e6 : (q : Int) * (T : Int) = (V : Int) := by rw [← hV]; simp
  rw [hV] at hcmp ⊢
  unfold numV numE
  by_cases hz : M < q
  · have d5 : decide (M < q) = true := by simpa using hz
    rw [if_pos (hcmp.2 hz), if_pos (hcmp.2 hz)]
    clear hq hr hg hmod hT hTb hTp hd hM hMb hcmp hV hz hx h0 he hp hp2 hqx
    go_enter Tryd.func27, Tryd.ntmps27
    go_wp2_with fail
    refine Calls.mono (G _ _ (cells1 (heap_alloc_new w _))) ?_
    rintro e' w1 ⟨rfl, rfl⟩
    go_wp2_with fail
    refine Calls.mono (S _) ?_
    rintro e' w2 ⟨rfl, rfl⟩
    go_wp2_with fail
    refine Calls.mono (P _) ?_
    rintro e' w3 ⟨rfl, rfl⟩
    go_wp2_with fail
    go_region_o
    go_wp2_with fail
    go_ret2
    exact ⟨rfl, ((Upd.refl w _).alloc _).drew⟩
  · have d5 : decide (M < q) = false := by simpa using hz
    have hVb : ¬ 9000000000000000000 < V := fun h => hz (hcmp.1 h)
    rw [if_neg hVb, if_neg hVb]
    have w6 : IntKind.u64.wrap (V : Int) = (V : Int) := by rw [IntKind.wrap_u64]; omega
    have w7 : IntKind.i64.wrap (V : Int) = (V : Int) := IntWalk.i64_in _ (by omega)
    have w8 : IntKind.i64.wrap (-(V : Int)) = -(V : Int) := IntWalk.i64_in _ (by omega)
    clear hq hr hg hmod hT hTb hTp hd hM hMb hcmp hV hz hx h0 he hp hp2 hqx hVb
    cases s with
    | false =>
      go_enter Tryd.func27, Tryd.ntmps27
      go_wp2_with fail
      refine Calls.mono (G _ _ (cells1 (heap_alloc_new w _))) ?_
      rintro e' w1 ⟨rfl, rfl⟩
      go_wp2_with fail
      refine Calls.mono (S _) ?_
      rintro e' w2 ⟨rfl, rfl⟩
      go_wp2_with fail
      refine Calls.mono (P _) ?_
      rintro e' w3 ⟨rfl, rfl⟩
      go_wp2_with fail
      go_region_o
      go_wp2_with fail
      go_ret2
      exact ⟨rfl, ((Upd.refl w _).alloc _).drew⟩
    | true =>
      go_enter Tryd.func27, Tryd.ntmps27
      go_wp2_with fail
      refine Calls.mono (G _ _ (cells1 (heap_alloc_new w _))) ?_
      rintro e' w1 ⟨rfl, rfl⟩
      go_wp2_with fail
      refine Calls.mono (S _) ?_
      rintro e' w2 ⟨rfl, rfl⟩
      go_wp2_with fail
      refine Calls.mono (P _) ?_
      rintro e' w3 ⟨rfl, rfl⟩
      go_wp2_with fail
      go_region_o
      go_wp2_with fail
      go_ret2
      exact ⟨rfl, ((Upd.refl w _).alloc _).drew⟩

end Go.Proofs.YtckpomcenkgekaaDoor
