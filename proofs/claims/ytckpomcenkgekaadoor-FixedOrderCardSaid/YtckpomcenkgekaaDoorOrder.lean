/- The walk of FixedOrder. -/
import Derived.Test.YtckpomcenkgekaaDoorFxF
set_option maxRecDepth 100000
namespace Go.Proofs.YtckpomcenkgekaaDoor
open Go.RowKit Go.Lat

theorem addV_comm (a b : Int) : addV a b = addV b a := by
  unfold addV
  rw [Int.add_comm a b, Bool.and_comm (okNum a) (okNum b)]
theorem addE_comm (a b : Int) : addE a b = addE b a := by
  unfold addE
  rw [Int.add_comm a b, Bool.and_comm (okNum a) (okNum b)]

theorem rnd_mul (k T : Nat) (hT : 0 < T) : rnd (k * T) T = k := by
  unfold rnd
  rw [Nat.mul_div_cancel _ hT, Nat.mul_mod_left, if_pos (by omega), Nat.add_zero]
theorem rnd_near (x T : Nat) (hT : 0 < T) : 2 * (rnd x T * T) ≤ 2 * x + T ∧ 2 * x ≤ 2 * (rnd x T * T) + T := by
  have h1 := Nat.div_add_mod x T
  have h2 := Nat.mod_lt x hT
  unfold rnd
  rw [Nat.add_mul, Nat.mul_comm (x / T)]
  generalize T * (x / T) = q at *
  generalize x % T = r at *
  by_cases h : 2 * r < T
  · rw [if_pos h, Nat.zero_mul]
    omega
  · rw [if_neg h, Nat.one_mul]
    omega

theorem Mul_swap (a b : Int) : ∃ V E : Int,
    (∀ w, Calls Tryd.prog 9 #[.int .i64 a, .int .i64 b] w fun e w' => e = .returned (.tuple #[.int .i64 V, .int .i64 E]) ∧ Upd w w' (fun _ => False)) ∧
    (∀ w, Calls Tryd.prog 9 #[.int .i64 b, .int .i64 a] w fun e w' => e = .returned (.tuple #[.int .i64 V, .int .i64 E]) ∧ Upd w w' (fun _ => False)) := by
  cases h : (okNum a && okNum b) with
  | false => exact ⟨0, 5, fun w => Mul_bad w a b h, fun w => Mul_bad w b a (by rw [Bool.and_comm]; exact h)⟩
  | true =>
    simp only [Bool.and_eq_true] at h
    have ba := okNum_true h.1
    have bb := okNum_true h.2
    obtain ⟨s, x, ea, h0, hs, hx⟩ := signed a
    obtain ⟨t, y, eb, k0, ht, hy⟩ := signed b
    refine ⟨_, _, fun w => Mul_in w a b h.1 h.2 s t x y ea eb h0 k0 (by omega) (by omega), fun w => ?_⟩
    have k := Mul_in w b a h.2 h.1 t s y x eb ea k0 h0 (by omega) (by omega)
    rw [Nat.mul_comm y x, show (t != s) = (s != t) from by cases s <;> cases t <;> rfl] at k
    exact k

theorem Mul_unit (a : Int) (h : okNum a = true) (w : World) : Calls Tryd.prog 9 #[.int .i64 a, .int .i64 10000] w fun e w' => e = .returned (.tuple #[.int .i64 a, .int .i64 0]) ∧ Upd w w' (fun _ => False) := by
  have ba := okNum_true h
  obtain ⟨s, x, ea, h0, hs, hx⟩ := signed a
  have k : Calls Tryd.prog 9 #[.int .i64 a, .int .i64 10000] w fun e w' => e = .returned (.tuple #[.int .i64 (numV (s != false) (rnd (x * 10000) 10000)), .int .i64 (numE (rnd (x * 10000) 10000))]) ∧ Upd w w' (fun _ => False) := Mul_in w a 10000 h (by decide) s false x 10000 ea rfl h0 (by simp) (by omega) (by decide)
  rw [rnd_mul x 10000 (by decide)] at k
  have e1 : numE x = 0 := by unfold numE; rw [if_neg (by omega)]
  have e2 : numV (s != false) x = a := by
    unfold numV
    rw [if_neg (by omega), ea]
    cases s <;> rfl
  rw [e1, e2] at k
  exact k

theorem Round_again (w : World) (s : Bool) (k n e T : Nat) (he : n + e = 4) (hn : n ≤ 3) (hT : 10 ^ e = T) (hX : k * T ≤ 9000000000000000000) :
    Calls Tryd.prog 27 #[.int .i64 (if s then -((k * T : Nat) : Int) else ((k * T : Nat) : Int)), .int .i64 n] w fun e w' => e = .returned (.tuple #[.int .i64 (if s then -((k * T : Nat) : Int) else ((k * T : Nat) : Int)), .int .i64 0]) ∧ Upd w w' (fun _ => False) := by
  have hTp : 0 < T := by rw [← hT]; exact Nat.pow_pos (by omega)
  have key : ∀ (t : Bool), (t = true → 0 < k * T) → Calls Tryd.prog 27 #[.int .i64 (if t then -((k * T : Nat) : Int) else ((k * T : Nat) : Int)), .int .i64 n] w fun e w' => e = .returned (.tuple #[.int .i64 (if t then -((k * T : Nat) : Int) else ((k * T : Nat) : Int)), .int .i64 0]) ∧ Upd w w' (fun _ => False) := by
    intro t h0
    have h := Round_in w t (k * T) hX h0 (n : Int) (by omega) (by omega) e (by omega)
    rw [hT, rnd_mul k T hTp] at h
    have nb : ¬ 9000000000000000000 < k * T := by omega
    unfold numV numE at h
    rw [if_neg nb, if_neg nb] at h
    exact h
  by_cases h : k * T = 0
  · have e : (if s then -((k * T : Nat) : Int) else ((k * T : Nat) : Int)) = (if false then -((k * T : Nat) : Int) else ((k * T : Nat) : Int)) := by
      rw [h]
      cases s <;> rfl
    rw [e]
    exact key false (by simp)
  · exact key s (fun _ => by omega)

set_option maxHeartbeats 1600000 in
theorem order_bad (w : World) (a b : Int) (P : Nat) (ht : Pow w) (V2 E2 : Int) (hO : (E2 == 0) = false ∨ V2 = a ∧ E2 = 0) (O : ∀ w, Calls Tryd.prog 9 #[.int .i64 a, .int .i64 10000] w fun e w' => e = .returned (.tuple #[.int .i64 V2, .int .i64 E2]) ∧ Upd w w' (fun _ => False)) (N : Nat) (hP : P % 4 = N)
    (R : ∀ w, Calls Tryd.prog 27 #[.int .i64 a, .int .i64 (N : Int)] w fun e w' => e = .returned (.tuple #[.int .i64 0, .int .i64 5]) ∧ Upd w w' (fun _ => False)) : Calls Tryd.prog 7 #[.int .i64 a, .int .i64 b, .int .u8 (P : Int)] w fun e w' => e = .returned (.bool true) ∧ Upd w w' (fun _ => False) := by
  have A1 := fun w => Add_any w a b
  have A2 := fun w => Add_any w b a
  rw [addV_comm b a, addE_comm b a] at A2
  obtain ⟨V1, E1, M1, M2⟩ := Mul_swap a b
  generalize addV a b = x at *
  generalize addE a b = y at *
  have p1 : (P : Int).tmod 4 = (N : Int) := by rw [← hP]; rfl
  have p2 : (P : Int) % 4 = (N : Int) := by omega
  have p3 : IntKind.u8.wrap (N : Int) = (N : Int) := by rw [IntKind.wrap_u8']; omega
  have p4 : IntKind.i64.wrap (N : Int) = (N : Int) := IntWalk.i64_in _ (by omega)
  clear hP
  rcases hO with hO | ⟨rfl, rfl⟩
  · go_enter Tryd.func7, Tryd.ntmps7
    go_wp2_with fail
    refine Calls.mono (A1 _) ?_
    rintro e w1 ⟨rfl, u1⟩
    go_wp2_with fail
    refine Calls.mono (A2 _) ?_
    rintro e w2 ⟨rfl, u2⟩
    go_wp2_with fail
    refine Calls.mono (M1 _) ?_
    rintro e w3 ⟨rfl, u3⟩
    go_wp2_with fail
    refine Calls.mono (M2 _) ?_
    rintro e w4 ⟨rfl, u4⟩
    go_wp2_with fail
    refine Calls.mono (O _) ?_
    rintro e w5 ⟨rfl, u5⟩
    go_wp2_with fail
    have uu := (((u1.then u2 (fun _ _ => id)).then u3 (fun _ _ => id)).then u4 (fun _ _ => id)).then u5 (fun _ _ => id)
    refine Calls.mono (wakes_any _ (ht.upd uu id)) ?_
    rintro e w6 ⟨rfl, u6⟩
    go_wp2_with fail
    refine Calls.mono (R _) ?_
    rintro e w7 ⟨rfl, u7⟩
    go_wp2_with fail
    go_ret
    exact ⟨rfl, (uu.then u6 (fun _ _ => id)).then u7 (fun _ _ => id)⟩
  · go_enter Tryd.func7, Tryd.ntmps7
    go_wp2_with fail
    refine Calls.mono (A1 _) ?_
    rintro e w1 ⟨rfl, u1⟩
    go_wp2_with fail
    refine Calls.mono (A2 _) ?_
    rintro e w2 ⟨rfl, u2⟩
    go_wp2_with fail
    refine Calls.mono (M1 _) ?_
    rintro e w3 ⟨rfl, u3⟩
    go_wp2_with fail
    refine Calls.mono (M2 _) ?_
    rintro e w4 ⟨rfl, u4⟩
    go_wp2_with fail
    refine Calls.mono (O _) ?_
    rintro e w5 ⟨rfl, u5⟩
    go_wp2_with fail
    have uu := (((u1.then u2 (fun _ _ => id)).then u3 (fun _ _ => id)).then u4 (fun _ _ => id)).then u5 (fun _ _ => id)
    refine Calls.mono (wakes_any _ (ht.upd uu id)) ?_
    rintro e w6 ⟨rfl, u6⟩
    go_wp2_with fail
    refine Calls.mono (R _) ?_
    rintro e w7 ⟨rfl, u7⟩
    go_wp2_with fail
    go_ret
    exact ⟨rfl, (uu.then u6 (fun _ _ => id)).then u7 (fun _ _ => id)⟩

set_option maxHeartbeats 1600000 in
theorem order_good0 (w : World) (a b : Int) (P : Nat) (ht : Pow w) (O : ∀ w, Calls Tryd.prog 9 #[.int .i64 a, .int .i64 10000] w fun e w' => e = .returned (.tuple #[.int .i64 a, .int .i64 0]) ∧ Upd w w' (fun _ => False)) (hP : P % 4 = 0) (p : Int)
    (R : ∀ w, Calls Tryd.prog 27 #[.int .i64 a, .int .i64 0] w fun e w' => e = .returned (.tuple #[.int .i64 p, .int .i64 0]) ∧ Upd w w' (fun _ => False))
    (R2 : ∀ w, Calls Tryd.prog 27 #[.int .i64 p, .int .i64 0] w fun e w' => e = .returned (.tuple #[.int .i64 p, .int .i64 0]) ∧ Upd w w' (fun _ => False))
    (hm : p.tmod 10000 = 0) (h1 : p - a ≤ 5000) (h2 : a - p ≤ 5000) : Calls Tryd.prog 7 #[.int .i64 a, .int .i64 b, .int .u8 (P : Int)] w fun e w' => e = .returned (.bool true) ∧ Upd w w' (fun _ => False) := by
  have A1 := fun w => Add_any w a b
  have A2 := fun w => Add_any w b a
  rw [addV_comm b a, addE_comm b a] at A2
  obtain ⟨V1, E1, M1, M2⟩ := Mul_swap a b
  generalize addV a b = x at *
  generalize addE a b = y at *
  have p1 : (P : Int).tmod 4 = 0 := by
    have : (P : Int).tmod 4 = ((P % 4 : Nat) : Int) := rfl
    rw [this, hP]
    rfl
  have p2 : (P : Int) % 4 = 0 := by omega
  have q1 : IntKind.i64.wrap (p - a) = p - a := IntWalk.i64_in _ (by omega)
  have q2 : IntKind.i64.wrap (a - p) = a - p := IntWalk.i64_in _ (by omega)
  have d1 : decide (p - a ≤ 5000) = true := by simpa using h1
  have d2 : decide (a - p ≤ 5000) = true := by simpa using h2
  clear hP h1 h2
  go_enter Tryd.func7, Tryd.ntmps7
  go_wp2_with fail
  refine Calls.mono (A1 _) ?_
  rintro e w1 ⟨rfl, u1⟩
  go_wp2_with fail
  refine Calls.mono (A2 _) ?_
  rintro e w2 ⟨rfl, u2⟩
  go_wp2_with fail
  refine Calls.mono (M1 _) ?_
  rintro e w3 ⟨rfl, u3⟩
  go_wp2_with fail
  refine Calls.mono (M2 _) ?_
  rintro e w4 ⟨rfl, u4⟩
  go_wp2_with fail
  refine Calls.mono (O _) ?_
  rintro e w5 ⟨rfl, u5⟩
  go_wp2_with fail
  have uu := (((u1.then u2 (fun _ _ => id)).then u3 (fun _ _ => id)).then u4 (fun _ _ => id)).then u5 (fun _ _ => id)
  refine Calls.mono (wakes_any _ (ht.upd uu id)) ?_
  rintro e w6 ⟨rfl, u6⟩
  go_wp2_with fail
  refine Calls.mono (R _) ?_
  rintro e w7 ⟨rfl, u7⟩
  go_wp2_with fail
  refine Calls.mono (R2 _) ?_
  rintro e w8 ⟨rfl, u8⟩
  have cc := cells4 (heap_alloc_new w8 (.cells #[.int .i64 10000, .int .i64 1000, .int .i64 100, .int .i64 10] 22))
  go_wp2_with fail
  go_ret
  exact ⟨rfl, (((uu.then u6 (fun _ _ => id)).then u7 (fun _ _ => id)).then u8 (fun _ _ => id)).alloc _⟩

set_option maxHeartbeats 1600000 in
theorem order_good1 (w : World) (a b : Int) (P : Nat) (ht : Pow w) (O : ∀ w, Calls Tryd.prog 9 #[.int .i64 a, .int .i64 10000] w fun e w' => e = .returned (.tuple #[.int .i64 a, .int .i64 0]) ∧ Upd w w' (fun _ => False)) (hP : P % 4 = 1) (p : Int)
    (R : ∀ w, Calls Tryd.prog 27 #[.int .i64 a, .int .i64 1] w fun e w' => e = .returned (.tuple #[.int .i64 p, .int .i64 0]) ∧ Upd w w' (fun _ => False))
    (R2 : ∀ w, Calls Tryd.prog 27 #[.int .i64 p, .int .i64 1] w fun e w' => e = .returned (.tuple #[.int .i64 p, .int .i64 0]) ∧ Upd w w' (fun _ => False))
    (hm : p.tmod 1000 = 0) (h1 : p - a ≤ 500) (h2 : a - p ≤ 500) : Calls Tryd.prog 7 #[.int .i64 a, .int .i64 b, .int .u8 (P : Int)] w fun e w' => e = .returned (.bool true) ∧ Upd w w' (fun _ => False) := by
  have A1 := fun w => Add_any w a b
  have A2 := fun w => Add_any w b a
  rw [addV_comm b a, addE_comm b a] at A2
  obtain ⟨V1, E1, M1, M2⟩ := Mul_swap a b
  generalize addV a b = x at *
  generalize addE a b = y at *
  have p1 : (P : Int).tmod 4 = 1 := by
    have : (P : Int).tmod 4 = ((P % 4 : Nat) : Int) := rfl
    rw [this, hP]
    rfl
  have p2 : (P : Int) % 4 = 1 := by omega
  have q1 : IntKind.i64.wrap (p - a) = p - a := IntWalk.i64_in _ (by omega)
  have q2 : IntKind.i64.wrap (a - p) = a - p := IntWalk.i64_in _ (by omega)
  have d1 : decide (p - a ≤ 500) = true := by simpa using h1
  have d2 : decide (a - p ≤ 500) = true := by simpa using h2
  clear hP h1 h2
  go_enter Tryd.func7, Tryd.ntmps7
  go_wp2_with fail
  refine Calls.mono (A1 _) ?_
  rintro e w1 ⟨rfl, u1⟩
  go_wp2_with fail
  refine Calls.mono (A2 _) ?_
  rintro e w2 ⟨rfl, u2⟩
  go_wp2_with fail
  refine Calls.mono (M1 _) ?_
  rintro e w3 ⟨rfl, u3⟩
  go_wp2_with fail
  refine Calls.mono (M2 _) ?_
  rintro e w4 ⟨rfl, u4⟩
  go_wp2_with fail
  refine Calls.mono (O _) ?_
  rintro e w5 ⟨rfl, u5⟩
  go_wp2_with fail
  have uu := (((u1.then u2 (fun _ _ => id)).then u3 (fun _ _ => id)).then u4 (fun _ _ => id)).then u5 (fun _ _ => id)
  refine Calls.mono (wakes_any _ (ht.upd uu id)) ?_
  rintro e w6 ⟨rfl, u6⟩
  go_wp2_with fail
  refine Calls.mono (R _) ?_
  rintro e w7 ⟨rfl, u7⟩
  go_wp2_with fail
  refine Calls.mono (R2 _) ?_
  rintro e w8 ⟨rfl, u8⟩
  have cc := cells4 (heap_alloc_new w8 (.cells #[.int .i64 10000, .int .i64 1000, .int .i64 100, .int .i64 10] 22))
  go_wp2_with fail
  go_ret
  exact ⟨rfl, (((uu.then u6 (fun _ _ => id)).then u7 (fun _ _ => id)).then u8 (fun _ _ => id)).alloc _⟩

set_option maxHeartbeats 1600000 in
theorem order_good2 (w : World) (a b : Int) (P : Nat) (ht : Pow w) (O : ∀ w, Calls Tryd.prog 9 #[.int .i64 a, .int .i64 10000] w fun e w' => e = .returned (.tuple #[.int .i64 a, .int .i64 0]) ∧ Upd w w' (fun _ => False)) (hP : P % 4 = 2) (p : Int)
    (R : ∀ w, Calls Tryd.prog 27 #[.int .i64 a, .int .i64 2] w fun e w' => e = .returned (.tuple #[.int .i64 p, .int .i64 0]) ∧ Upd w w' (fun _ => False))
    (R2 : ∀ w, Calls Tryd.prog 27 #[.int .i64 p, .int .i64 2] w fun e w' => e = .returned (.tuple #[.int .i64 p, .int .i64 0]) ∧ Upd w w' (fun _ => False))
    (hm : p.tmod 100 = 0) (h1 : p - a ≤ 50) (h2 : a - p ≤ 50) : Calls Tryd.prog 7 #[.int .i64 a, .int .i64 b, .int .u8 (P : Int)] w fun e w' => e = .returned (.bool true) ∧ Upd w w' (fun _ => False) := by
  have A1 := fun w => Add_any w a b
  have A2 := fun w => Add_any w b a
  rw [addV_comm b a, addE_comm b a] at A2
  obtain ⟨V1, E1, M1, M2⟩ := Mul_swap a b
  generalize addV a b = x at *
  generalize addE a b = y at *
  have p1 : (P : Int).tmod 4 = 2 := by
    have : (P : Int).tmod 4 = ((P % 4 : Nat) : Int) := rfl
    rw [this, hP]
    rfl
  have p2 : (P : Int) % 4 = 2 := by omega
  have q1 : IntKind.i64.wrap (p - a) = p - a := IntWalk.i64_in _ (by omega)
  have q2 : IntKind.i64.wrap (a - p) = a - p := IntWalk.i64_in _ (by omega)
  have d1 : decide (p - a ≤ 50) = true := by simpa using h1
  have d2 : decide (a - p ≤ 50) = true := by simpa using h2
  clear hP h1 h2
  go_enter Tryd.func7, Tryd.ntmps7
  go_wp2_with fail
  refine Calls.mono (A1 _) ?_
  rintro e w1 ⟨rfl, u1⟩
  go_wp2_with fail
  refine Calls.mono (A2 _) ?_
  rintro e w2 ⟨rfl, u2⟩
  go_wp2_with fail
  refine Calls.mono (M1 _) ?_
  rintro e w3 ⟨rfl, u3⟩
  go_wp2_with fail
  refine Calls.mono (M2 _) ?_
  rintro e w4 ⟨rfl, u4⟩
  go_wp2_with fail
  refine Calls.mono (O _) ?_
  rintro e w5 ⟨rfl, u5⟩
  go_wp2_with fail
  have uu := (((u1.then u2 (fun _ _ => id)).then u3 (fun _ _ => id)).then u4 (fun _ _ => id)).then u5 (fun _ _ => id)
  refine Calls.mono (wakes_any _ (ht.upd uu id)) ?_
  rintro e w6 ⟨rfl, u6⟩
  go_wp2_with fail
  refine Calls.mono (R _) ?_
  rintro e w7 ⟨rfl, u7⟩
  go_wp2_with fail
  refine Calls.mono (R2 _) ?_
  rintro e w8 ⟨rfl, u8⟩
  have cc := cells4 (heap_alloc_new w8 (.cells #[.int .i64 10000, .int .i64 1000, .int .i64 100, .int .i64 10] 22))
  go_wp2_with fail
  go_ret
  exact ⟨rfl, (((uu.then u6 (fun _ _ => id)).then u7 (fun _ _ => id)).then u8 (fun _ _ => id)).alloc _⟩

set_option maxHeartbeats 1600000 in
theorem order_good3 (w : World) (a b : Int) (P : Nat) (ht : Pow w) (O : ∀ w, Calls Tryd.prog 9 #[.int .i64 a, .int .i64 10000] w fun e w' => e = .returned (.tuple #[.int .i64 a, .int .i64 0]) ∧ Upd w w' (fun _ => False)) (hP : P % 4 = 3) (p : Int)
    (R : ∀ w, Calls Tryd.prog 27 #[.int .i64 a, .int .i64 3] w fun e w' => e = .returned (.tuple #[.int .i64 p, .int .i64 0]) ∧ Upd w w' (fun _ => False))
    (R2 : ∀ w, Calls Tryd.prog 27 #[.int .i64 p, .int .i64 3] w fun e w' => e = .returned (.tuple #[.int .i64 p, .int .i64 0]) ∧ Upd w w' (fun _ => False))
    (hm : p.tmod 10 = 0) (h1 : p - a ≤ 5) (h2 : a - p ≤ 5) : Calls Tryd.prog 7 #[.int .i64 a, .int .i64 b, .int .u8 (P : Int)] w fun e w' => e = .returned (.bool true) ∧ Upd w w' (fun _ => False) := by
  have A1 := fun w => Add_any w a b
  have A2 := fun w => Add_any w b a
  rw [addV_comm b a, addE_comm b a] at A2
  obtain ⟨V1, E1, M1, M2⟩ := Mul_swap a b
  generalize addV a b = x at *
  generalize addE a b = y at *
  have p1 : (P : Int).tmod 4 = 3 := by
    have : (P : Int).tmod 4 = ((P % 4 : Nat) : Int) := rfl
    rw [this, hP]
    rfl
  have p2 : (P : Int) % 4 = 3 := by omega
  have q1 : IntKind.i64.wrap (p - a) = p - a := IntWalk.i64_in _ (by omega)
  have q2 : IntKind.i64.wrap (a - p) = a - p := IntWalk.i64_in _ (by omega)
  have d1 : decide (p - a ≤ 5) = true := by simpa using h1
  have d2 : decide (a - p ≤ 5) = true := by simpa using h2
  clear hP h1 h2
  go_enter Tryd.func7, Tryd.ntmps7
  go_wp2_with fail
  refine Calls.mono (A1 _) ?_
  rintro e w1 ⟨rfl, u1⟩
  go_wp2_with fail
  refine Calls.mono (A2 _) ?_
  rintro e w2 ⟨rfl, u2⟩
  go_wp2_with fail
  refine Calls.mono (M1 _) ?_
  rintro e w3 ⟨rfl, u3⟩
  go_wp2_with fail
  refine Calls.mono (M2 _) ?_
  rintro e w4 ⟨rfl, u4⟩
  go_wp2_with fail
  refine Calls.mono (O _) ?_
  rintro e w5 ⟨rfl, u5⟩
  go_wp2_with fail
  have uu := (((u1.then u2 (fun _ _ => id)).then u3 (fun _ _ => id)).then u4 (fun _ _ => id)).then u5 (fun _ _ => id)
  refine Calls.mono (wakes_any _ (ht.upd uu id)) ?_
  rintro e w6 ⟨rfl, u6⟩
  go_wp2_with fail
  refine Calls.mono (R _) ?_
  rintro e w7 ⟨rfl, u7⟩
  go_wp2_with fail
  refine Calls.mono (R2 _) ?_
  rintro e w8 ⟨rfl, u8⟩
  have cc := cells4 (heap_alloc_new w8 (.cells #[.int .i64 10000, .int .i64 1000, .int .i64 100, .int .i64 10] 22))
  go_wp2_with fail
  go_ret
  exact ⟨rfl, (((uu.then u6 (fun _ _ => id)).then u7 (fun _ _ => id)).then u8 (fun _ _ => id)).alloc _⟩

theorem FixedOrder_any (w : World) (a b : Int) (P : Nat) (ht : Pow w) : Calls Tryd.prog 7 #[.int .i64 a, .int .i64 b, .int .u8 (P : Int)] w fun e w' => e = .returned (.bool true) ∧ Upd w w' (fun _ => False) := by
  cases h : okNum a with
  | false =>
    exact order_bad w a b P ht 0 5 (.inl rfl) (fun w => Mul_bad w a 10000 (by rw [h]; rfl)) _ rfl (fun w => Round_bad w a _ h)
  | true =>
    have O := Mul_unit a h
    have ba := okNum_true h
    obtain ⟨s, x, ea, h0, hs, hx⟩ := signed a
    obtain ⟨e, he⟩ : ∃ e, P % 4 + e = 4 := ⟨4 - P % 4, by omega⟩
    obtain ⟨T, hT⟩ : ∃ T, 10 ^ e = T := ⟨_, rfl⟩
    have hTp : 0 < T := by rw [← hT]; exact Nat.pow_pos (by omega)
    have R := fun w => Round_in w s x (by omega) h0 ((P % 4 : Nat) : Int) (by omega) (by omega) e (by omega)
    rw [← ea, hT] at R
    obtain ⟨n1, n2⟩ := rnd_near x T hTp
    have R2 := fun w hX => Round_again w s (rnd x T) (P % 4) e T he (by omega) hT hX
    have hm : T ∣ rnd x T * T := Nat.dvd_mul_left T _
    obtain ⟨X, hX⟩ : ∃ X, rnd x T * T = X := ⟨_, rfl⟩
    rw [hX] at R R2 n1 n2 hm
    unfold numV numE at R
    by_cases hb : 9000000000000000000 < X
    · rw [if_pos hb, if_pos hb] at R
      exact order_bad w a b P ht a 0 (.inr ⟨rfl, rfl⟩) O _ rfl R
    · rw [if_neg hb, if_neg hb] at R
      have R2 := fun w => R2 w (by omega)
      have hd : (if s then -(X : Int) else (X : Int)).tmod (T : Int) = 0 := by
        have e : (X : Int).tmod (T : Int) = ((X % T : Nat) : Int) := rfl
        cases s <;> simp [Int.neg_tmod, e, Nat.mod_eq_zero_of_dvd hm]
      have hcase : P % 4 = 0 ∨ P % 4 = 1 ∨ P % 4 = 2 ∨ P % 4 = 3 := by omega
      rcases hcase with hP | hP | hP | hP
      · rw [hP] at he R R2
        obtain rfl : e = 4 := by omega
        obtain rfl : T = 10000 := by rw [← hT]
        exact order_good0 w a b P ht O hP _ R R2 hd (by cases s <;> simp at ea ⊢ <;> omega) (by cases s <;> simp at ea ⊢ <;> omega)
      · rw [hP] at he R R2
        obtain rfl : e = 3 := by omega
        obtain rfl : T = 1000 := by rw [← hT]
        exact order_good1 w a b P ht O hP _ R R2 hd (by cases s <;> simp at ea ⊢ <;> omega) (by cases s <;> simp at ea ⊢ <;> omega)
      · rw [hP] at he R R2
        obtain rfl : e = 2 := by omega
        obtain rfl : T = 100 := by rw [← hT]
        exact order_good2 w a b P ht O hP _ R R2 hd (by cases s <;> simp at ea ⊢ <;> omega) (by cases s <;> simp at ea ⊢ <;> omega)
      · rw [hP] at he R R2
        obtain rfl : e = 1 := by omega
        obtain rfl : T = 10 := by rw [← hT]
        exact order_good3 w a b P ht O hP _ R R2 hd (by cases s <;> simp at ea ⊢ <;> omega) (by cases s <;> simp at ea ⊢ <;> omega)
end Go.Proofs.YtckpomcenkgekaaDoor
