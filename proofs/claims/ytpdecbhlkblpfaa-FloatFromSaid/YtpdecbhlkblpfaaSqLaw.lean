/- The law FloatSqrt walked. -/
import Derived.Test.YtpdecbhlkblpfaaProd
import Derived.Test.YtpdecbhlkblpfaaRoot
set_option maxRecDepth 100000
namespace Go.Proofs.Ytpdecbhlkblpfaa
open Go.RowKit Go.Lat

theorem DgAt.upd {w w' : World} {v : Value} {l : List Nat} (h : DgAt w v l) (u : Upd w w' (fun _ => False)) : DgAt w' v l := u.rw h (fun _ _ => id)

theorem Digits_nat (w : World) (n : Nat) (hn : n ≤ 9223372036854775807) :
    Calls Try.prog 42 #[.int .i64 n] w fun e w' => ∃ v, e = .returned v ∧ DgAt w' v (dg n) ∧ Upd w w' (fun _ => False) := by
  have h := Digits_any w false n hn
  simp only [Bool.false_eq_true, if_false] at h
  exact h.mono fun e w' ⟨v, h1, h2, h3, _⟩ => ⟨v, h1, h2, h3⟩

theorem product_dg (w : World) (v1 v2 : Value) (x : Nat) (l : List Nat) (h1 : DgAt w v1 (dg x)) (h2 : DgAt w v2 l) (nl : Norm l) (hx : x < 10 ^ 100) (hl : l.length ≤ 100) :
    Calls Try.prog 34 #[v1, v2] w fun e w' => ∃ v, e = .returned v ∧ DgAt w' v (dg (x * val l)) ∧ Upd w w' (fun _ => False) := by
  have hlx := dg_len x 100 hx
  have h := product2_any w v1 v2 (dg x) l h1 h2 (dg_norm x) nl (by omega) (by omega)
  rw [val_dg] at h
  exact h.mono fun e w' ⟨v, h1, h2, h3, _⟩ => ⟨v, h1, h2, h3⟩

theorem below_dg (w : World) (v1 v2 : Value) (x y : Nat) (h1 : DgAt w v1 (dg x)) (h2 : DgAt w v2 (dg y)) (hx : x < 10 ^ 100) (hxy : x < y) :
    Calls Try.prog 43 #[v1, v2] w fun e w' => e = .returned (.bool true) ∧ Upd w w' (fun _ => False) := by
  have hlx := dg_len x 100 hx
  have h := below2_any w v1 v2 (dg x) (dg y) h1 h2 (dg_norm x) (dg_norm y) (by omega)
  rw [val_dg, val_dg, decide_eq_true hxy] at h
  exact h.mono fun e w' ⟨h1, n, h2⟩ => ⟨h1, by rw [h2]; exact (Upd.refl w _).drewN n⟩

set_option maxHeartbeats 1600000 in
theorem RefSqrt_true (w : World) (a x : Nat) (ha : a ≤ 9000000000000000000) (hx : x ≤ 400000000000) (h1 : a * 40000 < (2 * x + 1) * (2 * x + 1)) (h2 : x = 0 ∨ (2 * x - 1) * (2 * x - 1) < a * 40000) :
    Calls Try.prog 20 #[.int .i64 a, .int .i64 x] w fun e w' => e = .returned (.bool true) ∧ Upd w w' (fun _ => False) := by
  have big : 1000000000000000000000000000000 < 10 ^ 100 := by
    have : (10 : Nat) ^ 31 ≤ 10 ^ 100 := Nat.pow_le_pow_right (by omega) (by omega)
    omega
  obtain ⟨H, hH⟩ : ∃ H, 10 ^ 100 = H := ⟨_, rfl⟩
  have HH := hide hH
  rw [hH] at big
  obtain ⟨A, hA⟩ : ∃ A, a * 40000 = A := ⟨_, rfl⟩
  obtain ⟨t, ht⟩ : ∃ t, 2 * x = t := ⟨_, rfl⟩
  obtain ⟨u, hu⟩ : ∃ u, t + 1 = u := ⟨_, rfl⟩
  rw [hA, ht, hu] at h1
  rw [hA, ht] at h2
  have e1 : (2 : Int) * (x : Int) = (t : Int) := by omega
  have e2 : (t : Int) + 1 = (u : Int) := by omega
  have hub : u ≤ 800000000001 := by omega
  have huu := Nat.mul_le_mul hub hub
  have hAb : A ≤ 360000000000000000000000 := by omega
  have D1 := fun w => Digits_nat w a (by omega)
  have D2 := fun w => Digits_nat w u (by omega)
  have P1 := fun w v1 v2 h1 h2 => product_dg w v1 v2 a [0, 0, 0, 0, 4] h1 h2 (by unfold Norm; decide) (by rw [hH]; omega) (by decide)
  rw [show val [0, 0, 0, 0, 4] = 40000 from by decide, hA] at P1
  have P2 := fun w v1 v2 h1 h2 => product_dg w v1 v2 u (dg u) h1 h2 (dg_norm u) (by rw [hH]; omega) (dg_len u 100 (by rw [hH]; omega))
  rw [val_dg] at P2
  have B1 := fun w v1 v2 g1 g2 => below_dg w v1 v2 A (u * u) g1 g2 (by rw [hH]; omega) h1
  have hAH : A < H := by omega
  by_cases hx0 : x = 0
  · have d1 : ((x : Int) == 0) = true := by simp; omega
    clear h1 h2 hH hA ht hu huu hx0
    go_enter Try.func20, Try.ntmps20
    go_wp2_with fail
    refine Calls.mono (D1 _) ?_
    rintro e w1 ⟨v1, rfl, q1, u1⟩
    go_wp2_with fail
    have m1 : DgAt (w1.alloc (.cells #[.int .i64 0, .int .i64 0, .int .i64 0, .int .i64 0, .int .i64 4] 3)) (.slice (some ⟨w1.heap.size, 0, none⟩) 5 5) [0, 0, 0, 0, 4] := Rw.made w1 _ _ 1 5 rfl
    refine Calls.mono (P1 _ _ _ (q1.upd ((Upd.refl w1 _).alloc _)) m1) ?_
    rintro e w2 ⟨v2, rfl, q2, u2⟩
    go_wp2_with fail
    refine Calls.mono (D2 _) ?_
    rintro e w3 ⟨v3, rfl, q3, u3⟩
    go_wp2_with fail
    refine Calls.mono (P2 _ _ _ q3 q3) ?_
    rintro e w4 ⟨v4, rfl, q4, u4⟩
    go_wp2_with fail
    refine Calls.mono (B1 _ _ _ ((q2.upd u3).upd u4) q4) ?_
    rintro e w5 ⟨rfl, u5⟩
    go_wp2_with fail
    go_ret
    exact ⟨rfl, ((((u1.alloc _).then u2 (fun _ _ => id)).then u3 (fun _ _ => id)).then u4 (fun _ _ => id)).then u5 (fun _ _ => id)⟩
  · have d1 : ((x : Int) == 0) = false := by simp; omega
    have h3 : (t - 1) * (t - 1) < A := by
      rcases h2 with e | e
      · exact absurd e hx0
      · exact e
    obtain ⟨y, hy⟩ : ∃ y, t - 1 = y := ⟨_, rfl⟩
    rw [hy] at h3
    have e3 : (t : Int) - 1 = (y : Int) := by omega
    have D3 := fun w => Digits_nat w y (by omega)
    have P3 := fun w v1 v2 h1 h2 => product_dg w v1 v2 y (dg y) h1 h2 (dg_norm y) (by rw [hH]; omega) (dg_len y 100 (by rw [hH]; omega))
    rw [val_dg] at P3
    have B2 := fun w v1 v2 g1 g2 => below_dg w v1 v2 (y * y) A g1 g2 (by rw [hH]; omega) h3
    clear h1 h2 hH hA ht hu huu hx0 h3 hy
    go_enter Try.func20, Try.ntmps20
    go_wp2_with fail
    refine Calls.mono (D1 _) ?_
    rintro e w1 ⟨v1, rfl, q1, u1⟩
    go_wp2_with fail
    have m1 : DgAt (w1.alloc (.cells #[.int .i64 0, .int .i64 0, .int .i64 0, .int .i64 0, .int .i64 4] 3)) (.slice (some ⟨w1.heap.size, 0, none⟩) 5 5) [0, 0, 0, 0, 4] := Rw.made w1 _ _ 1 5 rfl
    refine Calls.mono (P1 _ _ _ (q1.upd ((Upd.refl w1 _).alloc _)) m1) ?_
    rintro e w2 ⟨v2, rfl, q2, u2⟩
    go_wp2_with fail
    refine Calls.mono (D2 _) ?_
    rintro e w3 ⟨v3, rfl, q3, u3⟩
    go_wp2_with fail
    refine Calls.mono (P2 _ _ _ q3 q3) ?_
    rintro e w4 ⟨v4, rfl, q4, u4⟩
    have q5 := (q2.upd u3).upd u4
    go_wp2_with fail
    refine Calls.mono (B1 _ _ _ q5 q4) ?_
    rintro e w5 ⟨rfl, u5⟩
    have q6 := q5.upd u5
    clear q5 q4 q3 q2 q1 m1
    go_wp2_with fail
    refine Calls.mono (D3 _) ?_
    rintro e w6 ⟨v6, rfl, q7, u6⟩
    go_wp2_with fail
    refine Calls.mono (P3 _ _ _ q7 q7) ?_
    rintro e w7 ⟨v7, rfl, q8, u7⟩
    go_wp2_with fail
    refine Calls.mono (B2 _ _ _ q8 ((q6.upd u6).upd u7)) ?_
    rintro e w8 ⟨rfl, u8⟩
    go_wp2_with fail
    go_ret
    exact ⟨rfl, (((((((u1.alloc _).then u2 (fun _ _ => id)).then u3 (fun _ _ => id)).then u4 (fun _ _ => id)).then u5 (fun _ _ => id)).then u6 (fun _ _ => id)).then u7 (fun _ _ => id)).then u8 (fun _ _ => id)⟩

theorem RefGood_any (w : World) (a : Int) : Calls Try.prog 19 #[.int .i64 a] w fun e w' => e = .returned (.bool (okNum a)) ∧ w' = w := by
  unfold okNum
  by_cases h1 : -9000000000000000000 ≤ a
  · have d1 : decide (-9000000000000000000 ≤ a) = true := by simpa using h1
    rw [d1]
    go_enter Try.func19, Try.ntmps19
    go_wp2_with fail
    go_ret
    exact ⟨by simp, rfl⟩
  · have d1 : decide (-9000000000000000000 ≤ a) = false := by simpa using h1
    rw [d1]
    go_enter Try.func19, Try.ntmps19
    go_wp2_with fail
    go_ret
    exact ⟨rfl, rfl⟩

theorem Sqrt_bad (w : World) (a : Int) (h : okNum a = false ∨ a < 0) : Calls Try.prog 18 #[.int .i64 a] w fun e w' => e = .returned (.tuple #[.int .i64 0, .int .i64 5]) ∧ Upd w w' (fun _ => False) := by
  have hg := fun w => good_any w a
  obtain ⟨o, ho⟩ : ∃ o, okNum a = o := ⟨_, rfl⟩
  rw [ho] at hg h
  clear ho
  cases o with
  | false =>
    go_enter Try.func18, Try.ntmps18
    go_wp2_with fail
    refine Calls.mono (hg _) ?_
    rintro e w1 ⟨rfl, hu⟩
    go_wp2_with fail
    go_ret2
    exact ⟨rfl, hu⟩
  | true =>
    have d1 : decide (a < 0) = true := by simpa using h
    clear h
    go_enter Try.func18, Try.ntmps18
    go_wp2_with fail
    refine Calls.mono (hg _) ?_
    rintro e w1 ⟨rfl, hu⟩
    go_wp2_with fail
    go_ret2
    exact ⟨rfl, hu⟩

/-- The plain law: the nearer of the two whole roots is the nearest number. -/
theorem near_root (D y : Nat) (h1 : y * y ≤ D) (h2 : D < (y + 1) * (y + 1)) : ∃ x, (if y * (y + 1) < D then y + 1 else y) = x ∧ x ≤ y + 1 ∧ 4 * D < (2 * x + 1) * (2 * x + 1) ∧ (x = 0 ∨ (2 * x - 1) * (2 * x - 1) < 4 * D) := by
  have e1 : (y + 1) * (y + 1) = y * y + 2 * y + 1 := by rw [Nat.add_mul, Nat.mul_add]; omega
  have e2 : y * (y + 1) = y * y + y := by rw [Nat.mul_add, Nat.mul_one]
  have e3 : ∀ z : Nat, (2 * z + 1) * (2 * z + 1) = 4 * (z * z) + 4 * z + 1 := fun z => by
    rw [Nat.add_mul, Nat.mul_add, Nat.mul_mul_mul_comm]; omega
  rw [e1] at h2
  rw [e2]
  refine ⟨_, rfl, ?_, ?_, ?_⟩
  · split <;> omega
  · split
    · rw [e3, e1]; omega
    · rw [e3]; omega
  · split
    · right
      rw [show 2 * (y + 1) - 1 = 2 * y + 1 from by omega, e3]
      omega
    · rcases Nat.eq_zero_or_pos y with e | e
      · exact .inl e
      · right
        obtain ⟨z, rfl⟩ : ∃ z, y = z + 1 := ⟨y - 1, by omega⟩
        rw [show 2 * (z + 1) - 1 = 2 * z + 1 from by omega, e3]
        have e4 : (z + 1) * (z + 1) = z * z + 2 * z + 1 := by rw [Nat.add_mul, Nat.mul_add]; omega
        rw [e4] at h1
        omega

set_option maxHeartbeats 1600000 in
theorem FloatSqrt_any (w : World) (a : Int) : Calls Try.prog 5 #[.int .i64 a] w fun e w' => e = .returned (.bool true) ∧ Upd w w' (fun _ => False) := by
  have hG := fun w => RefGood_any w a
  by_cases hbad : okNum a = false ∨ a < 0
  · have hS := fun w => Sqrt_bad w a hbad
    obtain ⟨o, ho⟩ : ∃ o, okNum a = o := ⟨_, rfl⟩
    rw [ho] at hG hbad
    clear ho
    cases o with
    | false =>
      clear hbad
      go_enter Try.func5, Try.ntmps5
      go_wp2_with fail
      refine Calls.mono (hS _) ?_
      rintro e w1 ⟨rfl, u1⟩
      go_wp2_with fail
      refine Calls.mono (hG _) ?_
      rintro e w2 ⟨rfl, hw⟩
      replace hw := hw.symm
      subst hw
      go_wp2_with fail
      refine Calls.mono (wakes_any _) ?_
      rintro e w3 ⟨rfl, u3⟩
      go_wp2_with fail
      go_ret
      exact ⟨rfl, u1.then u3 (fun _ _ => id)⟩
    | true =>
      have d1 : decide (a < 0) = true := by simpa using hbad
      clear hbad
      go_enter Try.func5, Try.ntmps5
      go_wp2_with fail
      refine Calls.mono (hS _) ?_
      rintro e w1 ⟨rfl, u1⟩
      go_wp2_with fail
      refine Calls.mono (hG _) ?_
      rintro e w2 ⟨rfl, hw⟩
      replace hw := hw.symm
      subst hw
      go_wp2_with fail
      refine Calls.mono (wakes_any _) ?_
      rintro e w3 ⟨rfl, u3⟩
      go_wp2_with fail
      go_ret
      exact ⟨rfl, u1.then u3 (fun _ _ => id)⟩
  · have ho : okNum a = true := by simpa using fun h => hbad (.inl h)
    have hnn : 0 ≤ a := by omega
    obtain ⟨n, rfl⟩ := Int.eq_ofNat_of_zero_le hnn
    have hn : n ≤ 9000000000000000000 := by unfold okNum at ho; simp at ho; omega
    rw [ho] at hG
    obtain ⟨f2, f3, x0, s1, s2, s3, s4⟩ := start_ok n hn
    have hS := fun w => Sqrt_gen w n f2 f3 x0 hn s1 s2 s3 s4
    have d1 : decide ((n : Int) < 0) = false := by simp
    have hR := fun w x hx h1 h2 => RefSqrt_true w n x hn hx h1 h2
    have HR := hide hR
    clear hbad ho hnn s1 s2 s3 hR
    go_enter Try.func5, Try.ntmps5
    go_wp2_with fail
    refine Calls.mono (hS _) ?_
    rintro e w1 ⟨y, rfl, y1, y2, u1⟩
    obtain ⟨x, hx, hxy, x1, x2⟩ := near_root (n * 10000) y y1 y2
    rw [hx]
    have hyb : y ≤ 300000000000 := by
      rcases Nat.lt_or_ge 300000000000 y with e | e
      · have := Nat.mul_le_mul (show 300000000001 ≤ y from e) (show 300000000001 ≤ y from e)
        omega
      · exact e
    have hR2 := fun w => HR.out w x (by omega) (by rw [show n * 40000 = 4 * (n * 10000) from by omega]; exact x1) (by rw [show n * 40000 = 4 * (n * 10000) from by omega]; exact x2)
    clear hS hx y1 y2 x1 x2
    go_wp2_with fail
    refine Calls.mono (hG _) ?_
    rintro e w2 ⟨rfl, hw⟩
    replace hw := hw.symm
    subst hw
    go_wp2_with fail
    refine Calls.mono (wakes_any _) ?_
    rintro e w3 ⟨rfl, u3⟩
    go_wp2_with fail
    refine Calls.mono (hR2 _) ?_
    rintro e w4 ⟨rfl, u4⟩
    go_wp2_with fail
    go_ret
    exact ⟨rfl, (u1.then u3 (fun _ _ => id)).then u4 (fun _ _ => id)⟩
end Go.Proofs.Ytpdecbhlkblpfaa
