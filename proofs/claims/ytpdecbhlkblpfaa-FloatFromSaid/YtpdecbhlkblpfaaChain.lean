/- The law FloatChain walked: plain law and walk. -/
import Derived.Test.YtpdecbhlkblpfaaRefO
set_option maxRecDepth 100000
namespace Go.Proofs.Ytpdecbhlkblpfaa
open Go.RowKit Go.Lat

def fromErr (b : Nat) : Int := if infR < rng b then 4 else if rng b = infR then 5 else fromE (fromR (rng b))
def fromVal (b : Nat) : Int := if rng b < infR then fromV (sgn b) (fromR (rng b)) else 0

theorem From_any (w : World) (b : Nat) (hb : b < 18446744073709551616) : Calls Try.prog 16 #[.float .f64 b] w fun e w' => e = .returned (.tuple #[.int .i64 (fromVal b), .int .i64 (fromErr b)]) ∧ Upd w w' (fun _ => False) := by
  unfold fromVal fromErr
  rcases Nat.lt_trichotomy (rng b) infR with h | h | h
  · rw [if_pos h, if_neg (by omega), if_neg (by omega)]
    exact From_fin w b hb h
  · rw [if_neg (by omega), if_neg (by omega), if_pos h]
    exact (From_inf w b hb h).mono fun e w' ⟨he, hw⟩ => ⟨he, by rw [hw]; exact Upd.refl _ _⟩
  · rw [if_neg (by omega), if_pos h]
    exact (From_nan w b hb h).mono fun e w' ⟨he, hw⟩ => ⟨he, by rw [hw]; exact Upd.refl _ _⟩

theorem ordV_le (b c : Nat) : ordV b c ≤ 0 ↔ (seven (cls b) < seven (cls c) ∨ (seven (cls b) = seven (cls c) ∧ (cls b = 0 ∨ sval b ≤ sval c))) := by
  have k1 := cls_le b
  have k2 := cls_le c
  unfold ordV seven cmpI
  generalize sval b = u at *
  generalize sval c = v at *
  generalize cls b = x at *
  generalize cls c = y at *
  (repeat' split) <;> omega
theorem ordV_neg (b c : Nat) : ordV c b = -ordV b c := by
  unfold ordV cmpI
  generalize sval b = u at *
  generalize sval c = v at *
  generalize cls b = x at *
  generalize cls c = y at *
  (repeat' split) <;> omega
theorem ordV_self (b : Nat) : ordV b b = 0 := by have := ordV_neg b b; omega
theorem seven_at (x : Nat) : (x = 0 → seven x = 7) ∧ (x ≠ 0 → seven x = x) := by
  unfold seven
  constructor <;> intro h
  · rw [if_pos h]
  · rw [if_neg h]
theorem ordV_trans (b c d : Nat) (h1 : ordV b c ≤ 0) (h2 : ordV c d ≤ 0) : ordV b d ≤ 0 := by
  rw [ordV_le] at *
  have k1 := cls_le b
  have k2 := cls_le c
  have k3 := cls_le d
  obtain ⟨q1, q2⟩ := seven_at (cls b)
  obtain ⟨q3, q4⟩ := seven_at (cls c)
  obtain ⟨q5, q6⟩ := seven_at (cls d)
  generalize seven (cls b) = X at *
  generalize seven (cls c) = Y at *
  generalize seven (cls d) = Z at *
  generalize sval b = u at *
  generalize sval c = v at *
  generalize sval d = t at *
  generalize cls b = x at *
  generalize cls c = y at *
  generalize cls d = z at *
  omega

theorem ordV_range (b c : Nat) : -1 ≤ ordV b c ∧ ordV b c ≤ 1 := by
  unfold ordV cmpI
  repeat' split
  all_goals omega

theorem cls_sval (b : Nat) (h : rng b < infR) : cls b ≠ 0 ∧ (cls b = 2 ∨ cls b = 3 ∨ cls b = 4 ∨ cls b = 5) ∧ (cls b = 2 → sval b < 0) ∧ (cls b = 3 → sval b = 0) ∧ (cls b = 4 → sval b = 0) ∧ (cls b = 5 → 0 < sval b) := by
  have a1 : ¬ infR < rng b := by omega
  have a2 : ¬ rng b = infR := by omega
  unfold cls sval
  simp only [a1, a2, if_false]
  by_cases z : rng b = 0 <;> cases sgn b <;> simp [z] <;> omega

theorem fromR_mono {r s : Nat} (h : r ≤ s) : fromR r ≤ fromR s := by
  unfold fromR
  refine Nat.div_le_div_right ?_
  have : mag r ≤ mag s := by
    rcases Nat.lt_or_ge r s with e | e
    · exact Nat.le_of_lt (mag_mono e)
    · have : r = s := by omega
      rw [this]; exact Nat.le_refl _
  omega
theorem fromR_zero : fromR 0 = 0 := by
  unfold fromR
  have m0 : mag 0 = 0 := rfl
  rw [m0, Nat.zero_mul, Nat.zero_add]
  have := twoTo_pos 1073
  have e := twoTo_succ 1073
  refine Nat.div_eq_of_lt ?_
  rw [show (1074 : Nat) = 1073 + 1 from rfl, e]
  omega

theorem fromVal_mono (b c : Nat) (hb : fromErr b = 0) (hc : fromErr c = 0) (h : ordV b c ≤ 0) : fromVal b ≤ fromVal c := by
  have fin : ∀ d, fromErr d = 0 → rng d < infR ∧ ¬ 9000000000000000000 < fromR (rng d) := by
    intro d hd
    unfold fromErr fromE at hd
    split at hd
    · omega
    · split at hd
      · omega
      · split at hd
        · omega
        · exact ⟨by omega, by assumption⟩
  obtain ⟨b1, b2⟩ := fin b hb
  obtain ⟨c1, c2⟩ := fin c hc
  have hle : sval b ≤ sval c := by
    rw [ordV_le] at h
    obtain ⟨n1, n2, n3, n4, n5, n6⟩ := cls_sval b b1
    obtain ⟨m1, m2, m3, m4, m5, m6⟩ := cls_sval c c1
    unfold seven at h
    rw [if_neg n1, if_neg m1] at h
    generalize sval b = u at *
    generalize sval c = v at *
    generalize cls b = x at *
    generalize cls c = y at *
    omega
  have g1 := fun h => fromR_mono (r := rng b) (s := rng c) h
  have g2 := fun h => fromR_mono (r := rng c) (s := rng b) h
  have g3 : rng b = 0 → fromR (rng b) = 0 := fun h => by rw [h]; exact fromR_zero
  have g4 : rng c = 0 → fromR (rng c) = 0 := fun h => by rw [h]; exact fromR_zero
  unfold fromVal fromV
  rw [if_pos b1, if_pos c1, if_neg b2, if_neg c2]
  unfold sval at hle
  generalize fromR (rng b) = X at *
  generalize fromR (rng c) = Y at *
  generalize rng b = r at *
  generalize rng c = s at *
  have t1 : r ≤ s → X ≤ Y := g1
  have t2 : s ≤ r → Y ≤ X := g2
  clear g1 g2
  generalize sgn b = p at *
  generalize sgn c = q at *
  cases p <;> cases q <;> simp only [Bool.false_eq_true, reduceIte] at hle ⊢
  · have := t1 (by omega)
    omega
  · have := g3 (by omega)
    have := g4 (by omega)
    omega
  · omega
  · have := t2 (by omega)
    omega

set_option maxHeartbeats 1600000 in
theorem FloatChain_any (w : World) (b c d : Nat) (hb : b < 18446744073709551616) (hc : c < 18446744073709551616) (hd : d < 18446744073709551616) :
    Calls Try.prog 9 #[.agg #[.int .u64 b, .int .u64 c, .int .u64 d]] w fun e w' => e = .returned (.bool true) ∧ Upd w w' (fun _ => False) := by
  have f1 := frombits64 b
  have f2 := frombits64 c
  have f3 := frombits64 d
  have O1 := fun w => Order_any w b c hb hc
  have O2 := fun w => Order_any w c b hc hb
  have O3 := fun w => Order_any w b b hb hb
  have O4 := fun w => Order_any w c d hc hd
  have O5 := fun w => Order_any w b d hb hd
  rw [ordV_neg b c] at O2
  rw [ordV_self] at O3
  have F1 := fun w => From_any w b hb
  have F2 := fun w => From_any w c hc
  have mono := fromVal_mono b c
  have trans := ordV_trans b c d
  have r1 := ordV_range b c
  generalize ordV b c = o1 at *
  generalize ordV c d = o4 at *
  generalize ordV b d = o5 at *
  generalize fromVal b = v1 at *
  generalize fromVal c = v2 at *
  generalize fromErr b = e1 at *
  generalize fromErr c = e2 at *
  have T := hide trans
  have M := hide mono
  clear trans mono
  go_enter Try.func9, Try.ntmps9
  go_wp2_with fail
  go_quiet (fail)
  go_wp2_with fail
  refine Calls.mono (wakes_any _) ?_
  rintro e w1 ⟨rfl, hu⟩
  go_wp2_with fail
  refine Calls.mono (O1 _) ?_
  rintro e w2 ⟨rfl, rfl⟩
  go_wp2_with fail
  refine Calls.mono (O2 _) ?_
  rintro e w2 ⟨rfl, rfl⟩
  go_wp2_with fail
  refine Calls.mono (O3 _) ?_
  rintro e w3 ⟨rfl, rfl⟩
  go_wp2_with fail
  refine Calls.mono (O1 _) ?_
  rintro e w3 ⟨rfl, rfl⟩
  by_cases ho : o1 ≤ 0
  · have d1 : decide (o1 ≤ 0) = true := by simpa using ho
    go_wp2_with fail
    refine Calls.mono (O4 _) ?_
    rintro e w3 ⟨rfl, rfl⟩
    by_cases ho4 : o4 ≤ 0
    · have d2 : decide (o4 ≤ 0) = true := by simpa using ho4
      have d3 : decide (0 < o5) = false := by have := T.out ho ho4; simp; omega
      clear ho4
      go_wp2_with fail
      refine Calls.mono (O5 _) ?_
      rintro e w3 ⟨rfl, rfl⟩
      go_wp2_with fail
      refine Calls.mono (F1 _) ?_
      rintro e w4 ⟨rfl, hu4⟩
      clear F1
      go_wp2_with fail
      refine Calls.mono (F2 _) ?_
      rintro e w5 ⟨rfl, hu5⟩
      clear F2
      have uz := ((((Upd.refl w (fun _ => False)).alloc _).drewN nq).then hu (fun _ _ => id)).then (hu4.then hu5 (fun _ _ => id)) (fun _ _ => id)
      by_cases q1 : e1 = 0
      · have k1 : (e1 != 0) = false := by simp [q1]
        by_cases q2 : e2 = 0
        · have k2 : (e2 != 0) = false := by simp [q2]
          have k3 : decide (v1 ≤ v2) = true := by simpa using M.out q1 q2 ho
          have k4 : decide (0 < o1) = false := by simp; omega
          clear q1 q2 ho d1
          go_wp2_with fail
          refine Calls.mono (O1 _) ?_
          rintro e w6 ⟨rfl, rfl⟩
          go_wp2_with fail
          go_ret
          exact ⟨rfl, uz⟩
        · have k2 : (e2 != 0) = true := by simpa using q2
          clear q1 q2
          go_wp2_with fail
          go_ret
          exact ⟨rfl, uz⟩
      · have k1 : (e1 != 0) = true := by simpa using q1
        clear q1
        go_wp2_with fail
        go_ret
        exact ⟨rfl, uz⟩
    · have d2 : decide (o4 ≤ 0) = false := by simpa using ho4
      clear ho4
      go_wp2_with fail
      refine Calls.mono (F1 _) ?_
      rintro e w4 ⟨rfl, hu4⟩
      clear F1
      go_wp2_with fail
      refine Calls.mono (F2 _) ?_
      rintro e w5 ⟨rfl, hu5⟩
      clear F2
      have uz := ((((Upd.refl w (fun _ => False)).alloc _).drewN nq).then hu (fun _ _ => id)).then (hu4.then hu5 (fun _ _ => id)) (fun _ _ => id)
      by_cases q1 : e1 = 0
      · have k1 : (e1 != 0) = false := by simp [q1]
        by_cases q2 : e2 = 0
        · have k2 : (e2 != 0) = false := by simp [q2]
          have k3 : decide (v1 ≤ v2) = true := by simpa using M.out q1 q2 ho
          have k4 : decide (0 < o1) = false := by simp; omega
          clear q1 q2 ho d1
          go_wp2_with fail
          refine Calls.mono (O1 _) ?_
          rintro e w6 ⟨rfl, rfl⟩
          go_wp2_with fail
          go_ret
          exact ⟨rfl, uz⟩
        · have k2 : (e2 != 0) = true := by simpa using q2
          clear q1 q2
          go_wp2_with fail
          go_ret
          exact ⟨rfl, uz⟩
      · have k1 : (e1 != 0) = true := by simpa using q1
        clear q1
        go_wp2_with fail
        go_ret
        exact ⟨rfl, uz⟩
  · have d1 : decide (o1 ≤ 0) = false := by simpa using ho
    go_wp2_with fail
    refine Calls.mono (F1 _) ?_
    rintro e w4 ⟨rfl, hu4⟩
    clear F1
    go_wp2_with fail
    refine Calls.mono (F2 _) ?_
    rintro e w5 ⟨rfl, hu5⟩
    clear F2
    have uz := ((((Upd.refl w (fun _ => False)).alloc _).drewN nq).then hu (fun _ _ => id)).then (hu4.then hu5 (fun _ _ => id)) (fun _ _ => id)
    by_cases q1 : e1 = 0
    · have k1 : (e1 != 0) = false := by simp [q1]
      by_cases q2 : e2 = 0
      · have k2 : (e2 != 0) = false := by simp [q2]
        have k4 : decide (0 < o1) = true := by simp; omega
        clear q1 q2 ho d1
        go_wp2_with fail
        refine Calls.mono (O1 _) ?_
        rintro e w6 ⟨rfl, rfl⟩
        go_wp2_with fail
        go_ret
        exact ⟨rfl, uz⟩
      · have k2 : (e2 != 0) = true := by simpa using q2
        clear q1 q2
        go_wp2_with fail
        go_ret
        exact ⟨rfl, uz⟩
    · have k1 : (e1 != 0) = true := by simpa using q1
      clear q1
      go_wp2_with fail
      go_ret
      exact ⟨rfl, uz⟩
end Go.Proofs.Ytpdecbhlkblpfaa
