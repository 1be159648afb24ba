/- The walk of the reference's Round. -/
import Derived.Test.YtckpomcenkgekaaDoorFxC
import Derived.Test.YtckpomcenkgekaaDoorFSum
set_option maxRecDepth 100000
namespace Go.Proofs.YtckpomcenkgekaaDoor
open Go.RowKit Go.Lat

set_option maxHeartbeats 1600000 in
theorem RefRound_in (w : World) (a : Int) (ha : okNum a = true) (s : Bool) (x : Nat) (ea : a = (if s then -(x : Int) else (x : Int))) (hs : decide (a < 0) = s) (hx : x ≤ 9000000000000000000) (p : Int) (hp : -15 ≤ p) (hp2 : p ≤ 3) (e : Nat) (he : (e : Int) = 4 - p) :
    Calls Tryd.prog 28 #[.int .i64 a, .int .i64 p] w fun e' w' => e' = .returned (.tuple #[.int .i64 (numV s (rnd x (10 ^ e) * 10 ^ e)), .int .i64 (numE (rnd x (10 ^ e) * 10 ^ e))]) ∧ Upd w w' (fun _ => False) := by
  have G := fun w => RefGood_any w a
  rw [ha] at G
  have D := fun w => Digits_any w s x (by omega)
  rw [← ea] at D
  have hd1 : dg 1 = [1] := by rw [dg_pos (by omega), dg_zero]
  have d1 : decide (p < -15) = false := by simp; omega
  have d2 : decide (15 < p) = false := by simp; omega
  have d3 : decide (3 < p) = false := by simp; omega
  have TE := pow19 e (by omega)
  have hb100 : (10000000000000000000 : Nat) < 10 ^ 100 := by decide
  have hr : rnd x (10 ^ e) ≤ 9000000000000000001 := by
    unfold rnd
    have := Nat.div_le_self x (10 ^ e)
    split <;> omega
  have N1 := fun w v1 v2 k1 k2 => nearest_any w v1 v2 x (10 ^ e) k1 k2 (Nat.pow_pos (by omega)) (by omega) (by omega)
  have hlr := dg_len (rnd x (10 ^ e)) 100 (by omega)
  have hlt := dg_len (10 ^ e) 100 (by omega)
  have T2 := fun w v1 v2 k1 k2 => times1_any w v1 v2 (dg (rnd x (10 ^ e))) (dg (10 ^ e)) k1 k2 (dg_norm _) (dg_norm _) (by omega) (by omega)
  simp only [val_dg] at T2
  have hm : rnd x (10 ^ e) * 10 ^ e < 10 ^ 100 := by
    have h1 := Nat.mul_le_mul hr TE
    have h2 : (9000000000000000001 * 10000000000000000000 : Nat) < 10 ^ 100 := by decide
    omega
  have NU := fun w v k => Number_any w v (rnd x (10 ^ e) * 10 ^ e) s k hm
  have HD := hide he
  have HL : Hid (∀ k, k < e → (dg (10 ^ k)).length ≤ 100) := hide (fun k hk => dg_len _ 100 (by have := pow19 k (by omega); omega))
  clear TE hb100 hr hlr hlt hm ha hx ea
  generalize numV s (rnd x (10 ^ e) * 10 ^ e) = X at *
  generalize numE (rnd x (10 ^ e) * 10 ^ e) = Y at *
  clear he
  go_enter Tryd.func28, Tryd.ntmps28
  go_wp2_with fail
  refine Calls.mono (G _) ?_
  rintro e' w1 ⟨rfl, hw⟩
  replace hw := hw.symm
  subst hw
  go_wp2_with fail
  go_loopg [7, 8] e (fun q v i wr => ∃ k : Nat, k + q = e ∧ i = .int .i64 (p + k) ∧ DgAt wr v (dg (10 ^ k)) ∧ Upd w wr (fun _ => False))
  case atStart =>
    refine ⟨0, by omega, by simp, ?_, (Upd.refl w _).alloc _⟩
    rw [Nat.pow_zero, hd1]
    exact Rw.made w _ _ 1 1 rfl
  case round =>
    obtain ⟨k, hk, rfl, hv, hu⟩ := hrel
    have he := HD.out
    by_cases hke : k < e
    · have d4 : decide (p + (k : Int) < 4) = true := by simp; omega
      have P := fun w v1 v2 h1 h2 => times1_any w v1 v2 (dg (10 ^ k)) [0, 1] h1 h2 (dg_norm _) (by unfold Norm; decide) (by have := HL.out k hke; omega) (by decide)
      rw [val_dg, show val [0, 1] = 10 from by decide, show 10 ^ k * 10 = 10 ^ (k + 1) from (Nat.pow_succ ..).symm] at P
      obtain ⟨i, hi⟩ : ∃ i, p + (k : Int) = i := ⟨_, rfl⟩
      rw [hi] at d4 ⊢
      have w1 : IntKind.i64.wrap (i + 1) = i + 1 := IntWalk.i64_in _ (by omega)
      have HI := hide hi
      clear hi he
      go_wp2_with fail
      have m2 : DgAt (wr.alloc (.cells #[.int .i64 0, .int .i64 1] 3)) (.slice (some ⟨wr.heap.size, 0, none⟩) 2 2) [0, 1] := Rw.made wr _ _ 1 2 rfl
      refine Calls.mono (P _ _ _ (hv.upd ((Upd.refl wr _).alloc _)) m2) ?_
      rintro e' w2 ⟨v2, rfl, q2, u2, -⟩
      clear P
      go_wp2_with fail
      go_roundg (gk - 1)
      case measure => omega
      case rel => exact ⟨k + 1, by omega, by have := HI.out; congr 1; omega, q2, (hu.alloc _).then u2 (fun _ _ => id)⟩
    · have hke : k = e := by omega
      subst hke
      have d4 : decide (p + (k : Int) < 4) = false := by simp; omega
      go_wp2_with fail
      refine Calls.mono (D _) ?_
      rintro e' w3 ⟨v3, rfl, q3, u3, -⟩
      go_wp2_with fail
      refine Calls.mono (N1 _ _ _ q3 (hv.upd u3)) ?_
      rintro e' w4 ⟨v4, rfl, q4, u4⟩
      go_wp2_with fail
      refine Calls.mono (T2 _ _ _ q4 ((hv.upd u3).upd u4)) ?_
      rintro e' w5 ⟨v5, rfl, q5, u5, -⟩
      go_wp2_with fail
      refine Calls.mono (NU _ _ q5) ?_
      rintro e' w6 ⟨rfl, u6⟩
      go_wp2_with fail
      go_ret2
      exact ⟨rfl, (((hu.then u3 (fun _ _ => id)).then u4 (fun _ _ => id)).then u5 (fun _ _ => id)).then u6 (fun _ _ => id)⟩
end Go.Proofs.YtckpomcenkgekaaDoor
