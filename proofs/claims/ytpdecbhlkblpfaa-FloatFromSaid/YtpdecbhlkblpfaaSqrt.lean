/- The walks of float.Sqrt and float.To. -/
import Derived.Test.YtpdecbhlkblpfaaFrom
import Derived.Laws.FloatArith
set_option maxRecDepth 100000
namespace Go.Proofs.Ytpdecbhlkblpfaa
open Go.RowKit Go.Lat

theorem sqrt_run (x r : Nat) (h : FloatKind.f64.format.sqrt x = some r) (w : World) : (callFunc 54 #[.float .f64 x]).run Try.prog w = .ok (.value (.float .f64 r)) w := by
  rw [run_callFunc_extern Try.func54 (by kernel_rfl) (by kernel_rfl) (by kernel_rfl) (e := Extern.MathSqrt.sqrt) (by kernel_rfl)]
  have e : Extern.MathSqrt.sqrt #[.float .f64 x] = (match FloatKind.f64.format.sqrt x with
    | some r => pure (Value.float .f64 r)
    | none => do pure (Value.float .f64 (← choose (.nanBits .f64 x x)))) := rfl
  rw [e, h]
  rfl

theorem mathSqrt_any (w : World) (x r : Nat) (h : FloatKind.f64.format.sqrt x = some r) : Calls Try.prog 40 #[.float .f64 x] w fun e w' => e = .returned (.float .f64 r) ∧ w' = w := by
  have hs := sqrt_run x r h
  go_enter Try.func40, Try.ntmps40
  go_wp2_with fail
  go_ret
  exact ⟨rfl, rfl⟩

theorem To_good (w : World) (a : Int) (r : Nat) (ha : okNum a = true) (h : floatBits .quo .f64 (floatOfInt .f64 a) 4666723172467343360 = some r) : Calls Try.prog 21 #[.int .i64 a] w fun e w' => e = .returned (.float .f64 r) ∧ Upd w w' (fun _ => False) := by
  have hg := fun w => good_any w a
  rw [ha] at hg
  have hq := fun w => run_float_arith (P := Try.prog) w .quo 23 .f64 _ _ _ h
  clear ha h
  go_enter Try.func21, Try.ntmps21
  go_wp2_with fail
  refine Calls.mono (hg _) ?_
  rintro e w1 ⟨rfl, hu⟩
  go_wp2_with fail
  go_ret
  exact ⟨rfl, hu⟩

set_option maxHeartbeats 1600000 in
theorem Sqrt_gen (w : World) (a f2 f3 x0 : Nat) (ha : a ≤ 9000000000000000000) (h1 : floatBits .mul .f64 (floatOfInt .f64 a) 4666723172467343360 = some f2) (h2 : FloatKind.f64.format.sqrt f2 = some f3)
    (h3 : floatToIntVal .f64 f3 .u64 = some (x0 : Int)) (hx0 : x0 < 18446744073709551616) :
    Calls Try.prog 18 #[.int .i64 a] w fun e w' => ∃ x : Nat, e = .returned (.tuple #[.int .i64 (if x * (x + 1) < a * 10000 then x + 1 else x : Nat), .int .i64 0]) ∧ x * x ≤ a * 10000 ∧ a * 10000 < (x + 1) * (x + 1) ∧ Upd w w' (fun _ => False) := by
  have hg := fun w => good_any w (a : Int)
  have ho : okNum (a : Int) = true := by unfold okNum; simp; omega
  rw [ho] at hg
  have hmul := fun w => run_float_arith (P := Try.prog) w .mul 23 .f64 _ _ _ h1
  have hsq := fun w => mathSqrt_any w f2 f3 h2
  have hcv := fun w => run_convert_float_int (P := Try.prog) w 23 22 .f64 .u64 f3 x0 (by kernel_rfl) Try.underlying22 h3
  have hd := fun w => product_any w a 10000 (by omega) (by omega)
  have hp := fun x y w (h : x < 18446744073709551616) (h' : y < 18446744073709551616) => product_any w x y h h'
  have hab := fun n w => above_any w n (a * 10000)
  have hba := fun n w => above_any w (a * 10000) n
  have hDb : a * 10000 ≤ 90000000000000000000000 := by omega
  obtain ⟨D, hD⟩ : ∃ D, a * 10000 = D := ⟨_, rfl⟩
  rw [hD] at hd hab hba hDb ⊢
  unfold dbl at hd
  have e1 : dbl D = .agg #[.int .u64 (D / 18446744073709551616 : Nat), .int .u64 (D % 18446744073709551616 : Nat)] := rfl
  rw [e1] at hab hba
  clear e1 hD h1 h2 h3 ho
  generalize D / 18446744073709551616 = H at hd hab hba
  generalize D % 18446744073709551616 = L at hd hab hba
  go_enter Try.func18, Try.ntmps18
  go_wp2_with fail
  refine Calls.mono (hg _) ?_
  rintro e w1 ⟨rfl, hu⟩
  clear hg
  go_wp2_with fail
  refine Calls.mono (hd _) ?_
  rintro e w2 ⟨rfl, hu2⟩
  clear hd
  go_wp2_with fail
  refine Calls.mono (hsq _) ?_
  rintro e w3 ⟨rfl, hw⟩
  replace hw := hw.symm
  subst hw
  clear hsq
  go_wp2_with fail
  clear hmul hcv
  have hB : (w2.alloc (.cells #[.int .u64 H, .int .u64 L] 57)).heap[w2.heap.size]? = some (.cells #[.int .u64 H, .int .u64 L] 57 (0, 0)) := heap_alloc_new w2 _
  have uB : Upd w (w2.alloc (.cells #[.int .u64 H, .int .u64 L] 57)) (fun _ => False) := (hu.then hu2 (fun _ _ => id)).alloc _
  generalize (w2.alloc (.cells #[.int .u64 H, .int .u64 L] 57)) = wb at hB uB ⊢
  generalize w2.heap.size = B at hB ⊢
  obtain ⟨z0, z1⟩ := cells2 hB
  have hBl := lt_at hB
  clear hB hu hu2
  go_loopg [5] x0 (fun q v wr => ∃ x : Nat, v = .int .u64 x ∧ x ≤ q ∧ x < 18446744073709551616 ∧ Upd wb wr (fun _ => False))
  case atStart => exact ⟨x0, rfl, Nat.le_refl _, hx0, Upd.refl _ _⟩
  case round =>
    obtain ⟨x, rfl, hx, hxb, hur⟩ := hrel
    have c0 := (hur.cell B 0 hBl id).trans z0
    have c1 := (hur.cell B 1 hBl id).trans z1
    go_wp2_with fail
    have hBr : B < wr.heap.size := by have := hur.size; omega
    go_region_held3 (fun w' => w'.cell? ⟨B, 0, none⟩ = some (.int .u64 H) ∧ w'.cell? ⟨B, 1, none⟩ = some (.int .u64 L) ∧ Upd wr w' (fun _ => False))
      (first
        | (go_keep; done)
        | exact ⟨c0, c1, (Upd.refl wr _).drew⟩
        | (have hz : Upd wr w4 (fun _ => False) := Upd.then ((Upd.refl wr (fun _ => False)).drew) hv (fun _ _ => id); exact ⟨(hz.cell B 0 hBr id).trans c0, (hz.cell B 1 hBr id).trans c1, hz⟩)
        | (have hz : Upd wr w4 (fun _ => False) := Upd.then (And.right (And.right (by assumption))) hv (fun _ _ => id); exact ⟨(hz.cell B 0 hBr id).trans c0, (hz.cell B 1 hBr id).trans c1, hz⟩))
      ((first
        | (go_at_call 30; refine Calls.mono (hp x x _ hxb hxb) ?_; rintro e w4 ⟨rfl, hv⟩)
        | (go_at_call 41; refine Calls.mono (hab (x * x) _) ?_; rintro e w4 ⟨rfl, hv⟩)))
    have hz : Upd wr w4 (fun _ => False) := And.right (And.right (by assumption))
    obtain ⟨g1, hg1⟩ : ∃ g1, decide (D < x * x) = g1 := ⟨_, rfl⟩
    rw [hg1]
    cases g1
    case true =>
      have hgt : D < x * x := of_decide_eq_true hg1
      clear hg1
      have hx1 : 1 ≤ x := by
        rcases Nat.eq_zero_or_pos x with e | e
        · subst e; omega
        · exact e
      clear hgt
      go_wp2_with fail
      go_roundg (gk - 1)
      case measure => omega
      case rel => exact ⟨x - 1, by congr 1; omega, by omega, by omega, hur.then hz (fun _ _ => id)⟩
    case false =>
      have hgt : ¬ D < x * x := of_decide_eq_false hg1
      clear hg1
      have hle : x * x ≤ D := by omega
      have u4 : Upd wb w4 (fun _ => False) := hur.then hz (fun _ _ => id)
      clear hgt hz hBr c0 c1
      obtain ⟨wo, hwo⟩ : ∃ wo : World, wo = wr := ⟨_, rfl⟩
      go_wp2_with fail
      go_loopg [5] D (fun q v w5 => ∃ y : Nat, v = .int .u64 y ∧ y * y ≤ D ∧ D - y ≤ q ∧ Upd wb w5 (fun _ => False))
      case atStart => exact ⟨x, rfl, hle, by omega, u4⟩
      case round =>
        clear hle hx hxb hur u4 hwo
        obtain ⟨y, rfl, hy, hq, hur⟩ := hrel
        have hy4 : y < 400000000000 := by
          rcases Nat.lt_or_ge y 400000000000 with e | e
          · exact e
          · have := Nat.mul_le_mul e e
            omega
        have c0 := (hur.cell B 0 hBl id).trans z0
        have c1 := (hur.cell B 1 hBl id).trans z1
        have hBr : B < wr.heap.size := by have := hur.size; omega
        have wa : IntKind.u64.wrap ((y : Int) + 1) = (y : Int) + 1 := Mul64.wrapN (y + 1) (by omega)
        have hp2 := fun w => hp (y + 1) (y + 1) w (by omega) (by omega)
        have hp3 := fun w => hp y (y + 1) w (by omega) (by omega)
        rw [show ((y + 1 : Nat) : Int) = (y : Int) + 1 from rfl] at hp2 hp3
        go_wp2_with fail
        go_region_held3 (fun w' => w'.cell? ⟨B, 0, none⟩ = some (.int .u64 H) ∧ w'.cell? ⟨B, 1, none⟩ = some (.int .u64 L) ∧ Upd wr w' (fun _ => False))
          (first
            | (go_keep; done)
            | exact ⟨c0, c1, (Upd.refl wr _).drew⟩
            | (have hz : Upd wr w4 (fun _ => False) := Upd.then ((Upd.refl wr (fun _ => False)).drew) hv (fun _ _ => id); exact ⟨(hz.cell B 0 hBr id).trans c0, (hz.cell B 1 hBr id).trans c1, hz⟩)
            | (have hz : Upd wr w4 (fun _ => False) := Upd.then (And.right (And.right (by assumption))) hv (fun _ _ => id); exact ⟨(hz.cell B 0 hBr id).trans c0, (hz.cell B 1 hBr id).trans c1, hz⟩))
          ((first
            | (go_at_call 30; refine Calls.mono (hp2 _) ?_; rintro e w4 ⟨rfl, hv⟩)
            | (go_at_call 41; refine Calls.mono (hab ((y + 1) * (y + 1)) _) ?_; rintro e w4 ⟨rfl, hv⟩)))
        have hz : Upd wr w4 (fun _ => False) := And.right (And.right (by assumption))
        obtain ⟨g2, hg2⟩ : ∃ g2, decide (D < (y + 1) * (y + 1)) = g2 := ⟨_, rfl⟩
        rw [hg2]
        cases g2
        case true =>
          have hgt : D < (y + 1) * (y + 1) := of_decide_eq_true hg2
          clear hg2
          have u4 : Upd wb w4 (fun _ => False) := hur.then hz (fun _ _ => id)
          have k0 := (u4.cell B 0 hBl id).trans z0
          have k1 := (u4.cell B 1 hBl id).trans z1
          have hB4 : B < w4.heap.size := by have := u4.size; omega
          obtain ⟨w5, hw5⟩ : ∃ w5 : World, w5 = w4 := ⟨_, rfl⟩
          rw [← hw5] at u4 k0 k1 hB4 ⊢
          clear hz hw5 c0 c1 hBr
          go_wp2_with fail
          go_region_held3 (fun w' => w'.cell? ⟨B, 0, none⟩ = some (.int .u64 H) ∧ w'.cell? ⟨B, 1, none⟩ = some (.int .u64 L) ∧ Upd w5 w' (fun _ => False))
            (first
              | (go_keep; done)
              | exact ⟨k0, k1, (Upd.refl w5 _).drew⟩
              | (have hz : Upd w5 w4 (fun _ => False) := Upd.then ((Upd.refl w5 (fun _ => False)).drew) hv (fun _ _ => id); exact ⟨(hz.cell B 0 hB4 id).trans k0, (hz.cell B 1 hB4 id).trans k1, hz⟩)
              | (have hz : Upd w5 w4 (fun _ => False) := Upd.then (And.right (And.right (by assumption))) hv (fun _ _ => id); exact ⟨(hz.cell B 0 hB4 id).trans k0, (hz.cell B 1 hB4 id).trans k1, hz⟩))
            ((first
              | (go_at_call 30; refine Calls.mono (hp3 _) ?_; rintro e w4 ⟨rfl, hv⟩)
              | (go_at_call 41; refine Calls.mono (hba (y * (y + 1)) _) ?_; rintro e w4 ⟨rfl, hv⟩)))
          have hz : Upd w5 w4 (fun _ => False) := And.right (And.right (by assumption))
          have uz := uB.then (u4.then hz (fun _ _ => id)) (fun _ _ => id)
          obtain ⟨g3, hg3⟩ : ∃ g3, decide (y * (y + 1) < D) = g3 := ⟨_, rfl⟩
          rw [hg3]
          cases g3
          case true =>
            have hmid : y * (y + 1) < D := of_decide_eq_true hg3
            clear hg3
            go_wp2_with fail
            go_ret2
            exact ⟨y, by rw [if_pos hmid]; simp, hy, hgt, uz⟩
          case false =>
            have hmid : ¬ y * (y + 1) < D := of_decide_eq_false hg3
            clear hg3
            go_wp2_with fail
            go_ret2
            exact ⟨y, by rw [if_neg hmid]; simp, hy, hgt, uz⟩
        case false =>
          have hgt : ¬ D < (y + 1) * (y + 1) := of_decide_eq_false hg2
          clear hg2
          have hlt : y < D := by
            have h1 := Nat.mul_le_mul (Nat.le_refl (y + 1)) (show 1 ≤ y + 1 by omega)
            omega
          go_wp2_with fail
          go_roundg (gk - 1)
          case measure => omega
          case rel => exact ⟨y + 1, by go_num, by omega, by omega, hur.then hz (fun _ _ => id)⟩
end Go.Proofs.Ytpdecbhlkblpfaa
