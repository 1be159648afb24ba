/- The walk of the reference's Put at every value. -/
import Derived.Test.YthahgablbdfodaaGreatDoorJ21
import Derived.Test.YthahgablbdfodaaGreatDoorJ02
/- The walk of the reference's Put at every value. -/
set_option maxRecDepth 100000
namespace Go.Proofs.YthahgablbdfodaaGreatDoor
open Go.RowKit Go.Lat Go.Lib

theorem good_N {n : Int} (h : okNum n = true) : goodV ⟨1, n, [], false, 0⟩ = true := by
  have e : mkN n = ⟨1, n, [], false, 0⟩ := by unfold mkN; rw [if_pos h]
  unfold goodV
  simp only [show ¬ ((1 : Int) = 0) by decide, if_false, if_true]
  exact eqV_iff.2 e.symm
theorem good_T {t : List UInt8} (h : t.length ≤ 255) : goodV ⟨2, 0, t, false, 0⟩ = true := by
  have e : mkT t = ⟨2, 0, t, false, 0⟩ := by unfold mkT; rw [if_pos h]
  unfold goodV
  simp only [show ¬ ((2 : Int) = 0) by decide, show ¬ ((2 : Int) = 1) by decide, if_false, if_true]
  exact eqV_iff.2 e.symm
theorem good_B (b : Bool) : goodV ⟨3, 0, [], b, 0⟩ = true := by
  cases b <;> decide
theorem good_E {f : Int} (h : okFail f = true) : goodV ⟨4, 0, [], false, f⟩ = true := by
  have e : mkE f = ⟨4, 0, [], false, f⟩ := by unfold mkE; rw [if_pos h]
  unfold goodV
  simp only [show ¬ ((4 : Int) = 0) by decide, show ¬ ((4 : Int) = 1) by decide, show ¬ ((4 : Int) = 2) by decide, show ¬ ((4 : Int) = 3) by decide, if_false, if_true]
  exact eqV_iff.2 e.symm

set_option maxHeartbeats 1600000 in
theorem RPut_bad (w : World) (x : Vl) (h : goodV x = false) : Calls Tryz.prog 37 #[x.val] w (PutPost w ([], 4)) := by
  have GA := fun w => RGood_any w x
  rw [h] at GA
  obtain ⟨k0, n0, t0, b0, e0⟩ := x
  unfold Vl.val at GA ⊢
  simp only at GA ⊢
  clear h
  go_enter Tryz.func37, Tryz.ntmps37
  go_wp2_with fail
  refine Calls.mono (GA _) ?_
  rintro e w1 ⟨rfl, u1⟩
  go_wp2_with fail
  go_ret2
  exact ⟨rfl, ((Upd.refl w _).alloc _).then u1 (fun _ _ => id)⟩
set_option maxHeartbeats 3200000 in
theorem RPut_blank (w : World) : Calls Tryz.prog 37 #[(Vl.mk 0 0 [] false 0).val] w (PutPost w ([0], 0)) := by
  obtain ⟨ib, hi, hz0, hz1, hz2⟩ := info_parts Tryz.info5
  have GA := fun w => RGood_any w (Vl.mk 0 0 [] false 0)
  rw [show goodV ⟨0, 0, [], false, 0⟩ = true from by decide] at GA
  unfold Vl.val at GA ⊢
  simp only at GA ⊢
  clear hz0 hz1 hz2 hi
  go_enter Tryz.func37, Tryz.ntmps37
  go_wp2_with fail
  refine Calls.mono (GA _) ?_
  rintro e w1 ⟨rfl, u1⟩
  have bX := u1.get (Vnew1 w (.cells (Vl.mk 0 0 [] false 0).cs 29)) id
  obtain ⟨c0, c1, c2, c3, c4⟩ := cells5 bX
  have xl := lt_at bX
  have HX := hide bX
  have HU := hide (((Upd.refl w _).alloc _).then u1 (fun _ _ => id))
  clear bX u1 GA
  have cv := BtAt.back (w := w1.alloc (.cells #[.int .u8 0] 5)) (v := .slice (some ⟨w1.heap.size, 0, none⟩) 1 1) (l := [0]) (Rw.made w1 #[.int .u8 0] 5 1 1 rfl) (by simp)
  go_wp2_with fail
  go_ret2
  exact ⟨rfl, HU.out.alloc _⟩
set_option maxHeartbeats 3200000 in
theorem RPut_bool_true (w : World) : Calls Tryz.prog 37 #[(Vl.mk 3 0 [] true 0).val] w (PutPost w ([3, 1], 0)) := by
  obtain ⟨ib, hi, hz0, hz1, hz2⟩ := info_parts Tryz.info5
  have GA := fun w => RGood_any w (Vl.mk 3 0 [] true 0)
  rw [good_B true] at GA
  unfold Vl.val at GA ⊢
  simp only at GA ⊢
  go_enter Tryz.func37, Tryz.ntmps37
  go_wp2_with fail
  refine Calls.mono (GA _) ?_
  rintro e w1 ⟨rfl, u1⟩
  have bX := u1.get (Vnew1 w (.cells (Vl.mk 3 0 [] true 0).cs 29)) id
  obtain ⟨c0, c1, c2, c3, c4⟩ := cells5 bX
  have xl := lt_at bX
  have HX := hide bX
  have HU := hide (((Upd.refl w _).alloc _).then u1 (fun _ _ => id))
  clear bX u1 GA
  have RA0 : Rw (w1.alloc (.cells #[.int .u8 3] 5)) 5 1 (.slice (some ⟨w1.heap.size, 0, none⟩) 1 1) 1 [.int .u8 3] := Rw.made w1 #[.int .u8 3] 5 1 1 rfl
  have RX : Rw ((w1.alloc (.cells #[.int .u8 3] 5)).alloc (.cells #[.int .u8 1] 5)) 5 1 (.slice (some ⟨w1.heap.size + 1, 0, none⟩) 1 1) 1 [.int .u8 1] := by
    have h := Rw.made (w1.alloc (.cells #[.int .u8 3] 5)) #[.int .u8 1] 5 1 1 rfl
    simpa using h
  have UD : Upd w1 (w1.alloc (.cells #[.int .u8 3] 5)) (fun _ => False) := (Upd.refl w1 _).alloc _
  go_wp2_with (at_builtin; go_loud (refine wpList_append_rw _ rfl _ _ 80 80 rfl 5 _ ib _ 1 1 Tryz.underlying80 Tryz.underlying80 (by simp) hi hz0 hz1 hz2 rfl _ 1 [.int .u8 3] rfl (RA0.alloc _) _ 1 [.int .u8 1] rfl (Rw.src RX) rfl (by simp [Value.oneCell']) (by omega) (by omega) ?_); intro ga gca wa hva hga hoa; go_loud (have ua : Upd w1 wa (fun _ => False) := Upd.grown (UD.alloc _) hga (fun j hj => .inl (by have hj' : (some w1.heap.size : Option Nat) = some j := hj; have := Option.some.inj hj'; omega))); go_loud (have cv := BtAt.back (w := wa) (v := .slice ga (1 + 1) gca) (l := [3, 1]) hva (by simp)))
  go_ret2
  exact ⟨rfl, HU.out.then ua (fun _ _ => id)⟩
set_option maxHeartbeats 3200000 in
theorem RPut_bool_false (w : World) : Calls Tryz.prog 37 #[(Vl.mk 3 0 [] false 0).val] w (PutPost w ([3, 0], 0)) := by
  obtain ⟨ib, hi, hz0, hz1, hz2⟩ := info_parts Tryz.info5
  have GA := fun w => RGood_any w (Vl.mk 3 0 [] false 0)
  rw [good_B false] at GA
  unfold Vl.val at GA ⊢
  simp only at GA ⊢
  go_enter Tryz.func37, Tryz.ntmps37
  go_wp2_with fail
  refine Calls.mono (GA _) ?_
  rintro e w1 ⟨rfl, u1⟩
  have bX := u1.get (Vnew1 w (.cells (Vl.mk 3 0 [] false 0).cs 29)) id
  obtain ⟨c0, c1, c2, c3, c4⟩ := cells5 bX
  have xl := lt_at bX
  have HX := hide bX
  have HU := hide (((Upd.refl w _).alloc _).then u1 (fun _ _ => id))
  clear bX u1 GA
  have RA0 : Rw (w1.alloc (.cells #[.int .u8 3] 5)) 5 1 (.slice (some ⟨w1.heap.size, 0, none⟩) 1 1) 1 [.int .u8 3] := Rw.made w1 #[.int .u8 3] 5 1 1 rfl
  have RX : Rw ((w1.alloc (.cells #[.int .u8 3] 5)).alloc (.cells #[.int .u8 0] 5)) 5 1 (.slice (some ⟨w1.heap.size + 1, 0, none⟩) 1 1) 1 [.int .u8 0] := by
    have h := Rw.made (w1.alloc (.cells #[.int .u8 3] 5)) #[.int .u8 0] 5 1 1 rfl
    simpa using h
  have UD : Upd w1 (w1.alloc (.cells #[.int .u8 3] 5)) (fun _ => False) := (Upd.refl w1 _).alloc _
  go_wp2_with (at_builtin; go_loud (refine wpList_append_rw _ rfl _ _ 80 80 rfl 5 _ ib _ 1 1 Tryz.underlying80 Tryz.underlying80 (by simp) hi hz0 hz1 hz2 rfl _ 1 [.int .u8 3] rfl (RA0.alloc _) _ 1 [.int .u8 0] rfl (Rw.src RX) rfl (by simp [Value.oneCell']) (by omega) (by omega) ?_); intro ga gca wa hva hga hoa; go_loud (have ua : Upd w1 wa (fun _ => False) := Upd.grown (UD.alloc _) hga (fun j hj => .inl (by have hj' : (some w1.heap.size : Option Nat) = some j := hj; have := Option.some.inj hj'; omega))); go_loud (have cv := BtAt.back (w := wa) (v := .slice ga (1 + 1) gca) (l := [3, 0]) hva (by simp)))
  go_ret2
  exact ⟨rfl, HU.out.then ua (fun _ _ => id)⟩
set_option maxHeartbeats 3200000 in
theorem RPut_err (w : World) (f : Int) (hf : okFail f = true) : Calls Tryz.prog 37 #[(Vl.mk 4 0 [] false f).val] w (PutPost w ([4, UInt8.ofNat f.toNat], 0)) := by
  obtain ⟨ib, hi, hz0, hz1, hz2⟩ := info_parts Tryz.info5
  have GA := fun w => RGood_any w (Vl.mk 4 0 [] false f)
  rw [good_E hf] at GA
  unfold Vl.val at GA ⊢
  simp only at GA ⊢
  have hfr : 0 < f ∧ f < 9 := by simpa [okFail] using hf
  have hlu : f % 256 = ((UInt8.ofNat f.toNat).toNat : Int) := by
    rw [UInt8.toNat_ofNat']
    omega
  obtain ⟨c, hc⟩ : ∃ c : UInt8, UInt8.ofNat f.toNat = c := ⟨_, rfl⟩
  rw [hc] at hlu ⊢
  clear hc hfr
  go_enter Tryz.func37, Tryz.ntmps37
  go_wp2_with fail
  refine Calls.mono (GA _) ?_
  rintro e w1 ⟨rfl, u1⟩
  have bX := u1.get (Vnew1 w (.cells (Vl.mk 4 0 [] false f).cs 29)) id
  obtain ⟨c0, c1, c2, c3, c4⟩ := cells5 bX
  have xl := lt_at bX
  have HX := hide bX
  have HU := hide (((Upd.refl w _).alloc _).then u1 (fun _ _ => id))
  clear bX u1 GA
  have RA0 : Rw (w1.alloc (.cells #[.int .u8 4] 5)) 5 1 (.slice (some ⟨w1.heap.size, 0, none⟩) 1 1) 1 [.int .u8 4] := Rw.made w1 #[.int .u8 4] 5 1 1 rfl
  have RX : Rw ((w1.alloc (.cells #[.int .u8 4] 5)).alloc (.cells #[.int .u8 (c.toNat : Int)] 5)) 5 1 (.slice (some ⟨w1.heap.size + 1, 0, none⟩) 1 1) 1 [.int .u8 (c.toNat : Int)] := by
    have h := Rw.made (w1.alloc (.cells #[.int .u8 4] 5)) #[.int .u8 (c.toNat : Int)] 5 1 1 rfl
    simpa using h
  have UD : Upd w1 (w1.alloc (.cells #[.int .u8 4] 5)) (fun _ => False) := (Upd.refl w1 _).alloc _
  go_wp2_with (at_builtin; go_loud (refine wpList_append_rw _ rfl _ _ 80 80 rfl 5 _ ib _ 1 1 Tryz.underlying80 Tryz.underlying80 (by simp) hi hz0 hz1 hz2 rfl _ 1 [.int .u8 4] rfl (RA0.alloc _) _ 1 [.int .u8 (c.toNat : Int)] rfl (Rw.src RX) rfl (by simp [Value.oneCell']) (by omega) (by omega) ?_); intro ga gca wa hva hga hoa; go_loud (have ua : Upd w1 wa (fun _ => False) := Upd.grown (UD.alloc _) hga (fun j hj => .inl (by have hj' : (some w1.heap.size : Option Nat) = some j := hj; have := Option.some.inj hj'; omega))); go_loud (have cv := BtAt.back (w := wa) (v := .slice ga (1 + 1) gca) (l := [4, c]) hva (by simp)))
  go_ret2
  exact ⟨rfl, HU.out.then ua (fun _ _ => id)⟩
theorem numB_ref (n : Int) (j : Nat) (p : Nat) (hp : p = 2 ^ (8 * (7 - j))) : (IntKind.u64.wrap ((IntKind.u64.wrap n).tdiv (p : Int))).tmod 256 % 256 = ((numB n j).toNat : Int) := by
  have h := numB_int n j
  have e2 : ((p : Nat) : Int) = (2 : Int) ^ (8 * (7 - j)) := by rw [hp]; exact Int.natCast_pow 2 _
  rw [← e2] at h
  rw [← h]
  have b : 0 ≤ IntKind.u64.wrap n ∧ IntKind.u64.wrap n < 18446744073709551616 := by
    have e : IntKind.u64.wrap n = n % 18446744073709551616 := by rfl
    rw [e]
    omega
  generalize IntKind.u64.wrap n = N at b
  have d0 : 0 ≤ N / (p : Int) := Int.ediv_nonneg b.1 (by omega)
  have d1 : N / (p : Int) ≤ N := Int.ediv_le_self _ b.1
  rw [Int.tdiv_eq_ediv_of_nonneg b.1]
  generalize N / (p : Int) = D at d0 d1
  have e : IntKind.u64.wrap D = D % 18446744073709551616 := by rfl
  rw [e, Int.emod_eq_of_lt d0 (by omega), Int.tmod_eq_emod_of_nonneg d0]
  omega
theorem pow_step (j : Nat) (h : j + 1 < 8) : 2 ^ (8 * (7 - j)) / 256 = 2 ^ (8 * (7 - (j + 1))) := by
  have e : 8 * (7 - j) = 8 * (7 - (j + 1)) + 8 := by omega
  rw [e, Nat.pow_add]
  exact Nat.mul_div_cancel _ (by decide)
set_option maxHeartbeats 3200000 in
theorem RPutN (w : World) (n : Int) (hn : okNum n = true) : Calls Tryz.prog 37 #[(Vl.mk 1 n [] false 0).val] w (PutPost w (1 :: numBs n 8, 0)) := by
  obtain ⟨ib, hi, hz0, hz1, hz2⟩ := info_parts Tryz.info5
  have GA := fun w => RGood_any w (Vl.mk 1 n [] false 0)
  rw [good_N hn] at GA
  unfold Vl.val at GA ⊢
  simp only at GA ⊢
  go_enter Tryz.func37, Tryz.ntmps37
  go_wp2_with fail
  refine Calls.mono (GA _) ?_
  rintro e w1 ⟨rfl, u1⟩
  have bX := u1.get (Vnew1 w (.cells (Vl.mk 1 n [] false 0).cs 29)) id
  obtain ⟨c0, c1, c2, c3, c4⟩ := cells5 bX
  have xl := lt_at bX
  have HX := hide bX
  have HU := hide (((Upd.refl w _).alloc _).then u1 (fun _ _ => id))
  clear bX u1 GA
  go_wp2_with fail
  go_loopg [5, 7, 8] 8 (fun q v pv iv wr => ∃ j p : Nat, j + q = 8 ∧ iv = .int .i64 (j : Int) ∧ pv = .int .u64 (p : Int) ∧ (j < 8 → p = 2 ^ (8 * (7 - j))) ∧ BtAt wr v (1 :: numBs n j) ∧ Upd w1 wr (fun _ => False) ∧ (∀ k, v.ownBlock = some k → w1.heap.size ≤ k))
  case atStart =>
    refine ⟨0, 72057594037927936, by omega, by rfl, by rfl, fun _ => by decide, ?_, (Upd.refl w1 _).alloc _, ?_⟩
    · exact Rw.made w1 #[.int .u8 1] 5 1 1 rfl
    · intro k hk
      simp [Value.ownBlock] at hk
      omega
  case round =>
    obtain ⟨j, p, hj, rfl, rfl, hp, hv, hu, hob⟩ := hrel
    by_cases hj8 : j < 8
    · have hp' := hp hj8
      have b1 : decide ((j : Int) < 8) = true := decide_eq_true (by omega)
      have nb := numB_ref n j p hp'
      have pb : p ≤ 2 ^ 56 := by rw [hp']; exact Nat.pow_le_pow_right (by omega) (by omega)
      have p0 : 0 < p := by rw [hp']; exact Nat.pow_pos (by omega)
      have p1 : ((p : Int) == 0) = false := beq_eq_false_iff_ne.2 (by omega)
      have p2 : ((p : Int) = 0) = False := eq_false (by omega)
      have HP := hide hp'
      have HPB := hide pb
      clear hp hp'
      go_wp2_with (at_builtin; go_loud (refine wpList_append_rw _ rfl _ _ 80 80 rfl 5 _ ib _ 1 1 Tryz.underlying80 Tryz.underlying80 (by simp) hi hz0 hz1 hz2 rfl _ (1 :: numBs n j).length _ rfl (hv.alloc _) _ 1 _ rfl (Rw.made _ _ _ 1 1 rfl).src rfl (by simp [Value.oneCell']) (by simp [numBs]; omega) (by simp [numBs]; omega) ?_); intro ga gc w2 hv' hg hob')
      go_roundg (gk - 1)
      case measure => omega
      case rel =>
        refine ⟨j + 1, p / 256, by omega, by first | rfl | go_num, by first | rfl | exact congrArg (Value.int .u64) (by omega), fun h => by rw [HP.out]; exact pow_step j h, ?_, (hu.alloc _).grown hg (fun i hi => .inl (hob i hi)), ?_⟩
        · unfold BtAt
          rw [numBs_next]
          simpa using hv'
        · intro i hi
          rcases hob' with e | e
          · exact hob i (Eq.trans (show _ = _ from e.symm) hi)
          · have hi' := Eq.trans e.symm (show _ = _ from hi); simp at hi'; have := hu.size; omega
    · obtain rfl : j = 8 := by omega
      have cv := hv.back (by simp)
      go_wp2_with fail
      go_ret2
      refine ⟨rfl, ?_⟩
      exact HU.out.then hu (fun _ _ => id)
set_option maxHeartbeats 3200000 in
theorem RPut_text (w : World) (t : List UInt8) (ht : t.length ≤ 255) : Calls Tryz.prog 37 #[(Vl.mk 2 0 t false 0).val] w (PutPost w (2 :: UInt8.ofNat t.length :: t, 0)) := by
  obtain ⟨ib, hi, hz0, hz1, hz2⟩ := info_parts Tryz.info5
  have GA := fun w => RGood_any w (Vl.mk 2 0 t false 0)
  rw [good_T ht] at GA
  unfold Vl.val at GA ⊢
  simp only at GA ⊢
  have hlu : (t.length : Int) % 256 = ((UInt8.ofNat t.length).toNat : Int) := by
    rw [UInt8.toNat_ofNat']
    omega
  obtain ⟨c, hc⟩ : ∃ c : UInt8, UInt8.ofNat t.length = c := ⟨_, rfl⟩
  rw [hc] at hlu ⊢
  have HT := hide ht
  clear hc ht
  go_enter Tryz.func37, Tryz.ntmps37
  go_wp2_with fail
  refine Calls.mono (GA _) ?_
  rintro e w1 ⟨rfl, u1⟩
  have bX := u1.get (Vnew1 w (.cells (Vl.mk 2 0 t false 0).cs 29)) id
  obtain ⟨c0, c1, c2, c3, c4⟩ := cells5 bX
  have xl := lt_at bX
  have HX := hide bX
  have HU := hide (((Upd.refl w _).alloc _).then u1 (fun _ _ => id))
  clear bX u1 GA
  have RA0 : Rw (w1.alloc (.cells #[.int .u8 2] 5)) 5 1 (.slice (some ⟨w1.heap.size, 0, none⟩) 1 1) 1 [.int .u8 2] := Rw.made w1 #[.int .u8 2] 5 1 1 rfl
  have RX : Rw ((w1.alloc (.cells #[.int .u8 2] 5)).alloc (.cells #[.int .u8 (c.toNat : Int)] 5)) 5 1 (.slice (some ⟨w1.heap.size + 1, 0, none⟩) 1 1) 1 [.int .u8 (c.toNat : Int)] := by
    have h := Rw.made (w1.alloc (.cells #[.int .u8 2] 5)) #[.int .u8 (c.toNat : Int)] 5 1 1 rfl
    simpa using h
  have UD : Upd w1 (w1.alloc (.cells #[.int .u8 2] 5)) (fun _ => False) := (Upd.refl w1 _).alloc _
  go_wp2_with (at_builtin; go_loud (refine wpList_append_rw _ rfl _ _ 80 80 rfl 5 _ ib _ 1 1 Tryz.underlying80 Tryz.underlying80 (by simp) hi hz0 hz1 hz2 rfl _ 1 [.int .u8 2] rfl (RA0.alloc _) _ 1 [.int .u8 (c.toNat : Int)] rfl (Rw.src RX) rfl (by simp [Value.oneCell']) (by omega) (by omega) ?_); intro ga gca wa hva hga hoa; go_loud (have ua : Upd w1 wa (fun _ => False) := Upd.grown (UD.alloc _) hga (fun j hj => .inl (by have hj' : (some w1.heap.size : Option Nat) = some j := hj; have := Option.some.inj hj'; omega))); have HX2 := hide (ua.get HX.out id); have oa : ∀ j, (Value.slice ga (1 + 1) gca).ownBlock = some j → w1.heap.size ≤ j := (fun j hj => hoa.elim (fun e => by have hj' : (some w1.heap.size : Option Nat) = some j := e.symm.trans hj; have := Option.some.inj hj'; omega) (fun e => by have hj' := Option.some.inj (e.symm.trans hj); simp at hj'; omega)))
  go_loopg [5, 9] t.length (fun q v iv wr => ∃ j : Nat, j + q = t.length ∧ iv = .int .i64 (j : Int) ∧ BtAt wr v (2 :: c :: t.take j) ∧ Upd w1 wr (fun _ => False) ∧ (∀ k, v.ownBlock = some k → w1.heap.size ≤ k))
  case atStart => exact ⟨0, by omega, by first | rfl | go_num, hva, ua, oa⟩
  case round =>
    clear hva hga hoa oa HX2 RA0 RX c0 c1 c2 c3 c4 hlu
    obtain ⟨j, hj, rfl, hv, hu, hob⟩ := hrel
    have bX2 := hu.get HX.out id
    obtain ⟨d0, d1, d2, d3, d4⟩ := cells5 bX2
    have xl2 := lt_at bX2
    clear bX2
    by_cases hjl : j < t.length
    · have b1 : decide ((j : Int) < (t.length : Int)) = true := decide_eq_true (by omega)
      have b2 : decide (j < t.length) = true := decide_eq_true hjl
      have hsz : j < (⟨t.toArray⟩ : ByteArray).size := hjl
      obtain ⟨x, hx⟩ : ∃ x, (⟨t.toArray⟩ : ByteArray)[j] = x := ⟨_, rfl⟩
      have hx' : t[j] = x := hx
      have hl255 := HT.out
      have htk : t.take (j + 1) = t.take j ++ [x] := by rw [List.take_succ_eq_append_getElem hjl, hx']
      have hln : (2 :: c :: t.take j).length = j + 2 := by simp; omega
      have hv2 : Rw wr 5 1 u5 (j + 2) ((2 :: c :: t.take j).map fun b => .int .u8 (b.toNat : Int)) := by
        unfold BtAt at hv
        rw [hln] at hv
        exact hv
      have HTK := hide htk
      clear htk hx'
      go_wp2_with (at_builtin; go_loud (refine wpList_append_rw _ rfl _ _ 80 80 rfl 5 _ ib _ 1 1 Tryz.underlying80 Tryz.underlying80 (by simp) hi hz0 hz1 hz2 rfl _ (j + 2) _ rfl (hv2.alloc _) _ 1 [.int .u8 (x.toNat : Int)] rfl (Rw.made _ _ _ 1 1 rfl).src rfl (by simp [Value.oneCell']) (by omega) (by omega) ?_); intro gb gcb w2 hv' hg hob')
      go_roundg (gk - 1)
      case measure => omega
      case rel =>
        refine ⟨j + 1, by omega, by first | rfl | go_num, ?_, (hu.alloc _).grown hg (fun i hi => .inl (hob i hi)), ?_⟩
        · unfold BtAt
          rw [HTK.out]
          have e9 : (2 :: c :: (t.take j ++ [x])).length = j + 2 + 1 := by simp; omega
          rw [e9]
          simpa using hv'
        · intro i hi
          rcases hob' with e | e
          · exact hob i (Eq.trans (show _ = _ from e.symm) hi)
          · have hi' := Eq.trans e.symm (show _ = _ from hi); simp at hi'; have := hu.size; omega
    · obtain rfl : j = t.length := by omega
      have b1 : decide ((t.length : Int) < (t.length : Int)) = false := decide_eq_false (by omega)
      rw [List.take_length] at hv
      have cv := hv.back (by simp)
      go_wp2_with fail
      go_ret2
      refine ⟨rfl, ?_⟩
      exact HU.out.then hu (fun _ _ => id)
theorem RPut_any (w : World) (x : Vl) : Calls Tryz.prog 37 #[x.val] w (PutPost w (putV x)) := by
  unfold putV
  cases hg : goodV x with
  | false => exact RPut_bad w x hg
  | true =>
    rw [if_pos rfl]
    rcases good_forms hg with rfl | ⟨n, hn, rfl⟩ | ⟨t, ht, rfl⟩ | ⟨b, rfl⟩ | ⟨f, hf, rfl⟩
    · exact RPut_blank w
    · exact RPutN w n hn
    · exact RPut_text w t ht
    · cases b with
      | true => exact RPut_bool_true w
      | false => exact RPut_bool_false w
    · exact RPut_err w f hf
end Go.Proofs.YthahgablbdfodaaGreatDoor
/- Package value's Get at every text and place. -/
set_option maxRecDepth 100000
namespace Go.Proofs.YthahgablbdfodaaGreatDoor
open Go.RowKit Go.Lat Go.Lib

/-- The value that bytes begin with, and how many bytes it takes. -/
def tellV : List UInt8 → Option (Vl × Nat)
  | [] => none
  | k :: q =>
    if k.toNat = 0 then some (vZero, 1)
    else if k.toNat = 1 then (if 8 ≤ q.length ∧ okNum (numOf (q.take 8)) = true then some (⟨1, numOf (q.take 8), [], false, 0⟩, 9) else none)
    else if k.toNat = 2 then (match q with | [] => none | c :: p => if c.toNat ≤ p.length then some (⟨2, 0, p.take c.toNat, false, 0⟩, 2 + c.toNat) else none)
    else if k.toNat = 3 then (match q with | [] => none | c :: _ => if c.toNat ≤ 1 then some (⟨3, 0, [], decide (c.toNat = 1), 0⟩, 2) else none)
    else if k.toNat = 4 then (match q with | [] => none | c :: _ => if okFail (c.toNat : Int) = true then some (⟨4, 0, [], false, (c.toNat : Int)⟩, 2) else none)
    else none
/-- The value of bytes at a place, the place behind it, and the error. -/
def getV (s : List UInt8) (a : Int) : Vl × Int × Int :=
  if a < 0 ∨ a > (s.length : Int) then (vZero, 0, 3) else match tellV (s.drop a.toNat) with
    | some (v, n) => (v, a + (n : Int), 0)
    | none => (vZero, 0, 4)

theorem natOf_append (x c : List UInt8) : natOf (x ++ c) = natOf x * 256 ^ c.length + natOf c := by
  have key : ∀ (c : List UInt8) (n : Nat), c.foldl (fun n b => n * 256 + b.toNat) n = n * 256 ^ c.length + natOf c := by
    intro c
    induction c with
    | nil => intro n; simp [natOf]
    | cons b c ih =>
      intro n
      have h1 := ih (n * 256 + b.toNat)
      have h2 := ih b.toNat
      rw [List.foldl_cons, h1]
      have e : natOf (b :: c) = b.toNat * 256 ^ c.length + natOf c := by
        unfold natOf
        rw [List.foldl_cons, Nat.zero_mul, Nat.zero_add]
        exact h2
      rw [e, List.length_cons, Nat.pow_succ, Nat.add_mul, Nat.mul_comm (256 ^ c.length) 256, ← Nat.mul_assoc]
      omega
  unfold natOf
  rw [List.foldl_append]
  exact key c _
theorem natOf_at {l : List UInt8} (hl : l.length = 8) {j : Nat} (hj : j < 8) : natOf l / 256 ^ (7 - j) % 256 = (l[j]'(by omega)).toNat := by
  have e : l = (l.take j ++ [l[j]'(by omega)]) ++ l.drop (j + 1) := by simp
  have hc : (l.drop (j + 1)).length = 7 - j := by rw [List.length_drop]; omega
  have hlt := natOf_lt (l.drop (j + 1))
  rw [hc] at hlt
  have hb := (l[j]'(by omega)).toNat_lt
  have h2 : natOf l = (natOf (l.take j) * 256 + (l[j]'(by omega)).toNat) * 256 ^ (7 - j) + natOf (l.drop (j + 1)) := by
    conv => lhs; rw [e]
    rw [natOf_append, hc, natOf_snoc]
  rw [h2, Nat.mul_comm, Nat.mul_add_div (Nat.pow_pos (by decide)), Nat.div_eq_of_lt hlt]
  omega
theorem numOf_mod (l : List UInt8) (hl : l.length = 8) : (numOf l % 18446744073709551616).toNat = natOf l := by
  have h := natOf_lt l
  rw [hl] at h
  have h4 : (256 : Nat) ^ 8 = 18446744073709551616 := by decide
  rw [h4] at h
  unfold numOf
  rw [IntWalk.i64_left]
  unfold wrap64
  omega
theorem numOf_ok (l : List UInt8) : i64ok (numOf l) := by
  unfold numOf i64ok
  rw [IntWalk.i64_left]
  unfold wrap64
  omega
theorem numBs_of (l : List UInt8) (hl : l.length = 8) : numBs (numOf l) 8 = l := by
  unfold numBs
  apply List.ext_getElem
  · simp [hl]
  · intro j h1 h2
    have hj : j < 8 := by simpa using h1
    simp only [List.getElem_map, List.getElem_range]
    unfold numB
    rw [numOf_mod l hl]
    apply UInt8.toNat_inj.1
    rw [UInt8.toNat_ofNat']
    have e : (2 : Nat) ^ (8 * (7 - j)) = 256 ^ (7 - j) := by rw [Nat.pow_mul]
    rw [e]
    exact natOf_at hl hj
theorem good_N_not {n : Int} (h : okNum n = false) : goodV ⟨1, n, [], false, 0⟩ = false := by
  unfold goodV
  simp only [show ¬ ((1 : Int) = 0) by decide, if_false, if_true]
  rw [Bool.eq_false_iff]
  intro e
  have e := eqV_iff.1 e
  unfold mkN at e
  rw [if_neg (by simp [h])] at e
  simp [mkE] at e
theorem good_E_not {f : Int} (h : okFail f = false) : goodV ⟨4, 0, [], false, f⟩ = false := by
  unfold goodV
  simp only [show ¬ ((4 : Int) = 0) by decide, show ¬ ((4 : Int) = 1) by decide, show ¬ ((4 : Int) = 2) by decide, show ¬ ((4 : Int) = 3) by decide, if_false, if_true]
  rw [Bool.eq_false_iff]
  intro e
  have e := eqV_iff.1 e
  unfold mkE at e
  rw [if_neg (by simp [h])] at e
  have : f = 3 := by simpa using e
  subst this
  exact absurd h (by decide)
theorem putV_bad {x : Vl} (h : goodV x = false) : putV x = ([], 4) := by
  unfold putV
  rw [if_neg (by simp [h])]
theorem extr_take (l : List UInt8) (m : Nat) : (⟨l.toArray⟩ : ByteArray).extract 0 m = ⟨(l.take m).toArray⟩ := by
  apply Go.WideShapes.bytes_inj
  have := take1 ⟨l.toArray⟩ m
  rw [this]
theorem extr_drop (s : ByteArray) (m : Nat) : s.extract m s.size = ⟨(s.data.toList.drop m).toArray⟩ := by
  apply Go.WideShapes.bytes_inj
  simp only [ByteArray.data_extract, Array.toList_extract, List.extract_eq_take_drop]
  rw [List.take_of_length_le]
  rw [List.length_drop]
  show s.data.toList.length - m ≤ s.size - m
  exact Nat.le_refl _
theorem longL (k : UInt8) (q : List UInt8) (w : World) : Calls Tryz.prog 62 #[enS (k :: q)] w fun e w' => e = .returned (.tuple #[.int .i64 (longV k.toNat (q.head?.map (·.toNat))).1, .bool (longV k.toNat (q.head?.map (·.toNat))).2]) ∧ w' = w := by
  refine long_any w ⟨(k :: q).toArray⟩ (Nat.succ_pos _) k rfl _ ?_
  cases q with
  | nil => rw [dif_neg (by show ¬ 1 < 1; decide)]; rfl
  | cons c p => rw [dif_pos (by show 1 < p.length + 1 + 1; omega)]; rfl
theorem drop2 (k c : UInt8) (p : List UInt8) : (⟨(k :: c :: p).toArray⟩ : ByteArray).extract 2 (⟨(k :: c :: p).toArray⟩ : ByteArray).size = ⟨p.toArray⟩ := by rw [extr_drop]; rfl
theorem drop1' (k : UInt8) (p : List UInt8) : (⟨(k :: p).toArray⟩ : ByteArray).extract 1 (⟨(k :: p).toArray⟩ : ByteArray).size = ⟨p.toArray⟩ := by rw [extr_drop]; rfl
theorem k_is {k : UInt8} {n : Nat} (hn : n < 256) (h : k.toNat = n) : k = UInt8.ofNat n := by
  apply UInt8.toNat_inj.1
  rw [h, UInt8.toNat_ofNat']
  omega

theorem Get_any (w : World) (s : ByteArray) (hs : s.size ≤ 1000) (a : Int) : Calls Tryz.prog 40 #[.string s, .int .i64 a] w (GetPost w (getV s.data.toList a).1 (getV s.data.toList a).2.1 (getV s.data.toList a).2.2) := by
  have hsl : s.data.toList.length = s.size := rfl
  unfold getV
  rw [hsl]
  by_cases h1 : a < 0
  · rw [if_pos (.inl h1)]
    exact Get_out w s a (.inl (by simpa using h1))
  · by_cases h2 : a > (s.size : Int)
    · rw [if_pos (.inr h2)]
      exact Get_out w s a (.inr ⟨by simpa using h1, by simpa using h2⟩)
    · rw [if_neg (by omega)]
      obtain ⟨A, rfl⟩ : ∃ A : Nat, a = (A : Int) := ⟨a.toNat, by omega⟩
      have ha : A ≤ s.size := by omega
      rw [Int.toNat_natCast]
      have hz := extr_drop s A
      have hll : (s.data.toList.drop A).length ≤ 1000 := by rw [List.length_drop, hsl]; omega
      obtain ⟨l, hl⟩ : ∃ l, s.data.toList.drop A = l := ⟨_, rfl⟩
      rw [hl] at hz hll ⊢
      clear hl hsl
      cases l with
      | nil => exact Get_empty w s A ha hz
      | cons k q =>
        have hne : ((k :: q) == []) = false := rfl
        have L := longL k q
        unfold tellV
        dsimp only
        rw [List.length_cons] at hll
        by_cases k0 : k.toNat = 0
        · rw [if_pos k0]
          rw [k0] at L
          obtain rfl := k_is (by decide) k0
          have P := fun w => Put_any w vZero vZero_ok
          rw [show putV vZero = ([0], 0) from rfl] at P
          have h := Get_good w s A ha (0 :: q) hz hne 0 (Nat.succ_pos _) (by decide) L [0] (by rw [extr_take]; rfl) 0 0 [] false 0 (fun w => told_blank w ⟨#[0]⟩ (by decide) rfl) [0] 0 P (by omega) rfl rfl
          have e : (A : Int) + 1 + ((0 : Nat) : Int) = (A : Int) + ((1 : Nat) : Int) := by omega
          rw [e] at h
          exact h
        · rw [if_neg k0]
          by_cases k1 : k.toNat = 1
          · rw [if_pos k1]
            rw [k1] at L
            obtain rfl := k_is (by decide) k1
            by_cases hq : q.length < 8
            · rw [if_neg (by omega)]
              exact Get_short w s A ha _ hz hne 8 (by rw [List.length_cons]; omega) L
            · have hq8 : (q.take 8).length = 8 := by rw [List.length_take]; omega
              have P := fun w => Put_any w ⟨1, numOf (q.take 8), [], false, 0⟩ ⟨i1, numOf_ok _, Nat.zero_le _, i0⟩
              have T := fun w => told_num w ⟨(1 :: q.take 8).toArray⟩ ⟨(q.take 8).toArray⟩ (Nat.succ_pos _) rfl (drop1' _ _) hq8
              by_cases hok : okNum (numOf (q.take 8)) = true
              · rw [if_pos ⟨by omega, hok⟩]
                have e2 : putV ⟨1, numOf (q.take 8), [], false, 0⟩ = (1 :: q.take 8, 0) := by
                  unfold putV
                  rw [if_pos (good_N hok)]
                  simp only [show ¬ ((1 : Int) = 0) by decide, if_false, if_true]
                  rw [numBs_of _ hq8]
                rw [e2] at P
                have h := Get_good w s A ha (1 :: q) hz hne 8 (by rw [List.length_cons]; omega) (by decide) L (1 :: q.take 8) (by rw [extr_take]; rfl) 1 (numOf (q.take 8)) [] false 0 T (1 :: q.take 8) 0 P (by omega) rfl (by simp)
                have e : (A : Int) + 1 + ((8 : Nat) : Int) = (A : Int) + ((9 : Nat) : Int) := by omega
                rw [e] at h
                exact h
              · rw [if_neg (fun h => hok h.2)]
                rw [putV_bad (good_N_not (by simpa using hok))] at P
                exact Get_bad1 w s A ha (1 :: q) hz hne 8 (by rw [List.length_cons]; omega) (by decide) L (1 :: q.take 8) (by rw [extr_take]; rfl) 1 (numOf (q.take 8)) [] false 0 T [] 4 P rfl
          · rw [if_neg k1]
            by_cases k2 : k.toNat = 2
            · rw [if_pos k2]
              rw [k2] at L
              obtain rfl := k_is (by decide) k2
              cases q with
              | nil => exact Get_untold w s A ha _ hz hne 0 L
              | cons c p =>
                have L2 : ∀ w, Calls Tryz.prog 62 #[enS (2 :: c :: p)] w fun e w' => e = .returned (.tuple #[.int .i64 ((1 + c.toNat : Nat) : Int), .bool true]) ∧ w' = w := by
                  intro w
                  have e : ((1 + c.toNat : Nat) : Int) = 1 + (c.toNat : Int) := by omega
                  rw [e]
                  exact L w
                have c255 := c.toNat_lt
                simp only [List.length_cons] at hll
                by_cases hc : c.toNat ≤ p.length
                · simp only [if_pos hc]
                  have hpl : (p.take c.toNat).length = c.toNat := by rw [List.length_take]; omega
                  have P := fun w => Put_any w ⟨2, 0, p.take c.toNat, false, 0⟩ ⟨i2, i0, by show (p.take c.toNat).length ≤ maxLen; rw [hpl]; exact Nat.le_trans (Nat.le_of_lt c255) (by decide), i0⟩
                  have e2 : putV ⟨2, 0, p.take c.toNat, false, 0⟩ = (2 :: c :: p.take c.toNat, 0) := by
                    unfold putV
                    rw [if_pos (good_T (by omega))]
                    simp only [show ¬ ((2 : Int) = 0) by decide, show ¬ ((2 : Int) = 1) by decide, if_false, if_true]
                    rw [hpl, UInt8.ofNat_toNat]
                  rw [e2] at P
                  have T := fun w => told_text w ⟨(2 :: c :: p.take c.toNat).toArray⟩ ⟨(p.take c.toNat).toArray⟩ (Nat.succ_pos _) rfl (by show 2 ≤ (p.take c.toNat).length + 1 + 1; omega) (drop2 _ _ _)
                  have h := Get_good w s A ha (2 :: c :: p) hz hne (1 + c.toNat) (by simp only [List.length_cons]; omega) (by omega) L2 (2 :: c :: p.take c.toNat) (by rw [extr_take]; rw [show 1 + (1 + c.toNat) = c.toNat + 1 + 1 by omega]; rfl) 2 0 (p.take c.toNat) false 0 T (2 :: c :: p.take c.toNat) 0 P (by omega) rfl (by simp)
                  have e : (A : Int) + 1 + ((1 + c.toNat : Nat) : Int) = (A : Int) + ((2 + c.toNat : Nat) : Int) := by omega
                  rw [e] at h
                  exact h
                · simp only [if_neg hc]
                  exact Get_short w s A ha _ hz hne (1 + c.toNat) (by simp only [List.length_cons]; omega) L2
            · rw [if_neg k2]
              by_cases k3 : k.toNat = 3
              · rw [if_pos k3]
                rw [k3] at L
                obtain rfl := k_is (by decide) k3
                cases q with
                | nil => exact Get_short w s A ha _ hz hne 1 (by simp) L
                | cons c p =>
                  obtain ⟨b, hb⟩ : ∃ b, ((c.toNat : Int) == 1) = b := ⟨_, rfl⟩
                  have P := fun w => Put_any w ⟨3, 0, [], b, 0⟩ (mkB_ok b)
                  have e2 : putV ⟨3, 0, [], b, 0⟩ = ([3, if b then 1 else 0], 0) := by
                    unfold putV
                    rw [if_pos (good_B b)]
                    simp only [show ¬ ((3 : Int) = 0) by decide, show ¬ ((3 : Int) = 1) by decide, show ¬ ((3 : Int) = 2) by decide, if_false, if_true]
                  rw [e2] at P
                  have T := fun w => told_bool w ⟨#[3, c]⟩ (Nat.succ_pos _) rfl (by show 1 < 2; decide) b hb
                  have hbd : b = decide (c.toNat = 1) := by rw [← hb, Bool.eq_iff_iff]; simp; omega
                  by_cases hc : c.toNat ≤ 1
                  · simp only [if_pos hc]
                    have ec : (if b then (1 : UInt8) else 0) = c := by
                      have h01 : c.toNat = 0 ∨ c.toNat = 1 := by omega
                      rcases h01 with h | h
                      · obtain rfl := k_is (by decide) h
                        rw [hbd]; rfl
                      · obtain rfl := k_is (by decide) h
                        rw [hbd]; rfl
                    rw [ec] at P
                    have h := Get_good w s A ha (3 :: c :: p) hz hne 1 (by simp) (by decide) L [3, c] (by rw [extr_take]; rfl) 3 0 [] b 0 T [3, c] 0 P (by omega) rfl (by simp)
                    have e : (A : Int) + 1 + ((1 : Nat) : Int) = (A : Int) + ((2 : Nat) : Int) := by omega
                    rw [e, hbd] at h
                    exact h
                  · simp only [if_neg hc]
                    have ec : (if b then (1 : UInt8) else 0) ≠ c := by
                      intro e
                      apply hc
                      rw [← e]
                      cases b <;> decide
                    exact Get_bad2 w s A ha (3 :: c :: p) hz hne 1 (by simp) (by decide) L [3, c] (by rw [extr_take]; rfl) 3 0 [] b 0 T _ 0 P rfl (by simpa using ec)
              · rw [if_neg k3]
                by_cases k4 : k.toNat = 4
                · rw [if_pos k4]
                  rw [k4] at L
                  obtain rfl := k_is (by decide) k4
                  cases q with
                  | nil => exact Get_short w s A ha _ hz hne 1 (by simp) L
                  | cons c p =>
                    have c255 := c.toNat_lt
                    have P := fun w => Put_any w ⟨4, 0, [], false, (c.toNat : Int)⟩ ⟨i4, i0, Nat.zero_le _, ⟨by show (-9223372036854775808 : Int) ≤ (c.toNat : Int); omega, by show (c.toNat : Int) ≤ 9223372036854775807; omega⟩⟩
                    have T := fun w => told_err w ⟨#[4, c]⟩ (Nat.succ_pos _) rfl (by show 1 < 2; decide) c.toNat rfl (IntWalk.wrap64_in _ (by omega))
                    by_cases hf : okFail (c.toNat : Int) = true
                    · simp only [if_pos hf]
                      have e2 : putV ⟨4, 0, [], false, (c.toNat : Int)⟩ = ([4, c], 0) := by
                        unfold putV
                        rw [if_pos (good_E hf)]
                        simp only [show ¬ ((4 : Int) = 0) by decide, show ¬ ((4 : Int) = 1) by decide, show ¬ ((4 : Int) = 2) by decide, show ¬ ((4 : Int) = 3) by decide, if_false]
                        rw [Int.toNat_natCast, UInt8.ofNat_toNat]
                      rw [e2] at P
                      have h := Get_good w s A ha (4 :: c :: p) hz hne 1 (by simp) (by decide) L [4, c] (by rw [extr_take]; rfl) 4 0 [] false (c.toNat : Int) T [4, c] 0 P (by omega) rfl (by simp)
                      have e : (A : Int) + 1 + ((1 : Nat) : Int) = (A : Int) + ((2 : Nat) : Int) := by omega
                      rw [e] at h
                      exact h
                    · simp only [if_neg hf]
                      rw [putV_bad (good_E_not (by simpa using hf))] at P
                      exact Get_bad1 w s A ha (4 :: c :: p) hz hne 1 (by simp) (by decide) L [4, c] (by rw [extr_take]; rfl) 4 0 [] false (c.toNat : Int) T [] 4 P rfl
                · rw [if_neg k4]
                  have e : longV k.toNat (q.head?.map (·.toNat)) = (0, false) := by
                    unfold longV
                    rw [if_neg k0, if_neg k1, if_neg k2, if_neg k3, if_neg k4]
                  rw [e] at L
                  exact Get_untold w s A ha _ hz hne 0 L
end Go.Proofs.YthahgablbdfodaaGreatDoor
