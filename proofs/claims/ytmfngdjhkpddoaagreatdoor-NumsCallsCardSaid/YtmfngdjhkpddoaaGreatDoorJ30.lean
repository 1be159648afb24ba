/- The walks of nums' takes, Has, fact. -/
import Derived.Test.YtmfngdjhkpddoaaGreatDoorJ29
/- The walks of nums' takes, Has, fact. -/
set_option maxRecDepth 100000
namespace Go.Proofs.YtmfngdjhkpddoaaGreatDoor
open Go.RowKit Go.Lat Go.Lib

set_option maxHeartbeats 1600000 in
theorem nTakes_any (w : World) (n : List UInt8) : Calls Tryz.prog 31 #[enS n] w fun e w' => e = .returned (.int .i64 (takesN n)) ∧ w' = w := by
  rcases fun_cases n with ⟨hn, b1, b2, b3, b4, b5, b6, b7, b8, b9, b10, b11, b12, b13, b14⟩ | ⟨hn, b1, b2, b3, b4, b5, b6, b7, b8, b9, b10, b11, b12, b13, b14⟩ | ⟨hn, b1, b2, b3, b4, b5, b6, b7, b8, b9, b10, b11, b12, b13, b14⟩ | ⟨hn, b1, b2, b3, b4, b5, b6, b7, b8, b9, b10, b11, b12, b13, b14⟩ | ⟨hn, b1, b2, b3, b4, b5, b6, b7, b8, b9, b10, b11, b12, b13, b14⟩ | ⟨hn, b1, b2, b3, b4, b5, b6, b7, b8, b9, b10, b11, b12, b13, b14⟩ | ⟨hn, b1, b2, b3, b4, b5, b6, b7, b8, b9, b10, b11, b12, b13, b14⟩ | ⟨hn, b1, b2, b3, b4, b5, b6, b7, b8, b9, b10, b11, b12, b13, b14⟩ | ⟨hn, b1, b2, b3, b4, b5, b6, b7, b8, b9, b10, b11, b12, b13, b14⟩ | ⟨hn, b1, b2, b3, b4, b5, b6, b7, b8, b9, b10, b11, b12, b13, b14⟩ | ⟨hn, b1, b2, b3, b4, b5, b6, b7, b8, b9, b10, b11, b12, b13, b14⟩ | ⟨hn, b1, b2, b3, b4, b5, b6, b7, b8, b9, b10, b11, b12, b13, b14⟩ | ⟨hn, b1, b2, b3, b4, b5, b6, b7, b8, b9, b10, b11, b12, b13, b14⟩ | ⟨hn, b1, b2, b3, b4, b5, b6, b7, b8, b9, b10, b11, b12, b13, b14⟩ | ⟨n1, n2, n3, n4, n5, n6, n7, n8, n9, n10, n11, n12, n13, n14, b1, b2, b3, b4, b5, b6, b7, b8, b9, b10, b11, b12, b13, b14⟩
  · have et : takesN n = 1 := by rw [hn]; decide
    rw [et]
    clear hn et
    go_enter Tryz.func31, Tryz.ntmps31
    go_wp2_with fail
    go_ret
    exact ⟨rfl, rfl⟩
  · have et : takesN n = 1 := by rw [hn]; decide
    rw [et]
    clear hn et
    go_enter Tryz.func31, Tryz.ntmps31
    go_wp2_with fail
    go_ret
    exact ⟨rfl, rfl⟩
  · have et : takesN n = 1 := by rw [hn]; decide
    rw [et]
    clear hn et
    go_enter Tryz.func31, Tryz.ntmps31
    go_wp2_with fail
    go_ret
    exact ⟨rfl, rfl⟩
  · have et : takesN n = 1 := by rw [hn]; decide
    rw [et]
    clear hn et
    go_enter Tryz.func31, Tryz.ntmps31
    go_wp2_with fail
    go_ret
    exact ⟨rfl, rfl⟩
  · have et : takesN n = 1 := by rw [hn]; decide
    rw [et]
    clear hn et
    go_enter Tryz.func31, Tryz.ntmps31
    go_wp2_with fail
    go_ret
    exact ⟨rfl, rfl⟩
  · have et : takesN n = 1 := by rw [hn]; decide
    rw [et]
    clear hn et
    go_enter Tryz.func31, Tryz.ntmps31
    go_wp2_with fail
    go_ret
    exact ⟨rfl, rfl⟩
  · have et : takesN n = 1 := by rw [hn]; decide
    rw [et]
    clear hn et
    go_enter Tryz.func31, Tryz.ntmps31
    go_wp2_with fail
    go_ret
    exact ⟨rfl, rfl⟩
  · have et : takesN n = 2 := by rw [hn]; decide
    rw [et]
    clear hn et
    go_enter Tryz.func31, Tryz.ntmps31
    go_wp2_with fail
    go_ret
    exact ⟨rfl, rfl⟩
  · have et : takesN n = 2 := by rw [hn]; decide
    rw [et]
    clear hn et
    go_enter Tryz.func31, Tryz.ntmps31
    go_wp2_with fail
    go_ret
    exact ⟨rfl, rfl⟩
  · have et : takesN n = 2 := by rw [hn]; decide
    rw [et]
    clear hn et
    go_enter Tryz.func31, Tryz.ntmps31
    go_wp2_with fail
    go_ret
    exact ⟨rfl, rfl⟩
  · have et : takesN n = 2 := by rw [hn]; decide
    rw [et]
    clear hn et
    go_enter Tryz.func31, Tryz.ntmps31
    go_wp2_with fail
    go_ret
    exact ⟨rfl, rfl⟩
  · have et : takesN n = 2 := by rw [hn]; decide
    rw [et]
    clear hn et
    go_enter Tryz.func31, Tryz.ntmps31
    go_wp2_with fail
    go_ret
    exact ⟨rfl, rfl⟩
  · have et : takesN n = 2 := by rw [hn]; decide
    rw [et]
    clear hn et
    go_enter Tryz.func31, Tryz.ntmps31
    go_wp2_with fail
    go_ret
    exact ⟨rfl, rfl⟩
  · have et : takesN n = 2 := by rw [hn]; decide
    rw [et]
    clear hn et
    go_enter Tryz.func31, Tryz.ntmps31
    go_wp2_with fail
    go_ret
    exact ⟨rfl, rfl⟩
  · have et : takesN n = 0 := by unfold takesN ones twos; simp [n1, n2, n3, n4, n5, n6, n7, n8, n9, n10, n11, n12, n13, n14]
    rw [et]
    clear n1 n2 n3 n4 n5 n6 n7 n8 n9 n10 n11 n12 n13 n14 et
    go_enter Tryz.func31, Tryz.ntmps31
    go_wp2_with fail
    go_ret
    exact ⟨rfl, rfl⟩
theorem nHas_any (w : World) (n : List UInt8) : Calls Tryz.prog 21 #[enS n] w fun e w' => e = .returned (.bool (decide (0 < takesN n))) ∧ w' = w := by
  have T := fun w => nTakes_any w n
  obtain ⟨t, ht⟩ : ∃ t, takesN n = t := ⟨_, rfl⟩
  rw [ht] at T ⊢
  clear ht
  go_enter Tryz.func21, Tryz.ntmps21
  go_wp2_with fail
  refine Calls.mono (T _) ?_
  rintro e w1 ⟨rfl, hw⟩
  obtain rfl := hw.symm
  clear hw
  go_wp2_with fail
  all_goals go_ret
  all_goals exact ⟨by simp_all, rfl⟩
set_option maxHeartbeats 1600000 in
theorem fact_any (w : World) (a : Int) (ha : okNum a = true) : Calls Tryz.prog 68 #[.int .i64 a] w fun e w' => e = .returned (factV a).val ∧ Upd w w' (fun _ => False) := by
  have WA := fun w => whole_any w a
  rw [wholeb ha, wholeF_of ha] at WA
  have hwm := fun h : a.tmod 10000 = 0 => whole_mul h
  have hzr := wholeF_rng a
  rw [wholeF_of ha] at hzr
  unfold factV
  obtain ⟨z, hz⟩ : ∃ z, a.tdiv 10000 = z := ⟨_, rfl⟩
  rw [hz] at WA hwm hzr ⊢
  have HU0 : Hid (Upd w (w.alloc (.cells #[.int .i64 0, .int .i64 0, .string ⟨#[]⟩, .bool false, .int .i64 0] 26)) (fun _ => False)) := hide ((Upd.refl w _).alloc _)
  have HV0 : Hid ((w.alloc (.cells #[.int .i64 0, .int .i64 0, .string ⟨#[]⟩, .bool false, .int .i64 0] 26)).heap[w.heap.size]? = some (.cells #[.int .i64 0, .int .i64 0, .string ⟨#[]⟩, .bool false, .int .i64 0] 26 (0, 0))) := hide (Vnew1 w _)
  by_cases h : a.tmod 10000 = 0
  · have ez := hwm h
    have hd : decide (a.tmod 10000 = 0) = true := by simpa using h
    rw [hd] at WA
    by_cases h2 : z < 0
    · rw [if_pos (.inr (by omega))]
      have EA := fun w => E_any w 2
      obtain ⟨⟨k0, n0, t0, b0, e0'⟩, hev⟩ : ∃ v, mkE 2 = v := ⟨_, rfl⟩
      rw [hev] at EA ⊢
      unfold Vl.val at EA
      (try unfold Vl.val)
      simp only at EA ⊢
      clear hev
      clear hd ez hwm h hz hzr ha
      go_enter Tryz.func68, Tryz.ntmps68
      go_wp2_with fail
      with_reducible refine Calls.mono (WA _) ?_
      rintro e w1 ⟨rfl, u1⟩
      have HU1 := hide (HU0.out.then u1 (fun _ _ => id))
      have HV1 := hide (u1.get HV0.out id)
      clear u1
      go_wp2_with fail
      with_reducible refine Calls.mono (EA _) ?_
      rintro e w9 ⟨rfl, u9⟩
      have HU9 := hide (HU1.out.then u9 (fun _ _ => id))
      have bV := u9.get HV1.out id
      obtain ⟨v0, v1, v2, v3, v4⟩ := cells5 bV
      have vl := lt_at bV
      have fv0 := free_at bV 0
      have fv1 := free_at bV 1
      have fv2 := free_at bV 2
      have fv3 := free_at bV 3
      have fv4 := free_at bV 4
      have HB := hide bV
      clear bV u9
      go_wp2_with fail
      (try simp only [Exit.inBlock, Exit.then])
      refine bodyPost_ret (ret_vl rfl _ _ (w.heap.size) ⟨k0, n0, t0, b0, e0'⟩ rfl (block5 (x := vZero) HB.out _ _ _ _ _)) rfl ?_
      exact ⟨rfl, upd5 HU9.out (by omega) _ _ _ _ _⟩
    · rw [if_neg (by omega)]
      obtain ⟨N, rfl⟩ : ∃ N : Nat, z = N := ⟨z.toNat, by omega⟩
      simp only [Int.natAbs_natCast]
      obtain ⟨⟨P, C⟩, hPC⟩ : ∃ r, prodF (N - 1) = r := ⟨_, rfl⟩
      rw [hPC]
      have HT := hide hPC
      have TO := fun w => nTold_any w P C
      obtain ⟨⟨k0, n0, t0, b0, e0'⟩, hev⟩ : ∃ v, tldV (P, C) = v := ⟨_, rfl⟩
      rw [hev] at TO ⊢
      unfold Vl.val at TO
      (try unfold Vl.val)
      simp only at TO ⊢
      clear hev
      clear hd ez hwm h hz ha hPC
      go_enter Tryz.func68, Tryz.ntmps68
      go_wp2_with fail
      with_reducible refine Calls.mono (WA _) ?_
      rintro e w1 ⟨rfl, u1⟩
      have HU1 := hide (HU0.out.then u1 (fun _ _ => id))
      have HV1 := hide (u1.get HV0.out id)
      clear u1
      go_wp2_with fail
      go_loopg [5, 6, 7] (N + 1) (fun q pv ev kv wr => ∃ j : Nat, j + q = N + 1 ∧ j ≤ N - 1 ∧ pv = .int .i64 (prodF j).1 ∧ ev = .int .i64 (prodF j).2 ∧ kv = .int .i64 ((j : Int) + 2) ∧ Upd w wr (fun _ => False) ∧ wr.heap[w.heap.size]? = some (.cells #[.int .i64 0, .int .i64 0, .string ⟨#[]⟩, .bool false, .int .i64 0] 26))
      case atStart => exact ⟨0, by omega, by omega, rfl, rfl, by simp, HU1.out, HV1.out⟩
      case round =>
        obtain ⟨j, hj, hjN, rfl, rfl, rfl, hu, hv⟩ := hrel
        obtain ⟨K, hK⟩ : ∃ K : Int, (j : Int) + 2 = K := ⟨_, rfl⟩
        rw [hK]
        clear HU0 HV0 HU1 HV1
        have HU1 := hide hu
        have HV1 := hide hv
        by_cases hc : (prodF j).2 = 0
        · by_cases hk : K ≤ (N : Int)
          · have M := (mulB (prodF j).1 (K * 10000)).1
            have e1 : prodF (j + 1) = mulF (prodF j).1 (K * 10000) := by rw [prodF, if_pos hc, hK]
            rw [← e1] at M
            have hw : wholeOk K = true := by simp [wholeOk]; omega
            have OA := fun w => Of_any w K
            rw [hw] at OA
            simp only [if_true] at OA
            obtain ⟨⟨p, c⟩, hp⟩ : ∃ r, prodF j = r := ⟨_, rfl⟩
            rw [hp] at M hc ⊢
            simp only at M hc ⊢
            subst hc
            obtain ⟨⟨p', c'⟩, hp'⟩ : ∃ r, prodF (j + 1) = r := ⟨_, rfl⟩
            rw [hp'] at M
            simp only at M
            have w1 : IntKind.i64.wrap (K + 1) = K + 1 := by rw [IntWalk.i64_in _ (by omega)]
            have HP := hide hp'
            have HK := hide hK
            have HJ := hide hj
            have HJN := hide hjN
            clear hu hv hp e1 hp' hK hj hjN hw
            go_wp2_with fail
            with_reducible refine Calls.mono (OA _) ?_
            rintro e w8 ⟨rfl, hw8⟩
            obtain rfl := hw8.symm
            clear hw8
            go_wp2_with fail
            with_reducible refine Calls.mono (M _) ?_
            rintro e w2 ⟨rfl, u2⟩
            have HU2 := hide (HU1.out.then u2 (fun _ _ => id))
            have HV2 := hide (u2.get HV1.out id)
            clear u2
            go_wp2_with fail
            go_roundg (gk - 1)
            case measure => have := HJ.out; have := HK.out; omega
            case rel => exact ⟨j + 1, by have := HJ.out; have := HK.out; omega, by have := HK.out; omega, by rw [HP.out], by rw [HP.out], by have := HK.out; congr 1; omega, HU2.out, HV2.out⟩
          · have e0 : prodF j = prodF (N - 1) := by have : j = N - 1 := by omega
                                                    rw [this]
            rw [HT.out] at e0
            obtain ⟨rfl, rfl⟩ : P = (prodF j).1 ∧ C = (prodF j).2 := by rw [e0]; exact ⟨rfl, rfl⟩
            clear hu hv e0 hj hjN hK hc
            go_wp2_with fail
            with_reducible refine Calls.mono (TO _) ?_
            rintro e w9 ⟨rfl, u9⟩
            have HU9 := hide (HU1.out.then u9 (fun _ _ => id))
            have bV := u9.get HV1.out id
            obtain ⟨v0, v1, v2, v3, v4⟩ := cells5 bV
            have vl := lt_at bV
            have fv0 := free_at bV 0
            have fv1 := free_at bV 1
            have fv2 := free_at bV 2
            have fv3 := free_at bV 3
            have fv4 := free_at bV 4
            have HB := hide bV
            clear bV u9
            go_wp2_with fail
            (try simp only [Exit.inBlock, Exit.then])
            refine bodyPost_ret (ret_vl rfl _ _ (w.heap.size) ⟨k0, n0, t0, b0, e0'⟩ rfl (block5 (x := vZero) HB.out _ _ _ _ _)) rfl ?_
            exact ⟨rfl, upd5 HU9.out (by omega) _ _ _ _ _⟩
        · have e0 : prodF (N - 1) = prodF j := by have := prodF_stay hc (N - 1 - j)
                                                  rwa [show j + (N - 1 - j) = N - 1 by omega] at this
          rw [HT.out] at e0
          obtain ⟨rfl, rfl⟩ : P = (prodF j).1 ∧ C = (prodF j).2 := by rw [← e0]; exact ⟨rfl, rfl⟩
          have b1 : ((prodF j).2 == 0) = false := by simpa using hc
          clear hu hv e0 hj hjN hK hc
          by_cases hk : K ≤ (N : Int)
          · go_wp2_with fail
            with_reducible refine Calls.mono (TO _) ?_
            rintro e w9 ⟨rfl, u9⟩
            have HU9 := hide (HU1.out.then u9 (fun _ _ => id))
            have bV := u9.get HV1.out id
            obtain ⟨v0, v1, v2, v3, v4⟩ := cells5 bV
            have vl := lt_at bV
            have fv0 := free_at bV 0
            have fv1 := free_at bV 1
            have fv2 := free_at bV 2
            have fv3 := free_at bV 3
            have fv4 := free_at bV 4
            have HB := hide bV
            clear bV u9
            go_wp2_with fail
            (try simp only [Exit.inBlock, Exit.then])
            refine bodyPost_ret (ret_vl rfl _ _ (w.heap.size) ⟨k0, n0, t0, b0, e0'⟩ rfl (block5 (x := vZero) HB.out _ _ _ _ _)) rfl ?_
            exact ⟨rfl, upd5 HU9.out (by omega) _ _ _ _ _⟩
          · go_wp2_with fail
            with_reducible refine Calls.mono (TO _) ?_
            rintro e w9 ⟨rfl, u9⟩
            have HU9 := hide (HU1.out.then u9 (fun _ _ => id))
            have bV := u9.get HV1.out id
            obtain ⟨v0, v1, v2, v3, v4⟩ := cells5 bV
            have vl := lt_at bV
            have fv0 := free_at bV 0
            have fv1 := free_at bV 1
            have fv2 := free_at bV 2
            have fv3 := free_at bV 3
            have fv4 := free_at bV 4
            have HB := hide bV
            clear bV u9
            go_wp2_with fail
            (try simp only [Exit.inBlock, Exit.then])
            refine bodyPost_ret (ret_vl rfl _ _ (w.heap.size) ⟨k0, n0, t0, b0, e0'⟩ rfl (block5 (x := vZero) HB.out _ _ _ _ _)) rfl ?_
            exact ⟨rfl, upd5 HU9.out (by omega) _ _ _ _ _⟩
  · rw [if_pos (.inl h)]
    have hd : decide (a.tmod 10000 = 0) = false := by simpa using h
    rw [hd] at WA
    have EA := fun w => E_any w 2
    obtain ⟨⟨k0, n0, t0, b0, e0'⟩, hev⟩ : ∃ v, mkE 2 = v := ⟨_, rfl⟩
    rw [hev] at EA ⊢
    unfold Vl.val at EA
    (try unfold Vl.val)
    simp only at EA ⊢
    clear hev
    clear hd hwm h hz hzr ha
    go_enter Tryz.func68, Tryz.ntmps68
    go_wp2_with fail
    with_reducible refine Calls.mono (WA _) ?_
    rintro e w1 ⟨rfl, u1⟩
    have HU1 := hide (HU0.out.then u1 (fun _ _ => id))
    have HV1 := hide (u1.get HV0.out id)
    clear u1
    go_wp2_with fail
    with_reducible refine Calls.mono (EA _) ?_
    rintro e w9 ⟨rfl, u9⟩
    have HU9 := hide (HU1.out.then u9 (fun _ _ => id))
    have bV := u9.get HV1.out id
    obtain ⟨v0, v1, v2, v3, v4⟩ := cells5 bV
    have vl := lt_at bV
    have fv0 := free_at bV 0
    have fv1 := free_at bV 1
    have fv2 := free_at bV 2
    have fv3 := free_at bV 3
    have fv4 := free_at bV 4
    have HB := hide bV
    clear bV u9
    go_wp2_with fail
    (try simp only [Exit.inBlock, Exit.then])
    refine bodyPost_ret (ret_vl rfl _ _ (w.heap.size) ⟨k0, n0, t0, b0, e0'⟩ rfl (block5 (x := vZero) HB.out _ _ _ _ _)) rfl ?_
    exact ⟨rfl, upd5 HU9.out (by omega) _ _ _ _ _⟩
end Go.Proofs.YtmfngdjhkpddoaaGreatDoor
/- The walks of nums' quotient, gcd, ratio. -/
set_option maxRecDepth 100000
namespace Go.Proofs.YtmfngdjhkpddoaaGreatDoor
open Go.RowKit Go.Lat Go.Lib

theorem quotient_any (w : World) (a b : Int) (ha : okNum a = true) (hb : okNum b = true) : Calls Tryz.prog 72 #[.int .i64 a, .int .i64 b] w fun e w' => e = .returned (quotV a b).val ∧ Upd w w' (fun _ => False) := by
  unfold quotV
  have HU0 : Hid (Upd w (w.alloc (.cells #[.int .i64 0, .int .i64 0, .string ⟨#[]⟩, .bool false, .int .i64 0] 26)) (fun _ => False)) := hide ((Upd.refl w _).alloc _)
  have HV0 : Hid ((w.alloc (.cells #[.int .i64 0, .int .i64 0, .string ⟨#[]⟩, .bool false, .int .i64 0] 26)).heap[w.heap.size]? = some (.cells #[.int .i64 0, .int .i64 0, .string ⟨#[]⟩, .bool false, .int .i64 0] 26 (0, 0))) := hide (Vnew1 w _)
  by_cases h : b = 0
  · subst h
    rw [if_pos rfl]
    have EA := fun w => E_any w 1
    obtain ⟨⟨k0, n0, t0, b0, e0'⟩, hev⟩ : ∃ v, mkE 1 = v := ⟨_, rfl⟩
    rw [hev] at EA ⊢
    unfold Vl.val at EA
    (try unfold Vl.val)
    simp only at EA ⊢
    clear hev
    clear ha hb
    go_enter Tryz.func72, Tryz.ntmps72
    go_wp2_with fail
    with_reducible refine Calls.mono (EA _) ?_
    rintro e w9 ⟨rfl, u9⟩
    have HU9 := hide (HU0.out.then u9 (fun _ _ => id))
    have bV := u9.get HV0.out id
    obtain ⟨v0, v1, v2, v3, v4⟩ := cells5 bV
    have vl := lt_at bV
    have fv0 := free_at bV 0
    have fv1 := free_at bV 1
    have fv2 := free_at bV 2
    have fv3 := free_at bV 3
    have fv4 := free_at bV 4
    have HB := hide bV
    clear bV u9
    go_wp2_with fail
    (try simp only [Exit.inBlock, Exit.then])
    refine bodyPost_ret (ret_vl rfl _ _ (w.heap.size) ⟨k0, n0, t0, b0, e0'⟩ rfl (block5 (x := vZero) HB.out _ _ _ _ _)) rfl ?_
    exact ⟨rfl, upd5 HU9.out (by omega) _ _ _ _ _⟩
  · rw [if_neg h]
    have b1 : (b == 0) = false := by simpa using h
    have hr := okNum_true ha
    have hle : (a.tdiv b).natAbs ≤ a.natAbs := by rw [Int.natAbs_tdiv]; exact Nat.div_le_self _ _
    obtain ⟨Q, hQ⟩ : ∃ Q, a.tdiv b = Q := ⟨_, rfl⟩
    rw [hQ] at hle ⊢
    have w1 : IntKind.i64.wrap Q = Q := by rw [IntWalk.i64_in _ (by omega)]
    have OA := fun w => Of_any w Q
    clear ha hb hle hr
    by_cases hw : wholeOk Q = true
    · rw [if_pos hw]
      rw [hw] at OA
      simp only [if_true] at OA
      have TO := fun w => nTold_any w (Q * 10000) 0
      have et : tldV (Q * 10000, 0) = mkN (Q * 10000) := rfl
      rw [et] at TO
      obtain ⟨⟨k0, n0, t0, b0, e0'⟩, hev⟩ : ∃ v, mkN (Q * 10000) = v := ⟨_, rfl⟩
      rw [hev] at TO ⊢
      unfold Vl.val at TO
      (try unfold Vl.val)
      simp only at TO ⊢
      clear hev
      clear et hw
      go_enter Tryz.func72, Tryz.ntmps72
      go_wp2_with fail
      with_reducible refine Calls.mono (OA _) ?_
      rintro e w8 ⟨rfl, hw8⟩
      obtain rfl := hw8.symm
      clear hw8
      go_wp2_with fail
      with_reducible refine Calls.mono (TO _) ?_
      rintro e w9 ⟨rfl, u9⟩
      have HU9 := hide (HU0.out.then u9 (fun _ _ => id))
      have bV := u9.get HV0.out id
      obtain ⟨v0, v1, v2, v3, v4⟩ := cells5 bV
      have vl := lt_at bV
      have fv0 := free_at bV 0
      have fv1 := free_at bV 1
      have fv2 := free_at bV 2
      have fv3 := free_at bV 3
      have fv4 := free_at bV 4
      have HB := hide bV
      clear bV u9
      go_wp2_with fail
      (try simp only [Exit.inBlock, Exit.then])
      refine bodyPost_ret (ret_vl rfl _ _ (w.heap.size) ⟨k0, n0, t0, b0, e0'⟩ rfl (block5 (x := vZero) HB.out _ _ _ _ _)) rfl ?_
      exact ⟨rfl, upd5 HU9.out (by omega) _ _ _ _ _⟩
    · rw [if_neg hw]
      have hw' : wholeOk Q = false := by simpa using hw
      rw [hw'] at OA
      simp only [Bool.false_eq_true, if_false] at OA
      have TO := fun w => nTold_any w 0 5
      have et : tldV (0, 5) = mkE 2 := rfl
      rw [et] at TO
      obtain ⟨⟨k0, n0, t0, b0, e0'⟩, hev⟩ : ∃ v, mkE 2 = v := ⟨_, rfl⟩
      rw [hev] at TO ⊢
      unfold Vl.val at TO
      (try unfold Vl.val)
      simp only at TO ⊢
      clear hev
      clear et hw hw'
      go_enter Tryz.func72, Tryz.ntmps72
      go_wp2_with fail
      with_reducible refine Calls.mono (OA _) ?_
      rintro e w8 ⟨rfl, hw8⟩
      obtain rfl := hw8.symm
      clear hw8
      go_wp2_with fail
      with_reducible refine Calls.mono (TO _) ?_
      rintro e w9 ⟨rfl, u9⟩
      have HU9 := hide (HU0.out.then u9 (fun _ _ => id))
      have bV := u9.get HV0.out id
      obtain ⟨v0, v1, v2, v3, v4⟩ := cells5 bV
      have vl := lt_at bV
      have fv0 := free_at bV 0
      have fv1 := free_at bV 1
      have fv2 := free_at bV 2
      have fv3 := free_at bV 3
      have fv4 := free_at bV 4
      have HB := hide bV
      clear bV u9
      go_wp2_with fail
      (try simp only [Exit.inBlock, Exit.then])
      refine bodyPost_ret (ret_vl rfl _ _ (w.heap.size) ⟨k0, n0, t0, b0, e0'⟩ rfl (block5 (x := vZero) HB.out _ _ _ _ _)) rfl ?_
      exact ⟨rfl, upd5 HU9.out (by omega) _ _ _ _ _⟩
set_option maxHeartbeats 1600000 in
theorem gcd_any (w : World) (a b : Int) (ha : okNum a = true) (hb : okNum b = true) : Calls Tryz.prog 74 #[.int .i64 a, .int .i64 b] w fun e w' => e = .returned (gcdV a b).val ∧ Upd w w' (fun _ => False) := by
  have WA := fun w => whole_any w a
  rw [wholeb ha, wholeF_of ha] at WA
  have WB := fun w => whole_any w b
  rw [wholeb hb, wholeF_of hb] at WB
  have ma := fun h : a.tmod 10000 = 0 => whole_mul h
  have mb := fun h : b.tmod 10000 = 0 => whole_mul h
  have hra := wholeF_rng a
  rw [wholeF_of ha] at hra
  have hrb := wholeF_rng b
  rw [wholeF_of hb] at hrb
  unfold gcdV
  obtain ⟨x, hx⟩ : ∃ z, a.tdiv 10000 = z := ⟨_, rfl⟩
  obtain ⟨y, hy⟩ : ∃ z, b.tdiv 10000 = z := ⟨_, rfl⟩
  rw [hx] at WA ma hra
  rw [hy] at WB mb hrb
  clear ha hb
  have HU0 : Hid (Upd w (w.alloc (.cells #[.int .i64 0, .int .i64 0, .string ⟨#[]⟩, .bool false, .int .i64 0] 26)) (fun _ => False)) := hide ((Upd.refl w _).alloc _)
  have HV0 : Hid ((w.alloc (.cells #[.int .i64 0, .int .i64 0, .string ⟨#[]⟩, .bool false, .int .i64 0] 26)).heap[w.heap.size]? = some (.cells #[.int .i64 0, .int .i64 0, .string ⟨#[]⟩, .bool false, .int .i64 0] 26 (0, 0))) := hide (Vnew1 w _)
  by_cases hbad : a.tmod 10000 ≠ 0 ∨ b.tmod 10000 ≠ 0 ∨ a < 0 ∨ b < 0
  · rw [if_pos hbad]
    have EA := fun w => E_any w 2
    obtain ⟨⟨k0, n0, t0, b0, e0'⟩, hev⟩ : ∃ v, mkE 2 = v := ⟨_, rfl⟩
    rw [hev] at EA ⊢
    unfold Vl.val at EA
    (try unfold Vl.val)
    simp only at EA ⊢
    clear hev
    have hcc : (decide (a.tmod 10000 = 0) = false) ∨ (decide (a.tmod 10000 = 0) = true ∧ decide (b.tmod 10000 = 0) = false) ∨ (decide (a.tmod 10000 = 0) = true ∧ decide (b.tmod 10000 = 0) = true ∧ x < 0) ∨ (decide (a.tmod 10000 = 0) = true ∧ decide (b.tmod 10000 = 0) = true ∧ ¬ x < 0 ∧ y < 0) := by
      by_cases h1 : a.tmod 10000 = 0
      · have e1 := ma h1
        by_cases h2 : b.tmod 10000 = 0
        · have e2 := mb h2
          by_cases h3 : x < 0
          · exact .inr (.inr (.inl ⟨by simpa using h1, by simpa using h2, h3⟩))
          · refine .inr (.inr (.inr ⟨by simpa using h1, by simpa using h2, h3, ?_⟩))
            omega
        · exact .inr (.inl ⟨by simpa using h1, by simpa using h2⟩)
      · exact .inl (by simpa using h1)
    clear hbad ma mb hx hy hra hrb
    generalize decide (a.tmod 10000 = 0) = p at *
    generalize decide (b.tmod 10000 = 0) = q at *
    rcases hcc with rfl | ⟨rfl, rfl⟩ | ⟨rfl, rfl, h3⟩ | ⟨rfl, rfl, h3, h4⟩
    · go_enter Tryz.func74, Tryz.ntmps74
      go_wp2_with fail
      with_reducible refine Calls.mono (WA _) ?_
      rintro e w1 ⟨rfl, u1⟩
      have HU1 := hide (HU0.out.then u1 (fun _ _ => id))
      have HV1 := hide (u1.get HV0.out id)
      clear u1
      go_wp2_with fail
      with_reducible refine Calls.mono (WB _) ?_
      rintro e w2 ⟨rfl, u2⟩
      have HU2 := hide (HU1.out.then u2 (fun _ _ => id))
      have HV2 := hide (u2.get HV1.out id)
      clear u2
      go_wp2_with fail
      with_reducible refine Calls.mono (EA _) ?_
      rintro e w9 ⟨rfl, u9⟩
      have HU9 := hide (HU2.out.then u9 (fun _ _ => id))
      have bV := u9.get HV2.out id
      obtain ⟨v0, v1, v2, v3, v4⟩ := cells5 bV
      have vl := lt_at bV
      have fv0 := free_at bV 0
      have fv1 := free_at bV 1
      have fv2 := free_at bV 2
      have fv3 := free_at bV 3
      have fv4 := free_at bV 4
      have HB := hide bV
      clear bV u9
      go_wp2_with fail
      (try simp only [Exit.inBlock, Exit.then])
      refine bodyPost_ret (ret_vl rfl _ _ (w.heap.size) ⟨k0, n0, t0, b0, e0'⟩ rfl (block5 (x := vZero) HB.out _ _ _ _ _)) rfl ?_
      exact ⟨rfl, upd5 HU9.out (by omega) _ _ _ _ _⟩
    · go_enter Tryz.func74, Tryz.ntmps74
      go_wp2_with fail
      with_reducible refine Calls.mono (WA _) ?_
      rintro e w1 ⟨rfl, u1⟩
      have HU1 := hide (HU0.out.then u1 (fun _ _ => id))
      have HV1 := hide (u1.get HV0.out id)
      clear u1
      go_wp2_with fail
      with_reducible refine Calls.mono (WB _) ?_
      rintro e w2 ⟨rfl, u2⟩
      have HU2 := hide (HU1.out.then u2 (fun _ _ => id))
      have HV2 := hide (u2.get HV1.out id)
      clear u2
      go_wp2_with fail
      with_reducible refine Calls.mono (EA _) ?_
      rintro e w9 ⟨rfl, u9⟩
      have HU9 := hide (HU2.out.then u9 (fun _ _ => id))
      have bV := u9.get HV2.out id
      obtain ⟨v0, v1, v2, v3, v4⟩ := cells5 bV
      have vl := lt_at bV
      have fv0 := free_at bV 0
      have fv1 := free_at bV 1
      have fv2 := free_at bV 2
      have fv3 := free_at bV 3
      have fv4 := free_at bV 4
      have HB := hide bV
      clear bV u9
      go_wp2_with fail
      (try simp only [Exit.inBlock, Exit.then])
      refine bodyPost_ret (ret_vl rfl _ _ (w.heap.size) ⟨k0, n0, t0, b0, e0'⟩ rfl (block5 (x := vZero) HB.out _ _ _ _ _)) rfl ?_
      exact ⟨rfl, upd5 HU9.out (by omega) _ _ _ _ _⟩
    · go_enter Tryz.func74, Tryz.ntmps74
      go_wp2_with fail
      with_reducible refine Calls.mono (WA _) ?_
      rintro e w1 ⟨rfl, u1⟩
      have HU1 := hide (HU0.out.then u1 (fun _ _ => id))
      have HV1 := hide (u1.get HV0.out id)
      clear u1
      go_wp2_with fail
      with_reducible refine Calls.mono (WB _) ?_
      rintro e w2 ⟨rfl, u2⟩
      have HU2 := hide (HU1.out.then u2 (fun _ _ => id))
      have HV2 := hide (u2.get HV1.out id)
      clear u2
      go_wp2_with fail
      with_reducible refine Calls.mono (EA _) ?_
      rintro e w9 ⟨rfl, u9⟩
      have HU9 := hide (HU2.out.then u9 (fun _ _ => id))
      have bV := u9.get HV2.out id
      obtain ⟨v0, v1, v2, v3, v4⟩ := cells5 bV
      have vl := lt_at bV
      have fv0 := free_at bV 0
      have fv1 := free_at bV 1
      have fv2 := free_at bV 2
      have fv3 := free_at bV 3
      have fv4 := free_at bV 4
      have HB := hide bV
      clear bV u9
      go_wp2_with fail
      (try simp only [Exit.inBlock, Exit.then])
      refine bodyPost_ret (ret_vl rfl _ _ (w.heap.size) ⟨k0, n0, t0, b0, e0'⟩ rfl (block5 (x := vZero) HB.out _ _ _ _ _)) rfl ?_
      exact ⟨rfl, upd5 HU9.out (by omega) _ _ _ _ _⟩
    · go_enter Tryz.func74, Tryz.ntmps74
      go_wp2_with fail
      with_reducible refine Calls.mono (WA _) ?_
      rintro e w1 ⟨rfl, u1⟩
      have HU1 := hide (HU0.out.then u1 (fun _ _ => id))
      have HV1 := hide (u1.get HV0.out id)
      clear u1
      go_wp2_with fail
      with_reducible refine Calls.mono (WB _) ?_
      rintro e w2 ⟨rfl, u2⟩
      have HU2 := hide (HU1.out.then u2 (fun _ _ => id))
      have HV2 := hide (u2.get HV1.out id)
      clear u2
      go_wp2_with fail
      with_reducible refine Calls.mono (EA _) ?_
      rintro e w9 ⟨rfl, u9⟩
      have HU9 := hide (HU2.out.then u9 (fun _ _ => id))
      have bV := u9.get HV2.out id
      obtain ⟨v0, v1, v2, v3, v4⟩ := cells5 bV
      have vl := lt_at bV
      have fv0 := free_at bV 0
      have fv1 := free_at bV 1
      have fv2 := free_at bV 2
      have fv3 := free_at bV 3
      have fv4 := free_at bV 4
      have HB := hide bV
      clear bV u9
      go_wp2_with fail
      (try simp only [Exit.inBlock, Exit.then])
      refine bodyPost_ret (ret_vl rfl _ _ (w.heap.size) ⟨k0, n0, t0, b0, e0'⟩ rfl (block5 (x := vZero) HB.out _ _ _ _ _)) rfl ?_
      exact ⟨rfl, upd5 HU9.out (by omega) _ _ _ _ _⟩
  · rw [if_neg hbad]
    have h1 : a.tmod 10000 = 0 := Decidable.not_not.1 fun h => hbad (.inl h)
    have h2 : b.tmod 10000 = 0 := Decidable.not_not.1 fun h => hbad (.inr (.inl h))
    have e1 := ma h1
    have e2 := mb h2
    have h3 : ¬ x < 0 := fun h => hbad (.inr (.inr (.inl (by omega))))
    have h4 : ¬ y < 0 := fun h => hbad (.inr (.inr (.inr (by omega))))
    have d1 : decide (a.tmod 10000 = 0) = true := by simpa using h1
    have d2 : decide (b.tmod 10000 = 0) = true := by simpa using h2
    rw [d1] at WA
    rw [d2] at WB
    obtain ⟨X, rfl⟩ : ∃ X : Nat, x = X := ⟨x.toNat, by omega⟩
    obtain ⟨Y, rfl⟩ : ∃ Y : Nat, y = Y := ⟨y.toNat, by omega⟩
    have eg : Nat.gcd a.natAbs b.natAbs = Nat.gcd X Y * 10000 := by
      rw [← gcd_parts]
      congr 1 <;> omega
    rw [eg]
    obtain ⟨G, hG⟩ : ∃ G, Nat.gcd X Y = G := ⟨_, rfl⟩
    have hGle : G ≤ 900000000000000 := by
      rw [← hG]
      rcases Nat.eq_zero_or_pos X with h | h
      · subst h; rw [Nat.gcd_zero_left]; omega
      · have := Nat.le_of_dvd h (Nat.gcd_dvd_left X Y); omega
    rw [hG]
    have hw : wholeOk (G : Int) = true := by simp [wholeOk]; omega
    have OA := fun w => Of_any w (G : Int)
    rw [hw] at OA
    simp only [if_true] at OA
    have TO := fun w => nTold_any w ((G : Int) * 10000) 0
    have et : tldV ((G : Int) * 10000, 0) = mkN (((G * 10000 : Nat) : Int)) := by rw [Int.natCast_mul]; rfl
    rw [et] at TO
    obtain ⟨⟨k0, n0, t0, b0, e0'⟩, hev⟩ : ∃ v, mkN (((G * 10000 : Nat) : Int)) = v := ⟨_, rfl⟩
    rw [hev] at TO ⊢
    unfold Vl.val at TO
    (try unfold Vl.val)
    simp only at TO ⊢
    clear hev
    clear hbad ma mb hx hy e1 e2 h1 h2 d1 d2 eg et hw hGle
    have HG := hide hG
    have hY : Y ≤ 900000000000000 := by omega
    have hX : X ≤ 900000000000000 := by omega
    clear hG hra hrb
    have hx0 : ¬ (X : Int) < 0 := h3
    have hy0 : ¬ (Y : Int) < 0 := h4
    go_enter Tryz.func74, Tryz.ntmps74
    go_wp2_with fail
    with_reducible refine Calls.mono (WA _) ?_
    rintro e w1 ⟨rfl, u1⟩
    have HU1 := hide (HU0.out.then u1 (fun _ _ => id))
    have HV1 := hide (u1.get HV0.out id)
    clear u1
    go_wp2_with fail
    with_reducible refine Calls.mono (WB _) ?_
    rintro e w2 ⟨rfl, u2⟩
    have HU2 := hide (HU1.out.then u2 (fun _ _ => id))
    have HV2 := hide (u2.get HV1.out id)
    clear u2
    go_wp2_with fail
    obtain ⟨N, hN⟩ : ∃ N, N = Y := ⟨_, rfl⟩
    have HN := hide hN
    have HXY := hide (And.intro hX hY)
    clear hN hX hY hx0 hy0 h3 h4 WA WB
    go_loopg [5, 7] N (fun q xv yv wr => ∃ X1 Y1 : Nat, xv = .int .i64 (X1 : Int) ∧ yv = .int .i64 (Y1 : Int) ∧ X1 ≤ 900000000000000 ∧ Y1 ≤ 900000000000000 ∧ Y1 ≤ q ∧ Nat.gcd X1 Y1 = G ∧ Upd w wr (fun _ => False) ∧ wr.heap[w.heap.size]? = some (.cells #[.int .i64 0, .int .i64 0, .string ⟨#[]⟩, .bool false, .int .i64 0] 26))
    case atStart => exact ⟨X, Y, rfl, rfl, HXY.out.1, HXY.out.2, by rw [HN.out]; exact Nat.le_refl _, HG.out, HU2.out, HV2.out⟩
    case round =>
      obtain ⟨X1, Y1, rfl, rfl, hX1, hY1, hq, hg, hu, hv⟩ := hrel
      clear HU0 HV0 HU1 HV1 HU2 HV2
      have HU2 := hide hu
      have HV2 := hide hv
      clear hu hv
      by_cases h0 : Y1 = 0
      · subst h0
        rw [Nat.gcd_zero_right] at hg
        subst hg
        clear hq hX1 hY1 HG
        go_wp2_with fail
        with_reducible refine Calls.mono (OA _) ?_
        rintro e w8 ⟨rfl, hw8⟩
        obtain rfl := hw8.symm
        clear hw8
        go_wp2_with fail
        with_reducible refine Calls.mono (TO _) ?_
        rintro e w9 ⟨rfl, u9⟩
        have HU9 := hide (HU2.out.then u9 (fun _ _ => id))
        have bV := u9.get HV2.out id
        obtain ⟨v0, v1, v2, v3, v4⟩ := cells5 bV
        have vl := lt_at bV
        have fv0 := free_at bV 0
        have fv1 := free_at bV 1
        have fv2 := free_at bV 2
        have fv3 := free_at bV 3
        have fv4 := free_at bV 4
        have HB := hide bV
        clear bV u9
        go_wp2_with fail
        (try simp only [Exit.inBlock, Exit.then])
        refine bodyPost_ret (ret_vl rfl _ _ (w.heap.size) ⟨k0, n0, t0, b0, e0'⟩ rfl (block5 (x := vZero) HB.out _ _ _ _ _)) rfl ?_
        exact ⟨rfl, upd5 HU9.out (by omega) _ _ _ _ _⟩
      · have n0 : ((Y1 : Int) != 0) = true := by simp; omega
        have hn0 : ¬ Y1 = 0 := h0
        have tm : (X1 : Int).tmod (Y1 : Int) = ((X1 % Y1 : Nat) : Int) := by rw [Int.tmod_eq_emod_of_nonneg (by omega)]; rfl
        have hlt : X1 % Y1 < Y1 := Nat.mod_lt _ (by omega)
        have hgr : Nat.gcd Y1 (X1 % Y1) = G := by rw [← hg, Nat.gcd_comm X1 Y1, Nat.gcd_rec Y1 X1, Nat.gcd_comm]
        obtain ⟨R, hR⟩ : ∃ R, X1 % Y1 = R := ⟨_, rfl⟩
        rw [hR] at tm hlt hgr
        have w1 : IntKind.i64.wrap (R : Int) = (R : Int) := by rw [IntWalk.i64_in _ (by omega)]
        have HL := hide hlt
        have HQ := hide hq
        have HGR := hide hgr
        have HY1 := hide hY1
        clear hlt hq hgr hg hR hX1 hY1 h0
        go_wp2_with fail
        go_quiet (fail)
        go_wp2_with fail
        go_roundg (gk - 1)
        case measure => have := HL.out; have := HQ.out; omega
        case rel => exact ⟨Y1, R, rfl, rfl, HY1.out, by have := HL.out; have := HY1.out; omega, by have := HL.out; have := HQ.out; omega, HGR.out, HU2.out.drewN _, HV2.out⟩
theorem ratio0_any (w : World) (a b : Int) (ha : okNum a = true) (hb : okNum b = true) : Calls Tryz.prog 75 #[.int .i64 a, .int .i64 b] w fun e w' => e = .returned (ratioV a b).val ∧ Upd w w' (fun _ => False) := by
  unfold ratioV
  have HU0 : Hid (Upd w (w.alloc (.cells #[.int .i64 0, .int .i64 0, .string ⟨#[]⟩, .bool false, .int .i64 0] 26)) (fun _ => False)) := hide ((Upd.refl w _).alloc _)
  have HV0 : Hid ((w.alloc (.cells #[.int .i64 0, .int .i64 0, .string ⟨#[]⟩, .bool false, .int .i64 0] 26)).heap[w.heap.size]? = some (.cells #[.int .i64 0, .int .i64 0, .string ⟨#[]⟩, .bool false, .int .i64 0] 26 (0, 0))) := hide (Vnew1 w _)
  by_cases h : b = 0
  · subst h
    rw [if_pos rfl]
    have EA := fun w => E_any w 1
    obtain ⟨⟨k0, n0, t0, b0, e0'⟩, hev⟩ : ∃ v, mkE 1 = v := ⟨_, rfl⟩
    rw [hev] at EA ⊢
    unfold Vl.val at EA
    (try unfold Vl.val)
    simp only at EA ⊢
    clear hev
    have RA := fun w => Fl.Ratio_any w a 0 ha hb
    have hc : Fl.ratioCls a 0 = 0 ∨ Fl.ratioCls a 0 = 1 ∨ Fl.ratioCls a 0 = 6 := by
      unfold Fl.ratioCls
      by_cases h1 : a = 0
      · simp [h1]
      · by_cases h2 : a < 0
        · simp [h1, h2]
        · simp [h1, h2]
    rcases hc with hc | hc | hc
    · rw [hc] at RA
      clear hc ha hb
      go_enter Tryz.func75, Tryz.ntmps75
      go_wp2_with fail
      refine Calls.mono (RA _) ?_
      rintro e w1 ⟨r, rfl, hr, hcr, u1⟩
      have HU1 := hide (HU0.out.then u1 (fun _ _ => id))
      have HV1 := hide (u1.get HV0.out id)
      have OA := fun w => Fl.Of_any w r hr
      rw [hcr] at OA
      clear u1 hcr hr
      go_wp2_with fail
      with_reducible refine Calls.mono (OA _) ?_
      rintro e w8 ⟨rfl, hw8⟩
      obtain rfl := hw8.symm
      clear hw8
      go_wp2_with fail
      with_reducible refine Calls.mono (EA _) ?_
      rintro e w9 ⟨rfl, u9⟩
      have HU9 := hide (HU1.out.then u9 (fun _ _ => id))
      have bV := u9.get HV1.out id
      obtain ⟨v0, v1, v2, v3, v4⟩ := cells5 bV
      have vl := lt_at bV
      have fv0 := free_at bV 0
      have fv1 := free_at bV 1
      have fv2 := free_at bV 2
      have fv3 := free_at bV 3
      have fv4 := free_at bV 4
      have HB := hide bV
      clear bV u9
      go_wp2_with fail
      (try simp only [Exit.inBlock, Exit.then])
      refine bodyPost_ret (ret_vl rfl _ _ (w.heap.size) ⟨k0, n0, t0, b0, e0'⟩ rfl (block5 (x := vZero) HB.out _ _ _ _ _)) rfl ?_
      exact ⟨rfl, upd5 HU9.out (by omega) _ _ _ _ _⟩
    · rw [hc] at RA
      clear hc ha hb
      go_enter Tryz.func75, Tryz.ntmps75
      go_wp2_with fail
      refine Calls.mono (RA _) ?_
      rintro e w1 ⟨r, rfl, hr, hcr, u1⟩
      have HU1 := hide (HU0.out.then u1 (fun _ _ => id))
      have HV1 := hide (u1.get HV0.out id)
      have OA := fun w => Fl.Of_any w r hr
      rw [hcr] at OA
      clear u1 hcr hr
      go_wp2_with fail
      with_reducible refine Calls.mono (OA _) ?_
      rintro e w8 ⟨rfl, hw8⟩
      obtain rfl := hw8.symm
      clear hw8
      go_wp2_with fail
      with_reducible refine Calls.mono (EA _) ?_
      rintro e w9 ⟨rfl, u9⟩
      have HU9 := hide (HU1.out.then u9 (fun _ _ => id))
      have bV := u9.get HV1.out id
      obtain ⟨v0, v1, v2, v3, v4⟩ := cells5 bV
      have vl := lt_at bV
      have fv0 := free_at bV 0
      have fv1 := free_at bV 1
      have fv2 := free_at bV 2
      have fv3 := free_at bV 3
      have fv4 := free_at bV 4
      have HB := hide bV
      clear bV u9
      go_wp2_with fail
      (try simp only [Exit.inBlock, Exit.then])
      refine bodyPost_ret (ret_vl rfl _ _ (w.heap.size) ⟨k0, n0, t0, b0, e0'⟩ rfl (block5 (x := vZero) HB.out _ _ _ _ _)) rfl ?_
      exact ⟨rfl, upd5 HU9.out (by omega) _ _ _ _ _⟩
    · rw [hc] at RA
      clear hc ha hb
      go_enter Tryz.func75, Tryz.ntmps75
      go_wp2_with fail
      refine Calls.mono (RA _) ?_
      rintro e w1 ⟨r, rfl, hr, hcr, u1⟩
      have HU1 := hide (HU0.out.then u1 (fun _ _ => id))
      have HV1 := hide (u1.get HV0.out id)
      have OA := fun w => Fl.Of_any w r hr
      rw [hcr] at OA
      clear u1 hcr hr
      go_wp2_with fail
      with_reducible refine Calls.mono (OA _) ?_
      rintro e w8 ⟨rfl, hw8⟩
      obtain rfl := hw8.symm
      clear hw8
      go_wp2_with fail
      with_reducible refine Calls.mono (EA _) ?_
      rintro e w9 ⟨rfl, u9⟩
      have HU9 := hide (HU1.out.then u9 (fun _ _ => id))
      have bV := u9.get HV1.out id
      obtain ⟨v0, v1, v2, v3, v4⟩ := cells5 bV
      have vl := lt_at bV
      have fv0 := free_at bV 0
      have fv1 := free_at bV 1
      have fv2 := free_at bV 2
      have fv3 := free_at bV 3
      have fv4 := free_at bV 4
      have HB := hide bV
      clear bV u9
      go_wp2_with fail
      (try simp only [Exit.inBlock, Exit.then])
      refine bodyPost_ret (ret_vl rfl _ _ (w.heap.size) ⟨k0, n0, t0, b0, e0'⟩ rfl (block5 (x := vZero) HB.out _ _ _ _ _)) rfl ?_
      exact ⟨rfl, upd5 HU9.out (by omega) _ _ _ _ _⟩
  · rw [if_neg h]
    obtain ⟨-, -, -, -, -, hr, hcl, RA⟩ := ratR_spec ha hb h
    obtain ⟨r, hrr⟩ : ∃ r, ratR a b = r := ⟨_, rfl⟩
    rw [hrr] at hr hcl RA ⊢
    have OA := fun w => Fl.Of_any w r hr
    have FA := fun w => Fl.From_any w r hr
    obtain ⟨p, hp⟩ : ∃ p, Fl.fromVal r = p := ⟨_, rfl⟩
    obtain ⟨c, hc⟩ : ∃ c, Fl.fromErr r = c := ⟨_, rfl⟩
    rw [hp, hc] at FA ⊢
    have TO := fun w => nTold_any w p c
    obtain ⟨⟨k0, n0, t0, b0, e0'⟩, hev⟩ : ∃ v, tldV (p, c) = v := ⟨_, rfl⟩
    rw [hev] at TO ⊢
    unfold Vl.val at TO
    (try unfold Vl.val)
    simp only at TO ⊢
    clear hev
    clear hr hp hc hrr ha hb h
    rcases hcl with hcl | hcl | hcl | hcl
    · rw [hcl] at OA
      clear hcl
      go_enter Tryz.func75, Tryz.ntmps75
      go_wp2_with fail
      with_reducible refine Calls.mono (RA _) ?_
      rintro e w1 ⟨rfl, u1⟩
      have HU1 := hide (HU0.out.then u1 (fun _ _ => id))
      have HV1 := hide (u1.get HV0.out id)
      clear u1
      go_wp2_with fail
      with_reducible refine Calls.mono (OA _) ?_
      rintro e w8 ⟨rfl, hw8⟩
      obtain rfl := hw8.symm
      clear hw8
      go_wp2_with fail
      with_reducible refine Calls.mono (FA _) ?_
      rintro e w2 ⟨rfl, u2⟩
      have HU2 := hide (HU1.out.then u2 (fun _ _ => id))
      have HV2 := hide (u2.get HV1.out id)
      clear u2
      go_wp2_with fail
      with_reducible refine Calls.mono (TO _) ?_
      rintro e w9 ⟨rfl, u9⟩
      have HU9 := hide (HU2.out.then u9 (fun _ _ => id))
      have bV := u9.get HV2.out id
      obtain ⟨v0, v1, v2, v3, v4⟩ := cells5 bV
      have vl := lt_at bV
      have fv0 := free_at bV 0
      have fv1 := free_at bV 1
      have fv2 := free_at bV 2
      have fv3 := free_at bV 3
      have fv4 := free_at bV 4
      have HB := hide bV
      clear bV u9
      go_wp2_with fail
      (try simp only [Exit.inBlock, Exit.then])
      refine bodyPost_ret (ret_vl rfl _ _ (w.heap.size) ⟨k0, n0, t0, b0, e0'⟩ rfl (block5 (x := vZero) HB.out _ _ _ _ _)) rfl ?_
      exact ⟨rfl, upd5 HU9.out (by omega) _ _ _ _ _⟩
    · rw [hcl] at OA
      clear hcl
      go_enter Tryz.func75, Tryz.ntmps75
      go_wp2_with fail
      with_reducible refine Calls.mono (RA _) ?_
      rintro e w1 ⟨rfl, u1⟩
      have HU1 := hide (HU0.out.then u1 (fun _ _ => id))
      have HV1 := hide (u1.get HV0.out id)
      clear u1
      go_wp2_with fail
      with_reducible refine Calls.mono (OA _) ?_
      rintro e w8 ⟨rfl, hw8⟩
      obtain rfl := hw8.symm
      clear hw8
      go_wp2_with fail
      with_reducible refine Calls.mono (FA _) ?_
      rintro e w2 ⟨rfl, u2⟩
      have HU2 := hide (HU1.out.then u2 (fun _ _ => id))
      have HV2 := hide (u2.get HV1.out id)
      clear u2
      go_wp2_with fail
      with_reducible refine Calls.mono (TO _) ?_
      rintro e w9 ⟨rfl, u9⟩
      have HU9 := hide (HU2.out.then u9 (fun _ _ => id))
      have bV := u9.get HV2.out id
      obtain ⟨v0, v1, v2, v3, v4⟩ := cells5 bV
      have vl := lt_at bV
      have fv0 := free_at bV 0
      have fv1 := free_at bV 1
      have fv2 := free_at bV 2
      have fv3 := free_at bV 3
      have fv4 := free_at bV 4
      have HB := hide bV
      clear bV u9
      go_wp2_with fail
      (try simp only [Exit.inBlock, Exit.then])
      refine bodyPost_ret (ret_vl rfl _ _ (w.heap.size) ⟨k0, n0, t0, b0, e0'⟩ rfl (block5 (x := vZero) HB.out _ _ _ _ _)) rfl ?_
      exact ⟨rfl, upd5 HU9.out (by omega) _ _ _ _ _⟩
    · rw [hcl] at OA
      clear hcl
      go_enter Tryz.func75, Tryz.ntmps75
      go_wp2_with fail
      with_reducible refine Calls.mono (RA _) ?_
      rintro e w1 ⟨rfl, u1⟩
      have HU1 := hide (HU0.out.then u1 (fun _ _ => id))
      have HV1 := hide (u1.get HV0.out id)
      clear u1
      go_wp2_with fail
      with_reducible refine Calls.mono (OA _) ?_
      rintro e w8 ⟨rfl, hw8⟩
      obtain rfl := hw8.symm
      clear hw8
      go_wp2_with fail
      with_reducible refine Calls.mono (FA _) ?_
      rintro e w2 ⟨rfl, u2⟩
      have HU2 := hide (HU1.out.then u2 (fun _ _ => id))
      have HV2 := hide (u2.get HV1.out id)
      clear u2
      go_wp2_with fail
      with_reducible refine Calls.mono (TO _) ?_
      rintro e w9 ⟨rfl, u9⟩
      have HU9 := hide (HU2.out.then u9 (fun _ _ => id))
      have bV := u9.get HV2.out id
      obtain ⟨v0, v1, v2, v3, v4⟩ := cells5 bV
      have vl := lt_at bV
      have fv0 := free_at bV 0
      have fv1 := free_at bV 1
      have fv2 := free_at bV 2
      have fv3 := free_at bV 3
      have fv4 := free_at bV 4
      have HB := hide bV
      clear bV u9
      go_wp2_with fail
      (try simp only [Exit.inBlock, Exit.then])
      refine bodyPost_ret (ret_vl rfl _ _ (w.heap.size) ⟨k0, n0, t0, b0, e0'⟩ rfl (block5 (x := vZero) HB.out _ _ _ _ _)) rfl ?_
      exact ⟨rfl, upd5 HU9.out (by omega) _ _ _ _ _⟩
    · rw [hcl] at OA
      clear hcl
      go_enter Tryz.func75, Tryz.ntmps75
      go_wp2_with fail
      with_reducible refine Calls.mono (RA _) ?_
      rintro e w1 ⟨rfl, u1⟩
      have HU1 := hide (HU0.out.then u1 (fun _ _ => id))
      have HV1 := hide (u1.get HV0.out id)
      clear u1
      go_wp2_with fail
      with_reducible refine Calls.mono (OA _) ?_
      rintro e w8 ⟨rfl, hw8⟩
      obtain rfl := hw8.symm
      clear hw8
      go_wp2_with fail
      with_reducible refine Calls.mono (FA _) ?_
      rintro e w2 ⟨rfl, u2⟩
      have HU2 := hide (HU1.out.then u2 (fun _ _ => id))
      have HV2 := hide (u2.get HV1.out id)
      clear u2
      go_wp2_with fail
      with_reducible refine Calls.mono (TO _) ?_
      rintro e w9 ⟨rfl, u9⟩
      have HU9 := hide (HU2.out.then u9 (fun _ _ => id))
      have bV := u9.get HV2.out id
      obtain ⟨v0, v1, v2, v3, v4⟩ := cells5 bV
      have vl := lt_at bV
      have fv0 := free_at bV 0
      have fv1 := free_at bV 1
      have fv2 := free_at bV 2
      have fv3 := free_at bV 3
      have fv4 := free_at bV 4
      have HB := hide bV
      clear bV u9
      go_wp2_with fail
      (try simp only [Exit.inBlock, Exit.then])
      refine bodyPost_ret (ret_vl rfl _ _ (w.heap.size) ⟨k0, n0, t0, b0, e0'⟩ rfl (block5 (x := vZero) HB.out _ _ _ _ _)) rfl ?_
      exact ⟨rfl, upd5 HU9.out (by omega) _ _ _ _ _⟩
end Go.Proofs.YtmfngdjhkpddoaaGreatDoor
