/- The walks of nums' places, rounded. -/
import Derived.Test.YtmfngdjhkpddoaaGreatDoorJ29
import Derived.Test.YtmfngdjhkpddoaaGreatDoorJ30
set_option maxRecDepth 100000
namespace Go.Proofs.YtmfngdjhkpddoaaGreatDoor
open Go.RowKit Go.Lat Go.Lib

theorem places_any (w : World) (p : Int) (hp : okNum p = true) : Calls Tryz.prog 121 #[.int .i64 p] w fun e w' => e = .returned (.tuple #[.int .i64 (p.tdiv 10000), .bool (plcB p)]) ∧ Upd w w' (fun _ => False) := by
  have WA := fun w => whole_any w p
  rw [wholeb hp, wholeF_of hp] at WA
  unfold plcB
  obtain ⟨z, hz⟩ : ∃ z, p.tdiv 10000 = z := ⟨_, rfl⟩
  rw [hz] at WA ⊢
  obtain ⟨q, hq⟩ : ∃ q, decide (p.tmod 10000 = 0) = q := ⟨_, rfl⟩
  rw [hq] at WA ⊢
  clear hz hq hp
  cases q with
  | false =>
    simp only [Bool.false_and]
    go_enter Tryz.func121, Tryz.ntmps121
    go_wp2_with fail
    refine Calls.mono (WA _) ?_
    rintro e w1 ⟨rfl, u1⟩
    go_wp2_with fail
    go_ret2
    exact ⟨rfl, u1⟩
  | true =>
    simp only [Bool.true_and]
    by_cases h1 : -15 ≤ z
    · rw [decide_eq_true h1, Bool.true_and]
      go_enter Tryz.func121, Tryz.ntmps121
      go_wp2_with fail
      refine Calls.mono (WA _) ?_
      rintro e w1 ⟨rfl, u1⟩
      go_wp2_with fail
      go_ret2
      exact ⟨rfl, u1⟩
    · rw [decide_eq_false h1, Bool.false_and]
      go_enter Tryz.func121, Tryz.ntmps121
      go_wp2_with fail
      refine Calls.mono (WA _) ?_
      rintro e w1 ⟨rfl, u1⟩
      go_wp2_with fail
      go_ret2
      exact ⟨rfl, u1⟩
set_option maxHeartbeats 3200000 in
theorem rounded_any (w : World) (a p : Int) (up : Bool) (ha : okNum a = true) (hp : okNum p = true) : Calls Tryz.prog 70 #[.int .i64 a, .int .i64 p, .bool up] w fun e w' => e = .returned (if up then rupV a p else rndV a p).val ∧ Upd w w' (fun _ => False) := by
  have PA := fun w => places_any w p hp
  unfold rupV rndV
  simp only [plc_not]
  have HU0 : Hid (Upd w (w.alloc (.cells #[.int .i64 0, .int .i64 0, .string ⟨#[]⟩, .bool false, .int .i64 0] 26)) (fun _ => False)) := hide ((Upd.refl w _).alloc _)
  have HV0 : Hid ((w.alloc (.cells #[.int .i64 0, .int .i64 0, .string ⟨#[]⟩, .bool false, .int .i64 0] 26)).heap[w.heap.size]? = some (.cells #[.int .i64 0, .int .i64 0, .string ⟨#[]⟩, .bool false, .int .i64 0] 26 (0, 0))) := hide (Vnew1 w _)
  by_cases hq : plcB p = false
  · rw [if_pos hq, if_pos hq]
    have ee : (if up = true then mkE 2 else mkE 2) = mkE 2 := by cases up <;> rfl
    rw [ee]
    rw [hq] at PA
    have EA := fun w => E_any w 2
    obtain ⟨⟨k0, n0, t0, b0, e0'⟩, hev⟩ : ∃ v, mkE 2 = v := ⟨_, rfl⟩
    rw [hev] at EA ⊢
    unfold Vl.val at EA
    (try unfold Vl.val)
    simp only at EA ⊢
    clear hev
    clear ha hp hq ee
    go_enter Tryz.func70, Tryz.ntmps70
    go_wp2_with fail
    with_reducible refine Calls.mono (PA _) ?_
    rintro e w1 ⟨rfl, u1⟩
    have HU1 := hide (HU0.out.then u1 (fun _ _ => id))
    have HV1 := hide (u1.get HV0.out id)
    clear u1
    go_wp2_with fail
    with_reducible refine Calls.mono (EA _) ?_
    rintro e w9 ⟨rfl, u9⟩
    have HU9 := hide (HU1.out.then u9 (fun _ _ => id))
    have bV := u9.get HV1.out id
    obtain ⟨v0, v1, v2, v3, v4⟩ := cells5 bV
    have vl := lt_at bV
    have fv0 := free_at bV 0
    have fv1 := free_at bV 1
    have fv2 := free_at bV 2
    have fv3 := free_at bV 3
    have fv4 := free_at bV 4
    have HB := hide bV
    clear bV u9
    go_wp2_with fail
    (try simp only [Exit.inBlock, Exit.then])
    refine bodyPost_ret (ret_vl rfl _ _ (w.heap.size) ⟨k0, n0, t0, b0, e0'⟩ rfl (block5 (x := vZero) HB.out _ _ _ _ _)) rfl ?_
    exact ⟨rfl, upd5 HU9.out (by omega) _ _ _ _ _⟩
  · rw [if_neg hq, if_neg hq]
    have hq' : plcB p = true := by simpa using hq
    have hn := fun h => hq (plc_not.1 h)
    rw [hq'] at PA
    obtain ⟨z, hz⟩ : ∃ z, p.tdiv 10000 = z := ⟨_, rfl⟩
    rw [hz] at PA hn ⊢
    have z1 : -15 ≤ z := Decidable.byContradiction fun h => hn (.inr (.inl (by omega)))
    have z2 : z ≤ 15 := Decidable.byContradiction fun h => hn (.inr (.inr (by omega)))
    clear hq hq' hn hz hp
    have RA := (rndB a z).1
    have rok := rndF_ok a z
    have hr := okNum_true ha
    have hup := rup_walk ha z1 z2
    obtain ⟨⟨r, c⟩, hrc⟩ : ∃ r, rndF a z = r := ⟨_, rfl⟩
    rw [hrc] at RA rok hup ⊢
    simp only at RA rok hup ⊢
    clear hrc
    cases up with
    | false =>
      simp only [Bool.false_eq_true, if_false]
      have TO := fun w => nTold_any w r c
      obtain ⟨⟨k0, n0, t0, b0, e0'⟩, hev⟩ : ∃ v, tldV (r, c) = v := ⟨_, rfl⟩
      rw [hev] at TO ⊢
      unfold Vl.val at TO
      (try unfold Vl.val)
      simp only at TO ⊢
      clear hev
      clear ha rok hr hup z1 z2
      go_enter Tryz.func70, Tryz.ntmps70
      go_wp2_with fail
      with_reducible refine Calls.mono (PA _) ?_
      rintro e w1 ⟨rfl, u1⟩
      have HU1 := hide (HU0.out.then u1 (fun _ _ => id))
      have HV1 := hide (u1.get HV0.out id)
      clear u1
      go_wp2_with fail
      with_reducible refine Calls.mono (RA _) ?_
      rintro e w2 ⟨rfl, u2⟩
      have HU2 := hide (HU1.out.then u2 (fun _ _ => id))
      have HV2 := hide (u2.get HV1.out id)
      clear u2
      go_wp2_with fail
      with_reducible refine Calls.mono (TO _) ?_
      rintro e w9 ⟨rfl, u9⟩
      have HU9 := hide (HU2.out.then u9 (fun _ _ => id))
      have bV := u9.get HV2.out id
      obtain ⟨v0, v1, v2, v3, v4⟩ := cells5 bV
      have vl := lt_at bV
      have fv0 := free_at bV 0
      have fv1 := free_at bV 1
      have fv2 := free_at bV 2
      have fv3 := free_at bV 3
      have fv4 := free_at bV 4
      have HB := hide bV
      clear bV u9
      go_wp2_with fail
      (try simp only [Exit.inBlock, Exit.then])
      refine bodyPost_ret (ret_vl rfl _ _ (w.heap.size) ⟨k0, n0, t0, b0, e0'⟩ rfl (block5 (x := vZero) HB.out _ _ _ _ _)) rfl ?_
      exact ⟨rfl, upd5 HU9.out (by omega) _ _ _ _ _⟩
    | true =>
      simp only [if_true]
      rw [hup]
      have hr2 := okNum_true rok
      have ma : max a (-a) = (a.natAbs : Int) := by omega
      have mr : max r (-r) = (r.natAbs : Int) := by omega
      have wa : IntKind.i64.wrap (-a) = -a := by rw [IntWalk.i64_in _ (by omega)]
      have wr : IntKind.i64.wrap (-r) = -r := by rw [IntWalk.i64_in _ (by omega)]
      by_cases hc : c = 0 ∧ a.natAbs ≤ r.natAbs
      · rw [if_pos hc]
        obtain ⟨rfl, hle⟩ := hc
        have TO := fun w => nTold_any w r 0
        have gle : (a.natAbs : Int) ≤ (r.natAbs : Int) := by omega
        obtain ⟨⟨k0, n0, t0, b0, e0'⟩, hev⟩ : ∃ v, tldV (r, 0) = v := ⟨_, rfl⟩
        rw [hev] at TO ⊢
        unfold Vl.val at TO
        (try unfold Vl.val)
        simp only at TO ⊢
        clear hev
        clear ha rok hr hr2 hup z1 z2 hle
        go_enter Tryz.func70, Tryz.ntmps70
        go_wp2_with fail
        with_reducible refine Calls.mono (PA _) ?_
        rintro e w1 ⟨rfl, u1⟩
        have HU1 := hide (HU0.out.then u1 (fun _ _ => id))
        have HV1 := hide (u1.get HV0.out id)
        clear u1
        go_wp2_with fail
        with_reducible refine Calls.mono (RA _) ?_
        rintro e w2 ⟨rfl, u2⟩
        have HU2 := hide (HU1.out.then u2 (fun _ _ => id))
        have HV2 := hide (u2.get HV1.out id)
        clear u2
        go_wp2_with fail
        with_reducible refine Calls.mono (TO _) ?_
        rintro e w9 ⟨rfl, u9⟩
        have HU9 := hide (HU2.out.then u9 (fun _ _ => id))
        have bV := u9.get HV2.out id
        obtain ⟨v0, v1, v2, v3, v4⟩ := cells5 bV
        have vl := lt_at bV
        have fv0 := free_at bV 0
        have fv1 := free_at bV 1
        have fv2 := free_at bV 2
        have fv3 := free_at bV 3
        have fv4 := free_at bV 4
        have HB := hide bV
        clear bV u9
        go_wp2_with fail
        (try simp only [Exit.inBlock, Exit.then])
        refine bodyPost_ret (ret_vl rfl _ _ (w.heap.size) ⟨k0, n0, t0, b0, e0'⟩ rfl (block5 (x := vZero) HB.out _ _ _ _ _)) rfl ?_
        exact ⟨rfl, upd5 HU9.out (by omega) _ _ _ _ _⟩
      · rw [if_neg hc]
        obtain ⟨Zn, hZn⟩ : ∃ n : Nat, z.toNat = n := ⟨_, rfl⟩
        obtain ⟨M, hM⟩ : ∃ n : Nat, (-z).toNat = n := ⟨_, rfl⟩
        rw [hZn, hM]
        have mz : max z 0 = (Zn : Int) := by omega
        obtain ⟨S0, hS0⟩ : ∃ S : Nat, 10000 / 10 ^ Zn = S := ⟨_, rfl⟩
        have hS0le : S0 ≤ 10000 := by rw [← hS0]; exact Nat.div_le_self _ _
        have hS0ok : okNum (S0 : Int) = true := by simp [okNum]; omega
        have sok := stp_ok (e := c) hS0ok M
        clear hS0le hS0ok
        rw [hS0]
        have HS0 := hide hS0
        obtain ⟨⟨s, e2⟩, hst⟩ : ∃ r, stp (S0 : Int) c M = r := ⟨_, rfl⟩
        rw [hst] at sok ⊢
        have HST := hide hst
        obtain ⟨⟨k0, n0, t0, b0, e0'⟩, hev⟩ : ∃ v, rupT a r (s, e2) = v := ⟨_, rfl⟩
        rw [hev]
        have HEV := hide hev
        unfold Vl.val
        simp only
        have hs2 := okNum_true sok
        simp only at hs2
        have ws : IntKind.i64.wrap (-s) = -s := by rw [IntWalk.i64_in _ (by omega)]
        have hbr : (c == 0) = false ∨ (c == 0) = true ∧ ¬ (a.natAbs : Int) ≤ (r.natAbs : Int) := by
          by_cases h : c = 0
          · exact .inr ⟨by simpa using h, fun h2 => hc ⟨h, by omega⟩⟩
          · exact .inl (by simpa using h)
        have HZ := hide (And.intro hZn hM)
        have HZ1 := hide (And.intro z1 z2)
        clear hev hZn hM hS0 hst sok hs2 hc hup hr hr2 rok ha z1 z2
        rcases hbr with hbr | ⟨hbr, hbr'⟩
        · go_enter Tryz.func70, Tryz.ntmps70
          go_wp2_with fail
          with_reducible refine Calls.mono (PA _) ?_
          rintro e w1 ⟨rfl, u1⟩
          have HU1 := hide (HU0.out.then u1 (fun _ _ => id))
          have HV1 := hide (u1.get HV0.out id)
          clear u1
          go_wp2_with fail
          with_reducible refine Calls.mono (RA _) ?_
          rintro e w2 ⟨rfl, u2⟩
          have HU2 := hide (HU1.out.then u2 (fun _ _ => id))
          have HV2 := hide (u2.get HV1.out id)
          clear u2
          go_wp2_with fail
          clear wr wa ma mr
          go_loopg [11, 49] Zn (fun q sv iv wr => ∃ i : Nat, i + q = Zn ∧ iv = .int .i64 (i : Int) ∧ sv = .int .i64 ((10000 / 10 ^ i : Nat) : Int) ∧ Upd w wr (fun _ => False) ∧ wr.heap[w.heap.size]? = some (.cells #[.int .i64 0, .int .i64 0, .string ⟨#[]⟩, .bool false, .int .i64 0] 26))
          case atStart => exact ⟨0, by omega, rfl, rfl, HU2.out, HV2.out⟩
          case round =>
            obtain ⟨i, hi, rfl, rfl, hu, hv⟩ := hrel
            have HU3 := hide hu
            have HV3 := hide hv
            have hZ15 : Zn ≤ 15 := by have := HZ.out.1; have := HZ1.out.2; omega
            by_cases hiZ : i < Zn
            · have hlt : (i : Int) < (Zn : Int) := by omega
              obtain ⟨S, hS⟩ : ∃ S : Nat, 10000 / 10 ^ i = S := ⟨_, rfl⟩
              have hSn : 10000 / 10 ^ (i + 1) = S / 10 := by rw [Nat.pow_succ, ← Nat.div_div_eq_div_mul, hS]
              have hSle : S ≤ 10000 := by rw [← hS]; exact Nat.div_le_self _ _
              rw [hS]
              have td : (S : Int).tdiv 10 = ((S / 10 : Nat) : Int) := by rw [Int.tdiv_eq_ediv_of_nonneg (by omega)]; rfl
              obtain ⟨S', hS'⟩ : ∃ S', S / 10 = S' := ⟨_, rfl⟩
              rw [hS'] at td hSn
              have w1 : IntKind.i64.wrap (S' : Int) = (S' : Int) := by rw [IntWalk.i64_in _ (by omega)]
              have HI := hide hi
              have HSN := hide hSn
              clear hu hv hS hi hSn hS'
              go_wp2_with fail
              go_roundg (gk - 1)
              case measure => have := HI.out; omega
              case rel => exact ⟨i + 1, by have := HI.out; omega, by go_num, by rw [HSN.out], HU3.out, HV3.out⟩
            · have hlt : ¬ (i : Int) < (Zn : Int) := by omega
              obtain rfl : i = Zn := by omega
              rw [HS0.out]
              clear hu hv hi hiZ
              go_wp2_with fail
              go_loopg [10, 11, 12] M (fun q ev sv kv wr => ∃ j : Nat, j + q = M ∧ kv = .int .i64 (z + j) ∧ sv = .int .i64 (stp (S0 : Int) c j).1 ∧ ev = .int .i64 (stp (S0 : Int) c j).2 ∧ Upd w wr (fun _ => False) ∧ wr.heap[w.heap.size]? = some (.cells #[.int .i64 0, .int .i64 0, .string ⟨#[]⟩, .bool false, .int .i64 0] 26))
              case atStart => exact ⟨0, by omega, by simp, rfl, rfl, HU3.out, HV3.out⟩
              case round =>
                obtain ⟨j, hj, rfl, rfl, rfl, hu, hv⟩ := hrel
                have HU4 := hide hu
                have HV4 := hide hv
                obtain ⟨K, hK⟩ : ∃ K : Int, z + j = K := ⟨_, rfl⟩
                rw [hK]
                by_cases hc : (stp (S0 : Int) c j).2 = 0
                · by_cases hk : K < 0
                  · have MU := (mulB (stp (S0 : Int) c j).1 100000).1
                    have e1 : stp (S0 : Int) c (j + 1) = mulF (stp (S0 : Int) c j).1 100000 := by rw [stp, if_pos hc]
                    rw [← e1] at MU
                    obtain ⟨⟨p1, c1⟩, hp1⟩ : ∃ r, stp (S0 : Int) c j = r := ⟨_, rfl⟩
                    rw [hp1] at MU hc ⊢
                    simp only at MU hc ⊢
                    subst hc
                    obtain ⟨⟨p2, c2⟩, hp2⟩ : ∃ r, stp (S0 : Int) c (j + 1) = r := ⟨_, rfl⟩
                    rw [hp2] at MU
                    simp only at MU
                    have hz1 := HZ1.out
                    have w1 : IntKind.i64.wrap (K + 1) = K + 1 := by rw [IntWalk.i64_in _ (by omega)]
                    have HP := hide hp2
                    have HK := hide hK
                    have HJ := hide hj
                    have HKL := hide hk
                    clear hu hv hp1 e1 hp2 hK hj hz1
                    go_wp2_with fail
                    with_reducible refine Calls.mono (MU _) ?_
                    rintro e w5 ⟨rfl, u5⟩
                    have HU5 := hide (HU4.out.then u5 (fun _ _ => id))
                    have HV5 := hide (u5.get HV4.out id)
                    clear u5
                    go_wp2_with fail
                    go_roundg (gk - 1)
                    case measure => have := HJ.out; have := HK.out; have := HKL.out; have := HZ.out.2; omega
                    case rel => exact ⟨j + 1, by have := HJ.out; have := HK.out; have := HKL.out; have := HZ.out.2; omega, by have := HK.out; congr 1; omega, by rw [HP.out], by rw [HP.out], HU5.out, HV5.out⟩
                  · have hjM : j = M := by have := HZ.out.2; omega
                    subst hjM
                    have hes := HST.out
                    rw [hes] at hc ⊢
                    simp only at hc ⊢
                    subst hc
                    have hev := (rupT_ok a r s).symm.trans HEV.out
                    clear hes hu hv hj hK
                    by_cases ha0 : a < 0
                    · rw [if_pos ha0] at hev
                      have AA := fun w => Add_any w r (-s)
                      obtain ⟨p3, hp3⟩ : ∃ p, addV r (-s) = p := ⟨_, rfl⟩
                      obtain ⟨c3, hc3⟩ : ∃ p, addE r (-s) = p := ⟨_, rfl⟩
                      rw [hp3, hc3] at AA
                      have ef : addF r (-s) = (p3, c3) := by rw [← hp3, ← hc3]; rfl
                      rw [ef] at hev
                      have TO := fun w => nTold_any w p3 c3
                      rw [hev] at TO
                      unfold Vl.val at TO
                      simp only at TO
                      clear hev
                      clear hp3 hc3 ef
                      go_wp2_with fail
                      with_reducible refine Calls.mono (AA _) ?_
                      rintro e w5 ⟨rfl, u5⟩
                      have HU5 := hide (HU4.out.then u5 (fun _ _ => id))
                      have HV5 := hide (u5.get HV4.out id)
                      clear u5
                      go_wp2_with fail
                      with_reducible refine Calls.mono (TO _) ?_
                      rintro e w9 ⟨rfl, u9⟩
                      have HU9 := hide (HU5.out.then u9 (fun _ _ => id))
                      have bV := u9.get HV5.out id
                      obtain ⟨v0, v1, v2, v3, v4⟩ := cells5 bV
                      have vl := lt_at bV
                      have fv0 := free_at bV 0
                      have fv1 := free_at bV 1
                      have fv2 := free_at bV 2
                      have fv3 := free_at bV 3
                      have fv4 := free_at bV 4
                      have HB := hide bV
                      clear bV u9
                      go_wp2_with fail
                      (try simp only [Exit.inBlock, Exit.then])
                      refine bodyPost_ret (ret_vl rfl _ _ (w.heap.size) ⟨k0, n0, t0, b0, e0'⟩ rfl (block5 (x := vZero) HB.out _ _ _ _ _)) rfl ?_
                      exact ⟨rfl, upd5 HU9.out (by omega) _ _ _ _ _⟩
                    · rw [if_neg ha0] at hev
                      have AA := fun w => Add_any w r (s)
                      obtain ⟨p3, hp3⟩ : ∃ p, addV r (s) = p := ⟨_, rfl⟩
                      obtain ⟨c3, hc3⟩ : ∃ p, addE r (s) = p := ⟨_, rfl⟩
                      rw [hp3, hc3] at AA
                      have ef : addF r (s) = (p3, c3) := by rw [← hp3, ← hc3]; rfl
                      rw [ef] at hev
                      have TO := fun w => nTold_any w p3 c3
                      rw [hev] at TO
                      unfold Vl.val at TO
                      simp only at TO
                      clear hev
                      clear hp3 hc3 ef
                      go_wp2_with fail
                      with_reducible refine Calls.mono (AA _) ?_
                      rintro e w5 ⟨rfl, u5⟩
                      have HU5 := hide (HU4.out.then u5 (fun _ _ => id))
                      have HV5 := hide (u5.get HV4.out id)
                      clear u5
                      go_wp2_with fail
                      with_reducible refine Calls.mono (TO _) ?_
                      rintro e w9 ⟨rfl, u9⟩
                      have HU9 := hide (HU5.out.then u9 (fun _ _ => id))
                      have bV := u9.get HV5.out id
                      obtain ⟨v0, v1, v2, v3, v4⟩ := cells5 bV
                      have vl := lt_at bV
                      have fv0 := free_at bV 0
                      have fv1 := free_at bV 1
                      have fv2 := free_at bV 2
                      have fv3 := free_at bV 3
                      have fv4 := free_at bV 4
                      have HB := hide bV
                      clear bV u9
                      go_wp2_with fail
                      (try simp only [Exit.inBlock, Exit.then])
                      refine bodyPost_ret (ret_vl rfl _ _ (w.heap.size) ⟨k0, n0, t0, b0, e0'⟩ rfl (block5 (x := vZero) HB.out _ _ _ _ _)) rfl ?_
                      exact ⟨rfl, upd5 HU9.out (by omega) _ _ _ _ _⟩
                · have hes := HST.out
                  have h2 := stp_stay hc (M - j)
                  rw [show j + (M - j) = M by omega] at h2
                  rw [h2] at hes
                  rw [hes] at hc ⊢
                  simp only at hc ⊢
                  have be : (e2 == 0) = false := by simpa using hc
                  have bn : (e2 != 0) = true := by simpa using hc
                  have hev := (rupT_bad a r s hc).symm.trans HEV.out
                  clear hes hu hv hj hK h2 hc ws
                  have CA := fun w => code_any w e2
                  rw [hev] at CA
                  unfold Vl.val at CA
                  simp only at CA
                  clear hev
                  by_cases hk : K < 0
                  · go_wp2_with fail
                    with_reducible refine Calls.mono (CA _) ?_
                    rintro e w9 ⟨rfl, u9⟩
                    have HU9 := hide (HU4.out.then u9 (fun _ _ => id))
                    have bV := u9.get HV4.out id
                    obtain ⟨v0, v1, v2, v3, v4⟩ := cells5 bV
                    have vl := lt_at bV
                    have fv0 := free_at bV 0
                    have fv1 := free_at bV 1
                    have fv2 := free_at bV 2
                    have fv3 := free_at bV 3
                    have fv4 := free_at bV 4
                    have HB := hide bV
                    clear bV u9
                    go_wp2_with fail
                    (try simp only [Exit.inBlock, Exit.then])
                    refine bodyPost_ret (ret_vl rfl _ _ (w.heap.size) ⟨k0, n0, t0, b0, e0'⟩ rfl (block5 (x := vZero) HB.out _ _ _ _ _)) rfl ?_
                    exact ⟨rfl, upd5 HU9.out (by omega) _ _ _ _ _⟩
                  · go_wp2_with fail
                    with_reducible refine Calls.mono (CA _) ?_
                    rintro e w9 ⟨rfl, u9⟩
                    have HU9 := hide (HU4.out.then u9 (fun _ _ => id))
                    have bV := u9.get HV4.out id
                    obtain ⟨v0, v1, v2, v3, v4⟩ := cells5 bV
                    have vl := lt_at bV
                    have fv0 := free_at bV 0
                    have fv1 := free_at bV 1
                    have fv2 := free_at bV 2
                    have fv3 := free_at bV 3
                    have fv4 := free_at bV 4
                    have HB := hide bV
                    clear bV u9
                    go_wp2_with fail
                    (try simp only [Exit.inBlock, Exit.then])
                    refine bodyPost_ret (ret_vl rfl _ _ (w.heap.size) ⟨k0, n0, t0, b0, e0'⟩ rfl (block5 (x := vZero) HB.out _ _ _ _ _)) rfl ?_
                    exact ⟨rfl, upd5 HU9.out (by omega) _ _ _ _ _⟩
        · go_enter Tryz.func70, Tryz.ntmps70
          go_wp2_with fail
          with_reducible refine Calls.mono (PA _) ?_
          rintro e w1 ⟨rfl, u1⟩
          have HU1 := hide (HU0.out.then u1 (fun _ _ => id))
          have HV1 := hide (u1.get HV0.out id)
          clear u1
          go_wp2_with fail
          with_reducible refine Calls.mono (RA _) ?_
          rintro e w2 ⟨rfl, u2⟩
          have HU2 := hide (HU1.out.then u2 (fun _ _ => id))
          have HV2 := hide (u2.get HV1.out id)
          clear u2
          go_wp2_with fail
          clear wr wa ma mr hbr'
          go_loopg [11, 49] Zn (fun q sv iv wr => ∃ i : Nat, i + q = Zn ∧ iv = .int .i64 (i : Int) ∧ sv = .int .i64 ((10000 / 10 ^ i : Nat) : Int) ∧ Upd w wr (fun _ => False) ∧ wr.heap[w.heap.size]? = some (.cells #[.int .i64 0, .int .i64 0, .string ⟨#[]⟩, .bool false, .int .i64 0] 26))
          case atStart => exact ⟨0, by omega, rfl, rfl, HU2.out, HV2.out⟩
          case round =>
            obtain ⟨i, hi, rfl, rfl, hu, hv⟩ := hrel
            have HU3 := hide hu
            have HV3 := hide hv
            have hZ15 : Zn ≤ 15 := by have := HZ.out.1; have := HZ1.out.2; omega
            by_cases hiZ : i < Zn
            · have hlt : (i : Int) < (Zn : Int) := by omega
              obtain ⟨S, hS⟩ : ∃ S : Nat, 10000 / 10 ^ i = S := ⟨_, rfl⟩
              have hSn : 10000 / 10 ^ (i + 1) = S / 10 := by rw [Nat.pow_succ, ← Nat.div_div_eq_div_mul, hS]
              have hSle : S ≤ 10000 := by rw [← hS]; exact Nat.div_le_self _ _
              rw [hS]
              have td : (S : Int).tdiv 10 = ((S / 10 : Nat) : Int) := by rw [Int.tdiv_eq_ediv_of_nonneg (by omega)]; rfl
              obtain ⟨S', hS'⟩ : ∃ S', S / 10 = S' := ⟨_, rfl⟩
              rw [hS'] at td hSn
              have w1 : IntKind.i64.wrap (S' : Int) = (S' : Int) := by rw [IntWalk.i64_in _ (by omega)]
              have HI := hide hi
              have HSN := hide hSn
              clear hu hv hS hi hSn hS'
              go_wp2_with fail
              go_roundg (gk - 1)
              case measure => have := HI.out; omega
              case rel => exact ⟨i + 1, by have := HI.out; omega, by go_num, by rw [HSN.out], HU3.out, HV3.out⟩
            · have hlt : ¬ (i : Int) < (Zn : Int) := by omega
              obtain rfl : i = Zn := by omega
              rw [HS0.out]
              clear hu hv hi hiZ
              go_wp2_with fail
              go_loopg [10, 11, 12] M (fun q ev sv kv wr => ∃ j : Nat, j + q = M ∧ kv = .int .i64 (z + j) ∧ sv = .int .i64 (stp (S0 : Int) c j).1 ∧ ev = .int .i64 (stp (S0 : Int) c j).2 ∧ Upd w wr (fun _ => False) ∧ wr.heap[w.heap.size]? = some (.cells #[.int .i64 0, .int .i64 0, .string ⟨#[]⟩, .bool false, .int .i64 0] 26))
              case atStart => exact ⟨0, by omega, by simp, rfl, rfl, HU3.out, HV3.out⟩
              case round =>
                obtain ⟨j, hj, rfl, rfl, rfl, hu, hv⟩ := hrel
                have HU4 := hide hu
                have HV4 := hide hv
                obtain ⟨K, hK⟩ : ∃ K : Int, z + j = K := ⟨_, rfl⟩
                rw [hK]
                by_cases hc : (stp (S0 : Int) c j).2 = 0
                · by_cases hk : K < 0
                  · have MU := (mulB (stp (S0 : Int) c j).1 100000).1
                    have e1 : stp (S0 : Int) c (j + 1) = mulF (stp (S0 : Int) c j).1 100000 := by rw [stp, if_pos hc]
                    rw [← e1] at MU
                    obtain ⟨⟨p1, c1⟩, hp1⟩ : ∃ r, stp (S0 : Int) c j = r := ⟨_, rfl⟩
                    rw [hp1] at MU hc ⊢
                    simp only at MU hc ⊢
                    subst hc
                    obtain ⟨⟨p2, c2⟩, hp2⟩ : ∃ r, stp (S0 : Int) c (j + 1) = r := ⟨_, rfl⟩
                    rw [hp2] at MU
                    simp only at MU
                    have hz1 := HZ1.out
                    have w1 : IntKind.i64.wrap (K + 1) = K + 1 := by rw [IntWalk.i64_in _ (by omega)]
                    have HP := hide hp2
                    have HK := hide hK
                    have HJ := hide hj
                    have HKL := hide hk
                    clear hu hv hp1 e1 hp2 hK hj hz1
                    go_wp2_with fail
                    with_reducible refine Calls.mono (MU _) ?_
                    rintro e w5 ⟨rfl, u5⟩
                    have HU5 := hide (HU4.out.then u5 (fun _ _ => id))
                    have HV5 := hide (u5.get HV4.out id)
                    clear u5
                    go_wp2_with fail
                    go_roundg (gk - 1)
                    case measure => have := HJ.out; have := HK.out; have := HKL.out; have := HZ.out.2; omega
                    case rel => exact ⟨j + 1, by have := HJ.out; have := HK.out; have := HKL.out; have := HZ.out.2; omega, by have := HK.out; congr 1; omega, by rw [HP.out], by rw [HP.out], HU5.out, HV5.out⟩
                  · have hjM : j = M := by have := HZ.out.2; omega
                    subst hjM
                    have hes := HST.out
                    rw [hes] at hc ⊢
                    simp only at hc ⊢
                    subst hc
                    have hev := (rupT_ok a r s).symm.trans HEV.out
                    clear hes hu hv hj hK
                    by_cases ha0 : a < 0
                    · rw [if_pos ha0] at hev
                      have AA := fun w => Add_any w r (-s)
                      obtain ⟨p3, hp3⟩ : ∃ p, addV r (-s) = p := ⟨_, rfl⟩
                      obtain ⟨c3, hc3⟩ : ∃ p, addE r (-s) = p := ⟨_, rfl⟩
                      rw [hp3, hc3] at AA
                      have ef : addF r (-s) = (p3, c3) := by rw [← hp3, ← hc3]; rfl
                      rw [ef] at hev
                      have TO := fun w => nTold_any w p3 c3
                      rw [hev] at TO
                      unfold Vl.val at TO
                      simp only at TO
                      clear hev
                      clear hp3 hc3 ef
                      go_wp2_with fail
                      with_reducible refine Calls.mono (AA _) ?_
                      rintro e w5 ⟨rfl, u5⟩
                      have HU5 := hide (HU4.out.then u5 (fun _ _ => id))
                      have HV5 := hide (u5.get HV4.out id)
                      clear u5
                      go_wp2_with fail
                      with_reducible refine Calls.mono (TO _) ?_
                      rintro e w9 ⟨rfl, u9⟩
                      have HU9 := hide (HU5.out.then u9 (fun _ _ => id))
                      have bV := u9.get HV5.out id
                      obtain ⟨v0, v1, v2, v3, v4⟩ := cells5 bV
                      have vl := lt_at bV
                      have fv0 := free_at bV 0
                      have fv1 := free_at bV 1
                      have fv2 := free_at bV 2
                      have fv3 := free_at bV 3
                      have fv4 := free_at bV 4
                      have HB := hide bV
                      clear bV u9
                      go_wp2_with fail
                      (try simp only [Exit.inBlock, Exit.then])
                      refine bodyPost_ret (ret_vl rfl _ _ (w.heap.size) ⟨k0, n0, t0, b0, e0'⟩ rfl (block5 (x := vZero) HB.out _ _ _ _ _)) rfl ?_
                      exact ⟨rfl, upd5 HU9.out (by omega) _ _ _ _ _⟩
                    · rw [if_neg ha0] at hev
                      have AA := fun w => Add_any w r (s)
                      obtain ⟨p3, hp3⟩ : ∃ p, addV r (s) = p := ⟨_, rfl⟩
                      obtain ⟨c3, hc3⟩ : ∃ p, addE r (s) = p := ⟨_, rfl⟩
                      rw [hp3, hc3] at AA
                      have ef : addF r (s) = (p3, c3) := by rw [← hp3, ← hc3]; rfl
                      rw [ef] at hev
                      have TO := fun w => nTold_any w p3 c3
                      rw [hev] at TO
                      unfold Vl.val at TO
                      simp only at TO
                      clear hev
                      clear hp3 hc3 ef
                      go_wp2_with fail
                      with_reducible refine Calls.mono (AA _) ?_
                      rintro e w5 ⟨rfl, u5⟩
                      have HU5 := hide (HU4.out.then u5 (fun _ _ => id))
                      have HV5 := hide (u5.get HV4.out id)
                      clear u5
                      go_wp2_with fail
                      with_reducible refine Calls.mono (TO _) ?_
                      rintro e w9 ⟨rfl, u9⟩
                      have HU9 := hide (HU5.out.then u9 (fun _ _ => id))
                      have bV := u9.get HV5.out id
                      obtain ⟨v0, v1, v2, v3, v4⟩ := cells5 bV
                      have vl := lt_at bV
                      have fv0 := free_at bV 0
                      have fv1 := free_at bV 1
                      have fv2 := free_at bV 2
                      have fv3 := free_at bV 3
                      have fv4 := free_at bV 4
                      have HB := hide bV
                      clear bV u9
                      go_wp2_with fail
                      (try simp only [Exit.inBlock, Exit.then])
                      refine bodyPost_ret (ret_vl rfl _ _ (w.heap.size) ⟨k0, n0, t0, b0, e0'⟩ rfl (block5 (x := vZero) HB.out _ _ _ _ _)) rfl ?_
                      exact ⟨rfl, upd5 HU9.out (by omega) _ _ _ _ _⟩
                · have hes := HST.out
                  have h2 := stp_stay hc (M - j)
                  rw [show j + (M - j) = M by omega] at h2
                  rw [h2] at hes
                  rw [hes] at hc ⊢
                  simp only at hc ⊢
                  have be : (e2 == 0) = false := by simpa using hc
                  have bn : (e2 != 0) = true := by simpa using hc
                  have hev := (rupT_bad a r s hc).symm.trans HEV.out
                  clear hes hu hv hj hK h2 hc ws
                  have CA := fun w => code_any w e2
                  rw [hev] at CA
                  unfold Vl.val at CA
                  simp only at CA
                  clear hev
                  by_cases hk : K < 0
                  · go_wp2_with fail
                    with_reducible refine Calls.mono (CA _) ?_
                    rintro e w9 ⟨rfl, u9⟩
                    have HU9 := hide (HU4.out.then u9 (fun _ _ => id))
                    have bV := u9.get HV4.out id
                    obtain ⟨v0, v1, v2, v3, v4⟩ := cells5 bV
                    have vl := lt_at bV
                    have fv0 := free_at bV 0
                    have fv1 := free_at bV 1
                    have fv2 := free_at bV 2
                    have fv3 := free_at bV 3
                    have fv4 := free_at bV 4
                    have HB := hide bV
                    clear bV u9
                    go_wp2_with fail
                    (try simp only [Exit.inBlock, Exit.then])
                    refine bodyPost_ret (ret_vl rfl _ _ (w.heap.size) ⟨k0, n0, t0, b0, e0'⟩ rfl (block5 (x := vZero) HB.out _ _ _ _ _)) rfl ?_
                    exact ⟨rfl, upd5 HU9.out (by omega) _ _ _ _ _⟩
                  · go_wp2_with fail
                    with_reducible refine Calls.mono (CA _) ?_
                    rintro e w9 ⟨rfl, u9⟩
                    have HU9 := hide (HU4.out.then u9 (fun _ _ => id))
                    have bV := u9.get HV4.out id
                    obtain ⟨v0, v1, v2, v3, v4⟩ := cells5 bV
                    have vl := lt_at bV
                    have fv0 := free_at bV 0
                    have fv1 := free_at bV 1
                    have fv2 := free_at bV 2
                    have fv3 := free_at bV 3
                    have fv4 := free_at bV 4
                    have HB := hide bV
                    clear bV u9
                    go_wp2_with fail
                    (try simp only [Exit.inBlock, Exit.then])
                    refine bodyPost_ret (ret_vl rfl _ _ (w.heap.size) ⟨k0, n0, t0, b0, e0'⟩ rfl (block5 (x := vZero) HB.out _ _ _ _ _)) rfl ?_
                    exact ⟨rfl, upd5 HU9.out (by omega) _ _ _ _ _⟩
end Go.Proofs.YtmfngdjhkpddoaaGreatDoor
