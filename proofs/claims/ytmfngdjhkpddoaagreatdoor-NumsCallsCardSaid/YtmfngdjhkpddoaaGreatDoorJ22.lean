/- The walks of nums' power, Neg, Pct. -/
import Derived.Test.YtmfngdjhkpddoaaGreatDoorJ21
import Derived.Test.YtmfngdjhkpddoaaGreatDoorJ19
import Derived.Test.YtmfngdjhkpddoaaGreatDoorJ18
import Derived.Test.YtmfngdjhkpddoaaGreatDoorJ20
import Derived.Test.YtmfngdjhkpddoaaGreatDoorJ14
import Derived.Test.YtmfngdjhkpddoaaGreatDoorJ11
/- The walks of nums' power, Neg, Pct. -/
set_option maxRecDepth 100000
namespace Go.Proofs.YtmfngdjhkpddoaaGreatDoor
open Go.RowKit Go.Lat Go.Lib

theorem nPower_any (w : World) (a b : Int) (hb : okNum b = true) : Calls Tryz.prog 73 #[.int .i64 a, .int .i64 b] w fun e w' => e = .returned (powV a b).val ∧ Upd w w' (fun _ => False) := by
  have HU0 : Hid (Upd w (w.alloc (.cells #[.int .i64 0, .int .i64 0, .string ⟨#[]⟩, .bool false, .int .i64 0] 26)) (fun _ => False)) := hide ((Upd.refl w _).alloc _)
  have HV0 : Hid ((w.alloc (.cells #[.int .i64 0, .int .i64 0, .string ⟨#[]⟩, .bool false, .int .i64 0] 26)).heap[w.heap.size]? = some (.cells #[.int .i64 0, .int .i64 0, .string ⟨#[]⟩, .bool false, .int .i64 0] 26 (0, 0))) := hide (Vnew1 w _)
  have WA := fun w => whole_any w b
  rw [wholeb hb, wholeF_of hb] at WA
  have hwm := fun h : b.tmod 10000 = 0 => whole_mul h
  have hzr := wholeF_rng b
  rw [wholeF_of hb] at hzr
  unfold powV
  obtain ⟨z, hz⟩ : ∃ z, b.tdiv 10000 = z := ⟨_, rfl⟩
  rw [hz] at WA hwm hzr ⊢
  by_cases h : b.tmod 10000 = 0
  · have ez := hwm h
    have hd : decide (b.tmod 10000 = 0) = true := by simpa using h
    rw [hd] at WA
    by_cases h2 : z < -1000 ∨ 1000 < z
    · rw [if_pos (.inr (by omega))]
      have EA := fun w => E_any w 2
      rcases h2 with h2 | h2
      · obtain ⟨⟨k0, n0, t0, b0, e0'⟩, hev⟩ : ∃ v, mkE 2 = v := ⟨_, rfl⟩
        rw [hev] at EA ⊢
        unfold Vl.val at EA
        (try unfold Vl.val)
        simp only at EA ⊢
        clear hev
        clear hd ez hwm h hz hzr
        go_enter Tryz.func73, Tryz.ntmps73
        go_wp2_with fail
        with_reducible refine Calls.mono (WA _) ?_
        rintro e w1 ⟨rfl, u1⟩
        have HU1 := hide (HU0.out.then u1 (fun _ _ => id))
        have HV1 := hide (u1.get HV0.out id)
        clear u1
        go_wp2_with fail
        with_reducible refine Calls.mono (EA _) ?_
        rintro e w9 ⟨rfl, u9⟩
        have HU9 := hide (HU1.out.then u9 (fun _ _ => id))
        have bV := u9.get HV1.out id
        obtain ⟨v0, v1, v2, v3, v4⟩ := cells5 bV
        have vl := lt_at bV
        have fv0 := free_at bV 0
        have fv1 := free_at bV 1
        have fv2 := free_at bV 2
        have fv3 := free_at bV 3
        have fv4 := free_at bV 4
        have HB := hide bV
        clear bV u9
        go_wp2_with fail
        (try simp only [Exit.inBlock, Exit.then])
        refine bodyPost_ret (ret_vl rfl _ _ (w.heap.size) ⟨k0, n0, t0, b0, e0'⟩ rfl (block5 (x := vZero) HB.out _ _ _ _ _)) rfl ?_
        exact ⟨rfl, upd5 HU9.out (by omega) _ _ _ _ _⟩
      · have h3 : ¬ z < -1000 := by omega
        obtain ⟨⟨k0, n0, t0, b0, e0'⟩, hev⟩ : ∃ v, mkE 2 = v := ⟨_, rfl⟩
        rw [hev] at EA ⊢
        unfold Vl.val at EA
        (try unfold Vl.val)
        simp only at EA ⊢
        clear hev
        clear hd ez hwm h hz hzr
        go_enter Tryz.func73, Tryz.ntmps73
        go_wp2_with fail
        with_reducible refine Calls.mono (WA _) ?_
        rintro e w1 ⟨rfl, u1⟩
        have HU1 := hide (HU0.out.then u1 (fun _ _ => id))
        have HV1 := hide (u1.get HV0.out id)
        clear u1
        go_wp2_with fail
        with_reducible refine Calls.mono (EA _) ?_
        rintro e w9 ⟨rfl, u9⟩
        have HU9 := hide (HU1.out.then u9 (fun _ _ => id))
        have bV := u9.get HV1.out id
        obtain ⟨v0, v1, v2, v3, v4⟩ := cells5 bV
        have vl := lt_at bV
        have fv0 := free_at bV 0
        have fv1 := free_at bV 1
        have fv2 := free_at bV 2
        have fv3 := free_at bV 3
        have fv4 := free_at bV 4
        have HB := hide bV
        clear bV u9
        go_wp2_with fail
        (try simp only [Exit.inBlock, Exit.then])
        refine bodyPost_ret (ret_vl rfl _ _ (w.heap.size) ⟨k0, n0, t0, b0, e0'⟩ rfl (block5 (x := vZero) HB.out _ _ _ _ _)) rfl ?_
        exact ⟨rfl, upd5 HU9.out (by omega) _ _ _ _ _⟩
    · rw [if_neg (by omega)]
      obtain ⟨N, hN⟩ : ∃ N, z.natAbs = N := ⟨_, rfl⟩
      rw [hN]
      have mx : max z (-z) = (N : Int) := by omega
      have w1 : IntKind.i64.wrap (-z) = -z := by rw [IntWalk.i64_in _ (by omega)]
      have g1 : ¬ z < -1000 := by omega
      have g2 : ¬ 1000 < z := by omega
      have TA := fun w => times_any w a N (by omega)
      obtain ⟨⟨p, c⟩, hp⟩ : ∃ r, timesF a N = r := ⟨_, rfl⟩
      rw [hp] at TA ⊢
      simp only at TA ⊢
      have hbz : b < 0 ↔ z < 0 := by omega
      simp only [hbz]
      clear hbz hN hp ez hwm h hd h2 hz hzr
      by_cases hc : c = 0
      · subst hc
        by_cases hn : z < 0
        · rw [if_pos ⟨rfl, hn⟩]
          have DA := (divB 10000 p).1
          obtain ⟨⟨p2, c2⟩, hd2⟩ : ∃ r, divF 10000 p = r := ⟨_, rfl⟩
          rw [hd2] at DA ⊢
          simp only at DA
          have TO := fun w => nTold_any w p2 c2
          clear hd2
          obtain ⟨⟨k0, n0, t0, b0, e0'⟩, hev⟩ : ∃ v, tldV (p2, c2) = v := ⟨_, rfl⟩
          rw [hev] at TO ⊢
          unfold Vl.val at TO
          (try unfold Vl.val)
          simp only at TO ⊢
          clear hev
          go_enter Tryz.func73, Tryz.ntmps73
          go_wp2_with fail
          with_reducible refine Calls.mono (WA _) ?_
          rintro e w1 ⟨rfl, u1⟩
          have HU1 := hide (HU0.out.then u1 (fun _ _ => id))
          have HV1 := hide (u1.get HV0.out id)
          clear u1
          go_wp2_with fail
          with_reducible refine Calls.mono (TA _) ?_
          rintro e w2 ⟨rfl, u2⟩
          have HU2 := hide (HU1.out.then u2 (fun _ _ => id))
          have HV2 := hide (u2.get HV1.out id)
          clear u2
          go_wp2_with fail
          with_reducible refine Calls.mono (DA _) ?_
          rintro e w3 ⟨rfl, u3⟩
          have HU3 := hide (HU2.out.then u3 (fun _ _ => id))
          have HV3 := hide (u3.get HV2.out id)
          clear u3
          go_wp2_with fail
          with_reducible refine Calls.mono (TO _) ?_
          rintro e w9 ⟨rfl, u9⟩
          have HU9 := hide (HU3.out.then u9 (fun _ _ => id))
          have bV := u9.get HV3.out id
          obtain ⟨v0, v1, v2, v3, v4⟩ := cells5 bV
          have vl := lt_at bV
          have fv0 := free_at bV 0
          have fv1 := free_at bV 1
          have fv2 := free_at bV 2
          have fv3 := free_at bV 3
          have fv4 := free_at bV 4
          have HB := hide bV
          clear bV u9
          go_wp2_with fail
          (try simp only [Exit.inBlock, Exit.then])
          refine bodyPost_ret (ret_vl rfl _ _ (w.heap.size) ⟨k0, n0, t0, b0, e0'⟩ rfl (block5 (x := vZero) HB.out _ _ _ _ _)) rfl ?_
          exact ⟨rfl, upd5 HU9.out (by omega) _ _ _ _ _⟩
        · rw [if_neg (fun h => hn h.2)]
          have TO := fun w => nTold_any w p 0
          obtain ⟨⟨k0, n0, t0, b0, e0'⟩, hev⟩ : ∃ v, tldV (p, 0) = v := ⟨_, rfl⟩
          rw [hev] at TO ⊢
          unfold Vl.val at TO
          (try unfold Vl.val)
          simp only at TO ⊢
          clear hev
          go_enter Tryz.func73, Tryz.ntmps73
          go_wp2_with fail
          with_reducible refine Calls.mono (WA _) ?_
          rintro e w1 ⟨rfl, u1⟩
          have HU1 := hide (HU0.out.then u1 (fun _ _ => id))
          have HV1 := hide (u1.get HV0.out id)
          clear u1
          go_wp2_with fail
          with_reducible refine Calls.mono (TA _) ?_
          rintro e w2 ⟨rfl, u2⟩
          have HU2 := hide (HU1.out.then u2 (fun _ _ => id))
          have HV2 := hide (u2.get HV1.out id)
          clear u2
          go_wp2_with fail
          with_reducible refine Calls.mono (TO _) ?_
          rintro e w9 ⟨rfl, u9⟩
          have HU9 := hide (HU2.out.then u9 (fun _ _ => id))
          have bV := u9.get HV2.out id
          obtain ⟨v0, v1, v2, v3, v4⟩ := cells5 bV
          have vl := lt_at bV
          have fv0 := free_at bV 0
          have fv1 := free_at bV 1
          have fv2 := free_at bV 2
          have fv3 := free_at bV 3
          have fv4 := free_at bV 4
          have HB := hide bV
          clear bV u9
          go_wp2_with fail
          (try simp only [Exit.inBlock, Exit.then])
          refine bodyPost_ret (ret_vl rfl _ _ (w.heap.size) ⟨k0, n0, t0, b0, e0'⟩ rfl (block5 (x := vZero) HB.out _ _ _ _ _)) rfl ?_
          exact ⟨rfl, upd5 HU9.out (by omega) _ _ _ _ _⟩
      · rw [if_neg (fun h => hc h.1)]
        have bc : (c == 0) = false := by simpa using hc
        have TO := fun w => nTold_any w p c
        obtain ⟨⟨k0, n0, t0, b0, e0'⟩, hev⟩ : ∃ v, tldV (p, c) = v := ⟨_, rfl⟩
        rw [hev] at TO ⊢
        unfold Vl.val at TO
        (try unfold Vl.val)
        simp only at TO ⊢
        clear hev
        clear hc
        go_enter Tryz.func73, Tryz.ntmps73
        go_wp2_with fail
        with_reducible refine Calls.mono (WA _) ?_
        rintro e w1 ⟨rfl, u1⟩
        have HU1 := hide (HU0.out.then u1 (fun _ _ => id))
        have HV1 := hide (u1.get HV0.out id)
        clear u1
        go_wp2_with fail
        with_reducible refine Calls.mono (TA _) ?_
        rintro e w2 ⟨rfl, u2⟩
        have HU2 := hide (HU1.out.then u2 (fun _ _ => id))
        have HV2 := hide (u2.get HV1.out id)
        clear u2
        go_wp2_with fail
        with_reducible refine Calls.mono (TO _) ?_
        rintro e w9 ⟨rfl, u9⟩
        have HU9 := hide (HU2.out.then u9 (fun _ _ => id))
        have bV := u9.get HV2.out id
        obtain ⟨v0, v1, v2, v3, v4⟩ := cells5 bV
        have vl := lt_at bV
        have fv0 := free_at bV 0
        have fv1 := free_at bV 1
        have fv2 := free_at bV 2
        have fv3 := free_at bV 3
        have fv4 := free_at bV 4
        have HB := hide bV
        clear bV u9
        go_wp2_with fail
        (try simp only [Exit.inBlock, Exit.then])
        refine bodyPost_ret (ret_vl rfl _ _ (w.heap.size) ⟨k0, n0, t0, b0, e0'⟩ rfl (block5 (x := vZero) HB.out _ _ _ _ _)) rfl ?_
        exact ⟨rfl, upd5 HU9.out (by omega) _ _ _ _ _⟩
  · rw [if_pos (.inl h)]
    have hd : decide (b.tmod 10000 = 0) = false := by simpa using h
    rw [hd] at WA
    have EA := fun w => E_any w 2
    obtain ⟨⟨k0, n0, t0, b0, e0'⟩, hev⟩ : ∃ v, mkE 2 = v := ⟨_, rfl⟩
    rw [hev] at EA ⊢
    unfold Vl.val at EA
    (try unfold Vl.val)
    simp only at EA ⊢
    clear hev
    clear hd hwm h hz hzr
    go_enter Tryz.func73, Tryz.ntmps73
    go_wp2_with fail
    with_reducible refine Calls.mono (WA _) ?_
    rintro e w1 ⟨rfl, u1⟩
    have HU1 := hide (HU0.out.then u1 (fun _ _ => id))
    have HV1 := hide (u1.get HV0.out id)
    clear u1
    go_wp2_with fail
    with_reducible refine Calls.mono (EA _) ?_
    rintro e w9 ⟨rfl, u9⟩
    have HU9 := hide (HU1.out.then u9 (fun _ _ => id))
    have bV := u9.get HV1.out id
    obtain ⟨v0, v1, v2, v3, v4⟩ := cells5 bV
    have vl := lt_at bV
    have fv0 := free_at bV 0
    have fv1 := free_at bV 1
    have fv2 := free_at bV 2
    have fv3 := free_at bV 3
    have fv4 := free_at bV 4
    have HB := hide bV
    clear bV u9
    go_wp2_with fail
    (try simp only [Exit.inBlock, Exit.then])
    refine bodyPost_ret (ret_vl rfl _ _ (w.heap.size) ⟨k0, n0, t0, b0, e0'⟩ rfl (block5 (x := vZero) HB.out _ _ _ _ _)) rfl ?_
    exact ⟨rfl, upd5 HU9.out (by omega) _ _ _ _ _⟩
theorem Neg_any (w : World) (x : Vl) (hx : x.ok) (htl : x.t.length ≤ 1000000) : Calls Tryz.prog 25 #[x.val] w fun e w' => e = .returned (negV x).val ∧ Upd w w' (fun _ => False) := by
  have NA := fun w => numP_any w x hx htl
  have hok := numF_ok x
  unfold negV
  obtain ⟨⟨n, f⟩, hp⟩ : ∃ r, numF x = r := ⟨_, rfl⟩
  rw [hp] at NA hok ⊢
  simp only at NA hok ⊢
  clear hp
  obtain ⟨xk, xn, xt, xb, xf⟩ := x
  unfold Vl.val at NA ⊢
  simp only at NA ⊢
  clear hx htl
  have HU0 : Hid (Upd w ((w.alloc (.cells #[.int .i64 xk, .int .i64 xn, enS xt, .bool xb, .int .i64 xf] 26)).alloc (.cells #[.int .i64 0, .int .i64 0, .string ⟨#[]⟩, .bool false, .int .i64 0] 26)) (fun _ => False)) := hide (((Upd.refl w _).alloc _).alloc _)
  have HX0 : Hid (((w.alloc (.cells #[.int .i64 xk, .int .i64 xn, enS xt, .bool xb, .int .i64 xf] 26)).alloc (.cells #[.int .i64 0, .int .i64 0, .string ⟨#[]⟩, .bool false, .int .i64 0] 26)).heap[w.heap.size]? = some (.cells #[.int .i64 xk, .int .i64 xn, enS xt, .bool xb, .int .i64 xf] 26 (0, 0))) := hide (block_alloc (Vnew1 w _) _)
  have HV0 : Hid (((w.alloc (.cells #[.int .i64 xk, .int .i64 xn, enS xt, .bool xb, .int .i64 xf] 26)).alloc (.cells #[.int .i64 0, .int .i64 0, .string ⟨#[]⟩, .bool false, .int .i64 0] 26)).heap[w.heap.size + 1]? = some (.cells #[.int .i64 0, .int .i64 0, .string ⟨#[]⟩, .bool false, .int .i64 0] 26 (0, 0))) := hide (Vnew2 w _ _)
  by_cases h : f = 0
  · subst h
    rw [if_pos rfl]
    have hr := okNum_true hok
    have w1 : IntKind.i64.wrap (-n) = -n := by rw [IntWalk.i64_in _ (by omega)]
    have NN := fun w => N_any w (-n)
    obtain ⟨⟨k0, n0, t0, b0, e0'⟩, hev⟩ : ∃ v, mkN (-n) = v := ⟨_, rfl⟩
    rw [hev] at NN ⊢
    unfold Vl.val at NN
    (try unfold Vl.val)
    simp only at NN ⊢
    clear hev
    clear hok hr
    go_enter Tryz.func25, Tryz.ntmps25
    go_wp2_with fail
    with_reducible refine Calls.mono (NA _) ?_
    rintro e w1 ⟨rfl, u1⟩
    have HU1 := hide (HU0.out.then u1 (fun _ _ => id))
    have HV1 := hide (u1.get HV0.out id)
    have HX1 := hide (u1.get HX0.out id)
    clear u1
    go_wp2_with fail
    with_reducible refine Calls.mono (NN _) ?_
    rintro e w9 ⟨rfl, u9⟩
    have HU9 := hide (HU1.out.then u9 (fun _ _ => id))
    have bV := u9.get HV1.out id
    obtain ⟨v0, v1, v2, v3, v4⟩ := cells5 bV
    have vl := lt_at bV
    have fv0 := free_at bV 0
    have fv1 := free_at bV 1
    have fv2 := free_at bV 2
    have fv3 := free_at bV 3
    have fv4 := free_at bV 4
    have HB := hide bV
    clear bV u9
    go_wp2_with fail
    (try simp only [Exit.inBlock, Exit.then])
    refine bodyPost_ret (ret_vl rfl _ _ (w.heap.size + 1) ⟨k0, n0, t0, b0, e0'⟩ rfl (block5 (x := vZero) HB.out _ _ _ _ _)) rfl ?_
    exact ⟨rfl, upd5 HU9.out (by omega) _ _ _ _ _⟩
  · rw [if_neg h]
    have bf : (f != 0) = true := by simpa using h
    have EA := fun w => E_any w f
    obtain ⟨⟨k0, n0, t0, b0, e0'⟩, hev⟩ : ∃ v, mkE f = v := ⟨_, rfl⟩
    rw [hev] at EA ⊢
    unfold Vl.val at EA
    (try unfold Vl.val)
    simp only at EA ⊢
    clear hev
    clear h hok
    go_enter Tryz.func25, Tryz.ntmps25
    go_wp2_with fail
    with_reducible refine Calls.mono (NA _) ?_
    rintro e w1 ⟨rfl, u1⟩
    have HU1 := hide (HU0.out.then u1 (fun _ _ => id))
    have HV1 := hide (u1.get HV0.out id)
    have HX1 := hide (u1.get HX0.out id)
    clear u1
    go_wp2_with fail
    with_reducible refine Calls.mono (EA _) ?_
    rintro e w9 ⟨rfl, u9⟩
    have HU9 := hide (HU1.out.then u9 (fun _ _ => id))
    have bV := u9.get HV1.out id
    obtain ⟨v0, v1, v2, v3, v4⟩ := cells5 bV
    have vl := lt_at bV
    have fv0 := free_at bV 0
    have fv1 := free_at bV 1
    have fv2 := free_at bV 2
    have fv3 := free_at bV 3
    have fv4 := free_at bV 4
    have HB := hide bV
    clear bV u9
    go_wp2_with fail
    (try simp only [Exit.inBlock, Exit.then])
    refine bodyPost_ret (ret_vl rfl _ _ (w.heap.size + 1) ⟨k0, n0, t0, b0, e0'⟩ rfl (block5 (x := vZero) HB.out _ _ _ _ _)) rfl ?_
    exact ⟨rfl, upd5 HU9.out (by omega) _ _ _ _ _⟩
theorem Pct_any (w : World) (x : Vl) (hx : x.ok) (htl : x.t.length ≤ 1000000) : Calls Tryz.prog 27 #[x.val] w fun e w' => e = .returned (pctV x).val ∧ Upd w w' (fun _ => False) := by
  have NA := fun w => numP_any w x hx htl
  have hok := numF_ok x
  unfold pctV
  obtain ⟨⟨n, f⟩, hp⟩ : ∃ r, numF x = r := ⟨_, rfl⟩
  rw [hp] at NA hok ⊢
  simp only at NA hok ⊢
  clear hp
  obtain ⟨xk, xn, xt, xb, xf⟩ := x
  unfold Vl.val at NA ⊢
  simp only at NA ⊢
  clear hx htl
  have HU0 : Hid (Upd w ((w.alloc (.cells #[.int .i64 xk, .int .i64 xn, enS xt, .bool xb, .int .i64 xf] 26)).alloc (.cells #[.int .i64 0, .int .i64 0, .string ⟨#[]⟩, .bool false, .int .i64 0] 26)) (fun _ => False)) := hide (((Upd.refl w _).alloc _).alloc _)
  have HX0 : Hid (((w.alloc (.cells #[.int .i64 xk, .int .i64 xn, enS xt, .bool xb, .int .i64 xf] 26)).alloc (.cells #[.int .i64 0, .int .i64 0, .string ⟨#[]⟩, .bool false, .int .i64 0] 26)).heap[w.heap.size]? = some (.cells #[.int .i64 xk, .int .i64 xn, enS xt, .bool xb, .int .i64 xf] 26 (0, 0))) := hide (block_alloc (Vnew1 w _) _)
  have HV0 : Hid (((w.alloc (.cells #[.int .i64 xk, .int .i64 xn, enS xt, .bool xb, .int .i64 xf] 26)).alloc (.cells #[.int .i64 0, .int .i64 0, .string ⟨#[]⟩, .bool false, .int .i64 0] 26)).heap[w.heap.size + 1]? = some (.cells #[.int .i64 0, .int .i64 0, .string ⟨#[]⟩, .bool false, .int .i64 0] 26 (0, 0))) := hide (Vnew2 w _ _)
  by_cases h : f = 0
  · subst h
    rw [if_pos rfl]
    have DA := (divB n 1000000).1
    obtain ⟨⟨p2, c2⟩, hd2⟩ : ∃ r, divF n 1000000 = r := ⟨_, rfl⟩
    rw [hd2] at DA ⊢
    simp only at DA
    have TO := fun w => nTold_any w p2 c2
    obtain ⟨⟨k0, n0, t0, b0, e0'⟩, hev⟩ : ∃ v, tldV (p2, c2) = v := ⟨_, rfl⟩
    rw [hev] at TO ⊢
    unfold Vl.val at TO
    (try unfold Vl.val)
    simp only at TO ⊢
    clear hev
    clear hok hd2
    go_enter Tryz.func27, Tryz.ntmps27
    go_wp2_with fail
    with_reducible refine Calls.mono (NA _) ?_
    rintro e w1 ⟨rfl, u1⟩
    have HU1 := hide (HU0.out.then u1 (fun _ _ => id))
    have HV1 := hide (u1.get HV0.out id)
    have HX1 := hide (u1.get HX0.out id)
    clear u1
    go_wp2_with fail
    with_reducible refine Calls.mono (DA _) ?_
    rintro e w2 ⟨rfl, u2⟩
    have HU2 := hide (HU1.out.then u2 (fun _ _ => id))
    have HV2 := hide (u2.get HV1.out id)
    have HX2 := hide (u2.get HX1.out id)
    clear u2
    go_wp2_with fail
    with_reducible refine Calls.mono (TO _) ?_
    rintro e w9 ⟨rfl, u9⟩
    have HU9 := hide (HU2.out.then u9 (fun _ _ => id))
    have bV := u9.get HV2.out id
    obtain ⟨v0, v1, v2, v3, v4⟩ := cells5 bV
    have vl := lt_at bV
    have fv0 := free_at bV 0
    have fv1 := free_at bV 1
    have fv2 := free_at bV 2
    have fv3 := free_at bV 3
    have fv4 := free_at bV 4
    have HB := hide bV
    clear bV u9
    go_wp2_with fail
    (try simp only [Exit.inBlock, Exit.then])
    refine bodyPost_ret (ret_vl rfl _ _ (w.heap.size + 1) ⟨k0, n0, t0, b0, e0'⟩ rfl (block5 (x := vZero) HB.out _ _ _ _ _)) rfl ?_
    exact ⟨rfl, upd5 HU9.out (by omega) _ _ _ _ _⟩
  · rw [if_neg h]
    have bf : (f != 0) = true := by simpa using h
    have EA := fun w => E_any w f
    obtain ⟨⟨k0, n0, t0, b0, e0'⟩, hev⟩ : ∃ v, mkE f = v := ⟨_, rfl⟩
    rw [hev] at EA ⊢
    unfold Vl.val at EA
    (try unfold Vl.val)
    simp only at EA ⊢
    clear hev
    clear h hok
    go_enter Tryz.func27, Tryz.ntmps27
    go_wp2_with fail
    with_reducible refine Calls.mono (NA _) ?_
    rintro e w1 ⟨rfl, u1⟩
    have HU1 := hide (HU0.out.then u1 (fun _ _ => id))
    have HV1 := hide (u1.get HV0.out id)
    have HX1 := hide (u1.get HX0.out id)
    clear u1
    go_wp2_with fail
    with_reducible refine Calls.mono (EA _) ?_
    rintro e w9 ⟨rfl, u9⟩
    have HU9 := hide (HU1.out.then u9 (fun _ _ => id))
    have bV := u9.get HV1.out id
    obtain ⟨v0, v1, v2, v3, v4⟩ := cells5 bV
    have vl := lt_at bV
    have fv0 := free_at bV 0
    have fv1 := free_at bV 1
    have fv2 := free_at bV 2
    have fv3 := free_at bV 3
    have fv4 := free_at bV 4
    have HB := hide bV
    clear bV u9
    go_wp2_with fail
    (try simp only [Exit.inBlock, Exit.then])
    refine bodyPost_ret (ret_vl rfl _ _ (w.heap.size + 1) ⟨k0, n0, t0, b0, e0'⟩ rfl (block5 (x := vZero) HB.out _ _ _ _ _)) rfl ?_
    exact ⟨rfl, upd5 HU9.out (by omega) _ _ _ _ _⟩
end Go.Proofs.YtmfngdjhkpddoaaGreatDoor
/- The walks of AsText, both sides. -/
set_option maxRecDepth 100000
namespace Go.Proofs.YtmfngdjhkpddoaaGreatDoor
open Go.RowKit Go.Lat Go.Lib

theorem soundV_idem (x : Vl) : soundV (soundV x) = soundV x := by
  unfold soundV
  by_cases h : goodV x = true
  · rw [if_pos h, if_pos h]
  · rw [if_neg h, if_pos (by decide)]
/-- A value as a text. -/
def asTextV (y : Vl) (tx : List UInt8) : List UInt8 × Int := if y.k = 4 then ([], y.f) else (showV y tx, 0)
set_option maxHeartbeats 1600000 in
theorem AsText_k4 (w : World) (x : Vl) (hx : x.ok) (n : Int) (t : List UInt8) (b : Bool) (f : Int) (h : soundV x = ⟨4, n, t, b, f⟩) :
    Calls Tryz.prog 76 #[x.val] w fun e w' => e = .returned (.tuple #[.string ⟨#[]⟩, .int .i64 f]) ∧ Upd w w' (fun _ => False) := by
  have SA := fun w => sound_any w x hx
  rw [h] at SA
  obtain ⟨k0, n0, t0, b0, e0⟩ := x
  unfold Vl.val at SA ⊢
  simp only at SA ⊢
  clear h
  go_enter Tryz.func76, Tryz.ntmps76
  go_wp2_with fail
  refine Calls.mono (SA _) ?_
  rintro e w1 ⟨rfl, u1⟩
  have bX := u1.get (Vnew1 w (.cells (Vl.mk k0 n0 t0 b0 e0).cs 26)) id
  obtain ⟨c0, c1, c2, c3, c4⟩ := cells5 bX
  have xl := lt_at bX
  have f0 := free_at bX 0
  have f1 := free_at bX 1
  have f2 := free_at bX 2
  have f3 := free_at bX 3
  have f4 := free_at bX 4
  have HX := hide bX
  have HU := hide (((Upd.refl w _).alloc _).then u1 (fun _ _ => id))
  clear bX u1 SA
  go_wp2_with fail
  have UU := hide (upd5 (W := w1) HU.out (g := w.heap.size) (Nat.le_refl _) (.int .i64 4) (.int .i64 n) (.string ⟨t.toArray⟩) (.bool b) (.int .i64 f))
  go_quiet (fail)
  go_wp2_with fail
  (try simp only [Exit.inBlock, Exit.then])
  go_ret2
  exact ⟨rfl, UU.out.drewN _⟩
set_option maxHeartbeats 1600000 in
theorem AsText_not (w : World) (hg : Sig w) (hp : Pow w) (x : Vl) (hx : x.ok) (k n : Int) (t : List UInt8) (b : Bool) (f : Int) (h : soundV x = ⟨k, n, t, b, f⟩) (z : List UInt8) (hk4 : (k == 4) = false) (SH : ∀ w, Sig w → Pow w → Calls Tryz.prog 127 #[(Vl.mk k n t b f).val] w fun e w' => e = .returned (enS z) ∧ Upd w w' (fun _ => False)) :
    Calls Tryz.prog 76 #[x.val] w fun e w' => e = .returned (.tuple #[enS z, .int .i64 0]) ∧ Upd w w' (fun _ => False) := by
  unfold Vl.val at SH
  simp only at SH
  have SA := fun w => sound_any w x hx
  rw [h] at SA
  obtain ⟨k0, n0, t0, b0, e0⟩ := x
  unfold Vl.val at SA ⊢
  simp only at SA ⊢
  clear h
  have HG := hide hg
  have HP := hide hp
  clear hg hp
  go_enter Tryz.func76, Tryz.ntmps76
  go_wp2_with fail
  refine Calls.mono (SA _) ?_
  rintro e w1 ⟨rfl, u1⟩
  have bX := u1.get (Vnew1 w (.cells (Vl.mk k0 n0 t0 b0 e0).cs 26)) id
  obtain ⟨c0, c1, c2, c3, c4⟩ := cells5 bX
  have xl := lt_at bX
  have f0 := free_at bX 0
  have f1 := free_at bX 1
  have f2 := free_at bX 2
  have f3 := free_at bX 3
  have f4 := free_at bX 4
  have HX := hide bX
  have HU := hide (((Upd.refl w _).alloc _).then u1 (fun _ _ => id))
  clear bX u1 SA
  go_wp2_with fail
  have UU := hide (upd5 (W := w1) HU.out (g := w.heap.size) (Nat.le_refl _) (.int .i64 k) (.int .i64 n) (.string ⟨t.toArray⟩) (.bool b) (.int .i64 f))
  have s1 := HG.out.upd UU.out id
  have s2 := HP.out.upd UU.out id
  refine Calls.mono (SH _ s1 s2) ?_
  rintro e w2 ⟨rfl, u2⟩
  clear s1 s2
  have HU2 := hide (UU.out.then u2 (fun _ _ => id))
  clear u2
  go_wp2_with fail
  (try simp only [Exit.inBlock, Exit.then])
  go_ret2
  exact ⟨rfl, HU2.out⟩
theorem AsText_any (w : World) (hg : Sig w) (hp : Pow w) (x : Vl) (hx : x.ok) (tx : List UInt8) (T1 : ∀ w, Pow w → Calls Tryz.prog 168 #[.int .i64 (soundV x).n] w fun e w' => e = .returned (enS tx) ∧ Upd w w' (fun _ => False)) :
    Calls Tryz.prog 76 #[x.val] w fun e w' => e = .returned (.tuple #[enS (asTextV (soundV x) tx).1, .int .i64 (asTextV (soundV x) tx).2]) ∧ Upd w w' (fun _ => False) := by
  have T2 := T1
  rw [← soundV_idem x] at T2
  have SH := fun w hg hp => Show_any w hg hp _ (soundV_ok hx) tx T2
  rw [soundV_idem] at SH
  obtain ⟨y, hy⟩ : ∃ y, soundV x = y := ⟨_, rfl⟩
  rw [hy] at SH ⊢
  clear T2
  obtain ⟨k, n, t, b, f⟩ := y
  unfold asTextV
  by_cases hk : k = 4
  · subst hk
    exact AsText_k4 w x hx n t b f hy
  · rw [if_neg (by simpa using hk)]
    exact AsText_not w hg hp x hx k n t b f hy _ (by simpa using hk) SH
set_option maxHeartbeats 1600000 in
theorem RAsText_k4 (w : World) (x : Vl) (n : Int) (t : List UInt8) (b : Bool) (f : Int) (h : soundV x = ⟨4, n, t, b, f⟩) :
    Calls Tryz.prog 45 #[x.val] w fun e w' => e = .returned (.tuple #[.string ⟨#[]⟩, .int .i64 f]) ∧ Upd w w' (fun _ => False) := by
  have SA := fun w => RSound_any w x
  rw [h] at SA
  obtain ⟨k0, n0, t0, b0, e0⟩ := x
  unfold Vl.val at SA ⊢
  simp only at SA ⊢
  clear h
  go_enter Tryz.func45, Tryz.ntmps45
  go_wp2_with fail
  refine Calls.mono (SA _) ?_
  rintro e w1 ⟨rfl, u1⟩
  have bX := u1.get (Vnew1 w (.cells (Vl.mk k0 n0 t0 b0 e0).cs 36)) id
  obtain ⟨c0, c1, c2, c3, c4⟩ := cells5 bX
  have xl := lt_at bX
  have f0 := free_at bX 0
  have f1 := free_at bX 1
  have f2 := free_at bX 2
  have f3 := free_at bX 3
  have f4 := free_at bX 4
  have HX := hide bX
  have HU := hide (((Upd.refl w _).alloc _).then u1 (fun _ _ => id))
  clear bX u1 SA
  go_wp2_with fail
  have UU := hide (upd5 (W := w1) HU.out (g := w.heap.size) (Nat.le_refl _) (.int .i64 4) (.int .i64 n) (.string ⟨t.toArray⟩) (.bool b) (.int .i64 f))
  go_quiet (fail)
  go_wp2_with fail
  (try simp only [Exit.inBlock, Exit.then])
  go_ret2
  exact ⟨rfl, UU.out.drewN _⟩
set_option maxHeartbeats 1600000 in
theorem RAsText_not (w : World) (x : Vl) (k n : Int) (t : List UInt8) (b : Bool) (f : Int) (h : soundV x = ⟨k, n, t, b, f⟩) (z : List UInt8) (hk4 : (k == 4) = false) (SH : ∀ w, Calls Tryz.prog 91 #[(Vl.mk k n t b f).val] w fun e w' => e = .returned (enS z) ∧ Upd w w' (fun _ => False)) :
    Calls Tryz.prog 45 #[x.val] w fun e w' => e = .returned (.tuple #[enS z, .int .i64 0]) ∧ Upd w w' (fun _ => False) := by
  unfold Vl.val at SH
  simp only at SH
  have SA := fun w => RSound_any w x
  rw [h] at SA
  obtain ⟨k0, n0, t0, b0, e0⟩ := x
  unfold Vl.val at SA ⊢
  simp only at SA ⊢
  clear h
  go_enter Tryz.func45, Tryz.ntmps45
  go_wp2_with fail
  refine Calls.mono (SA _) ?_
  rintro e w1 ⟨rfl, u1⟩
  have bX := u1.get (Vnew1 w (.cells (Vl.mk k0 n0 t0 b0 e0).cs 36)) id
  obtain ⟨c0, c1, c2, c3, c4⟩ := cells5 bX
  have xl := lt_at bX
  have f0 := free_at bX 0
  have f1 := free_at bX 1
  have f2 := free_at bX 2
  have f3 := free_at bX 3
  have f4 := free_at bX 4
  have HX := hide bX
  have HU := hide (((Upd.refl w _).alloc _).then u1 (fun _ _ => id))
  clear bX u1 SA
  go_wp2_with fail
  have UU := hide (upd5 (W := w1) HU.out (g := w.heap.size) (Nat.le_refl _) (.int .i64 k) (.int .i64 n) (.string ⟨t.toArray⟩) (.bool b) (.int .i64 f))
  refine Calls.mono (SH _) ?_
  rintro e w2 ⟨rfl, u2⟩
  have HU2 := hide (UU.out.then u2 (fun _ _ => id))
  clear u2
  go_wp2_with fail
  (try simp only [Exit.inBlock, Exit.then])
  go_ret2
  exact ⟨rfl, HU2.out⟩
theorem RAsText_any (w : World) (x : Vl) (tx : List UInt8) (T1 : ∀ w, Calls Tryz.prog 133 #[.int .i64 (soundV x).n] w fun e w' => e = .returned (enS tx) ∧ Upd w w' (fun _ => False)) :
    Calls Tryz.prog 45 #[x.val] w fun e w' => e = .returned (.tuple #[enS (asTextV (soundV x) tx).1, .int .i64 (asTextV (soundV x) tx).2]) ∧ Upd w w' (fun _ => False) := by
  have T2 := T1
  rw [← soundV_idem x] at T2
  have SH := fun w => RShow_any w _ tx T2
  rw [soundV_idem] at SH
  obtain ⟨y, hy⟩ : ∃ y, soundV x = y := ⟨_, rfl⟩
  rw [hy] at SH ⊢
  clear T2
  obtain ⟨k, n, t, b, f⟩ := y
  unfold asTextV
  by_cases hk : k = 4
  · subst hk
    exact RAsText_k4 w x n t b f hy
  · rw [if_neg (by simpa using hk)]
    exact RAsText_not w x k n t b f hy _ (by simpa using hk) SH
end Go.Proofs.YtmfngdjhkpddoaaGreatDoor
/- A value as a text and as a number: what both sides tell, as data; which errors they are. -/
set_option maxRecDepth 100000
namespace Go.Proofs.YtmfngdjhkpddoaaGreatDoor
open Go.RowKit Go.Lat Go.Lib

/-- The text of a number. -/
def txtF (a : Int) : List UInt8 := if okNum a = true then txt (decide (a < 0)) a.natAbs else []
theorem txtF_both (a : Int) :
    (∀ w, Pow w → Calls Tryz.prog 168 #[.int .i64 a] w fun e w' => e = .returned (enS (txtF a)) ∧ Upd w w' (fun _ => False)) ∧
    (∀ w, Calls Tryz.prog 133 #[.int .i64 a] w fun e w' => e = .returned (enS (txtF a)) ∧ Upd w w' (fun _ => False)) := by
  unfold txtF
  cases h : okNum a with
  | false => exact ⟨fun w _ => Text_bad w a h, fun w => RefText_bad w a h⟩
  | true =>
    have ba := okNum_true h
    simp only [if_true]
    obtain ⟨s, x, ea, h0, hs, hx⟩ := signed a
    have hx9 : x ≤ 9000000000000000000 := by omega
    rw [hs, ← hx]
    refine ⟨fun w ht => ?_, fun w => ?_⟩
    · have := Text_any s x hx9 h0 w ht
      rw [← ea] at this
      exact this
    · have key : Calls Tryz.prog 133 #[.int .i64 a] w fun e w' => (∃ t : ByteArray, e = .returned (.string t) ∧ t.data.toList = txt s x) ∧ Upd w w' (fun _ => False) := by
        cases hsb : s with
        | true =>
          rw [← hsb]
          exact RefText_neg w a h s hsb x ea hs hx9
        | false =>
          rw [← hsb]
          exact RefText_pos w a h s hsb x ea hs hx9
      refine Calls.mono key ?_
      rintro e w' ⟨⟨t, rfl, et⟩, u⟩
      have eb : enS t.data.toList = .string t := by
        show Value.string ⟨t.data.toList.toArray⟩ = .string t
        simp
      exact ⟨by rw [← et, eb], u⟩
theorem txtF_len (a : Int) : (txtF a).length ≤ 1000 := by
  unfold txtF
  cases h : okNum a with
  | false => simp
  | true =>
    have ba := okNum_true h
    simp only [if_true]
    obtain ⟨x, hx⟩ : ∃ x, a.natAbs = x := ⟨_, rfl⟩
    rw [hx]
    have h1 := (dec_len 17 (x / 10000) (by omega)).2
    have h2 := (dec_len 17 (10000 + x % 10000) (by omega)).2
    unfold txt
    have hs : (if decide (a < 0) = true then ([45] : List UInt8) else []).length ≤ 1 := by cases decide (a < 0) <;> decide
    by_cases hr : x % 10000 = 0
    · rw [if_pos hr]
      simp only [List.length_append, List.length_nil]
      omega
    · rw [if_neg hr]
      have h3 := trimRight_le ((decDigits (10000 + x % 10000)).drop 1) 48
      rw [List.length_drop] at h3
      simp only [List.length_append, List.length_cons]
      omega
/-- A value as a text, and the error. -/
def textF (x : Vl) : List UInt8 × Int := asTextV (soundV x) (txtF (soundV x).n)
theorem textP_any (w : World) (hg : Sig w) (hp : Pow w) (x : Vl) (hx : x.ok) :
    Calls Tryz.prog 76 #[x.val] w fun e w' => e = .returned (.tuple #[enS (textF x).1, .int .i64 (textF x).2]) ∧ Upd w w' (fun _ => False) :=
  AsText_any w hg hp x hx _ (txtF_both (soundV x).n).1
theorem textR_any (w : World) (x : Vl) :
    Calls Tryz.prog 45 #[x.val] w fun e w' => e = .returned (.tuple #[enS (textF x).1, .int .i64 (textF x).2]) ∧ Upd w w' (fun _ => False) :=
  RAsText_any w x _ (txtF_both (soundV x).n).2
theorem signT_len (f : Int) : (signT f).length ≤ 10 := by
  unfold signT
  split
  · rename_i h
    simp [okFail] at h
    have : f = 1 ∨ f = 2 ∨ f = 3 ∨ f = 4 ∨ f = 5 ∨ f = 6 ∨ f = 7 ∨ f = 8 := by omega
    rcases this with rfl | rfl | rfl | rfl | rfl | rfl | rfl | rfl <;> decide
  · simp
theorem textF_len (x : Vl) : (textF x).1.length ≤ 1000 := by
  unfold textF asTextV showV
  have h1 := soundV_t255 x
  have h2 := txtF_len (soundV x).n
  have h3 := signT_len (soundV x).f
  repeat' split
  all_goals first | (simp only [List.length_nil]; omega) | omega | (simp only []; omega) | decide
theorem f_ok (f : Int) : okFail (mkE f).f = true := by
  unfold mkE
  simp only
  split
  · assumption
  · decide
theorem sound_fok (x : Vl) (h4 : (soundV x).k = 4) : okFail (soundV x).f = true := by
  unfold soundV at h4 ⊢
  split
  · rename_i h
    rw [if_pos h] at h4
    unfold goodV at h
    rw [if_neg (by omega), if_neg (by omega), if_neg (by omega), if_neg (by omega), if_pos h4, eqV_iff] at h
    have e := congrArg Vl.f h
    rw [e]
    exact f_ok _
  · exact f_ok 3
theorem textF_fok (x : Vl) : (textF x).2 = 0 ∨ okFail (textF x).2 = true := by
  unfold textF asTextV
  split
  · rename_i h
    exact .inr (sound_fok x h)
  · exact .inl rfl
theorem numF_fok (x : Vl) : (numF x).2 = 0 ∨ okFail (numF x).2 = true := by
  unfold numF asNumV
  split
  · exact .inl rfl
  · split
    · exact .inl rfl
    · split
      · split
        · exact .inl rfl
        · exact .inr rfl
      · split
        · exact .inl rfl
        · rename_i h0 h1 h2 h3
          have hk := soundV_kind x
          exact .inr (sound_fok x (by omega))
end Go.Proofs.YtmfngdjhkpddoaaGreatDoor
/- Rows of values, and results in cells, at any seat (plain). -/
set_option maxRecDepth 100000
namespace Go.Lat
open Go.RowKit
theorem results_cc_row {P : Program} {fn : Func} {p q : Tmp} {ty uy : TypeId} (h : fn.results = #[.cell p ty, .cell q uy]) (tmps : Array Value) (w : World) (g g2 : Nat) (t t2 : TypeId) (cs cs2 : Array Value) (fr fr2 : Nat × Nat) (d d2 : TypeDesc)
    (hp : tmps.getD p undef = .pointer (some ⟨g, 0, none⟩)) (hq : tmps.getD q undef = .pointer (some ⟨g2, 0, none⟩)) (hg : w.heap[g]? = some (.cells cs t fr)) (hg2 : w.heap[g2]? = some (.cells cs2 t2 fr2))
    (hu : P.underlying ty = some d) (hd : (match d with | .struct _ | .array _ _ => true | _ => false) = true) (hi : (P.info? ty).map (·.size) = some cs.size)
    (hu2 : P.underlying uy = some d2) (hd2 : (match d2 with | .struct _ | .array _ _ => true | _ => false) = true) (hi2 : (P.info? uy).map (·.size) = some cs2.size) :
    (results fn tmps).run P w = .ok (.tuple #[.agg cs, .agg cs2]) w := by
  have hp' : tmps[p]?.getD undef = .pointer (some ⟨g, 0, none⟩) := by simpa using hp
  have hq' : tmps[q]?.getD undef = .pointer (some ⟨g2, 0, none⟩) := by simpa using hq
  simp [results, h, hp', hq', asAddr, run_loadVar_row w g t ty cs fr d hg hu hd hi, run_loadVar_row w g2 t2 uy cs2 fr2 d2 hg2 hu2 hd2 hi2, Result.andThen]
/-- Slices of different types share no block. -/
theorem Rw.apart {w : World} {e e2 size size2 : Nat} {v v2 : Value} {n n2 : Nat} {xs ys : List Value} (h : Rw w e size v n xs) (h2 : Rw w e2 size2 v2 n2 ys) (hne : e ≠ e2) : v.ownBlock = none ∨ v.ownBlock ≠ v2.ownBlock := by
  rcases h.2 with ⟨rfl, _⟩ | ⟨g, off, cap, cur, rfl, hg, _⟩
  · exact .inl rfl
  · rcases h2.2 with ⟨rfl, _⟩ | ⟨g2, off2, cap2, cur2, rfl, hg2, _⟩
    · exact .inr (by simp [Value.ownBlock])
    · refine .inr fun he => ?_
      have e1 : g = g2 := by simpa [Value.ownBlock] using he
      subst e1
      rw [hg] at hg2
      cases hg2
      exact hne rfl
theorem own_ge {w W : World} {S : Nat → Prop} {v v' : Value} (h : ∀ j, v.ownBlock = some j → w.heap.size ≤ j) (h2 : v'.ownBlock = v.ownBlock ∨ v'.ownBlock = some W.heap.size) (u : Upd w W S) : ∀ j, v'.ownBlock = some j → w.heap.size ≤ j := by
  intro j hj
  rcases h2 with e | e
  · exact h j (e.symm.trans hj)
  · have := Option.some.inj (e.symm.trans hj)
    have := u.size
    omega
end Go.Lat
namespace Go.Proofs.YtmfngdjhkpddoaaGreatDoor
open Go.RowKit Go.Lat Go.Lib

theorem rdV_at {w : World} {va : Option Addr} {l : List Vl} (h : RdV w va l) {j : Nat} {x : Vl} (hx : l[j]? = some x) :
    ∃ g off, va = some ⟨g, off, none⟩ ∧ g < w.heap.size ∧ w.cell? ⟨g, off + j * 5, none⟩ = some (.int .i64 x.k) ∧ w.cell? ⟨g, off + j * 5 + 1, none⟩ = some (.int .i64 x.n) ∧ w.cell? ⟨g, off + j * 5 + 2, none⟩ = some (enS x.t) ∧ w.cell? ⟨g, off + j * 5 + 3, none⟩ = some (.bool x.b) ∧ w.cell? ⟨g, off + j * 5 + 4, none⟩ = some (.int .i64 x.f) := h j x hx
def Vl.cells (x : Vl) : List Value := [.int .i64 x.k, .int .i64 x.n, enS x.t, .bool x.b, .int .i64 x.f]
def vlCells (l : List Vl) : List Value := l.flatMap Vl.cells
theorem vlCells_len (a : List Vl) : (vlCells a).length = a.length * 5 := by
  induction a with
  | nil => rfl
  | cons x l ih => simp [vlCells, Vl.cells] at *; omega
theorem vlCells_get (l : List Vl) (j : Nat) (x : Vl) (h : l[j]? = some x) (t : Nat) (ht : t < 5) : (vlCells l)[j * 5 + t]? = x.cells[t]? := by
  induction l generalizing j with
  | nil => simp at h
  | cons y l ih =>
    have e1 : vlCells (y :: l) = y.cells ++ vlCells l := by simp [vlCells]
    have e2 : y.cells.length = 5 := rfl
    cases j with
    | zero =>
      simp at h; subst h
      rw [e1, Nat.zero_mul, Nat.zero_add, List.getElem?_append_left (by omega)]
    | succ j =>
      rw [e1, List.getElem?_append_right (by omega)]
      have := ih j (by simpa using h)
      rw [← this]
      congr 1
      omega
theorem rdV_of_rw {w : World} {T : TypeId} {a : Option Addr} {c : Nat} {l : List Vl} (h : Rw w T 5 (.slice a l.length c) l.length (vlCells l)) : RdV w a l := fun i x hx => by
  have hi := (List.getElem?_eq_some_iff.1 hx).1
  obtain ⟨g, off, cap, hv, hg, hc⟩ := Rw.pos h (by omega)
  simp at hv
  have k := fun t ht => vlCells_get l i x hx t ht
  exact ⟨g, off, hv.1, hg, by simpa using hc _ _ (k 0 (by omega)), hc _ _ (k 1 (by omega)), hc _ _ (k 2 (by omega)), hc _ _ (k 3 (by omega)), hc _ _ (k 4 (by omega))⟩
theorem info_p {P : Program} {t : TypeId} {z : Option Value} {s b : Nat} (h : (P.info? t).map (fun i => (i.zero, i.size, i.bytes)) = some (z, s, b)) : ∃ i, P.info? t = some i ∧ i.zero = z ∧ i.size = s ∧ i.bytes = b := by
  cases hi : P.info? t with
  | none => rw [hi] at h; simp at h
  | some i =>
    rw [hi] at h
    simp at h
    exact ⟨i, rfl, h.1, h.2.1, h.2.2⟩
theorem results_ct_row {P : Program} {fn : Func} {p q : Tmp} {ty : TypeId} (h : fn.results = #[.cell p ty, .tmp q]) (tmps : Array Value) (w : World) (g : Nat) (t : TypeId) (cs : Array Value) (fr : Nat × Nat) (d : TypeDesc)
    (hp : tmps.getD p undef = .pointer (some ⟨g, 0, none⟩)) (hg : w.heap[g]? = some (.cells cs t fr))
    (hu : P.underlying ty = some d) (hd : (match d with | .struct _ | .array _ _ => true | _ => false) = true) (hi : (P.info? ty).map (·.size) = some cs.size) :
    (results fn tmps).run P w = .ok (.tuple #[.agg cs, tmps.getD q undef]) w := by
  have hp' : tmps[p]?.getD undef = .pointer (some ⟨g, 0, none⟩) := by simpa using hp
  simp [results, h, hp', asAddr, run_loadVar_row w g t ty cs fr d hg hu hd hi, Result.andThen]
theorem ret_vlb {fn : Func} {p q : Tmp} (h : fn.results = #[.cell p 26, .tmp q]) (tmps : Array Value) (W : World) (g : Nat) (x : Vl) (hp : tmps.getD p undef = .pointer (some ⟨g, 0, none⟩)) (hg : W.heap[g]? = some (.cells x.cs 26 (0, 0))) :
    (results fn tmps).run Tryz.prog W = .ok (.tuple #[x.val, tmps.getD q undef]) W :=
  results_ct_row h tmps W g 26 x.cs (0, 0) _ hp hg Tryz.underlying26 rfl Tryz.infoV
theorem ret_rvb {fn : Func} {p q : Tmp} (h : fn.results = #[.cell p 36, .tmp q]) (tmps : Array Value) (W : World) (g : Nat) (x : Vl) (hp : tmps.getD p undef = .pointer (some ⟨g, 0, none⟩)) (hg : W.heap[g]? = some (.cells x.cs 36 (0, 0))) :
    (results fn tmps).run Tryz.prog W = .ok (.tuple #[x.val, tmps.getD q undef]) W :=
  results_ct_row h tmps W g 36 x.cs (0, 0) _ hp hg Tryz.underlying36 rfl Tryz.infoR
end Go.Proofs.YtmfngdjhkpddoaaGreatDoor
