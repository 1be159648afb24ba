/- The walks of the reference's told: MATCH, LOOKUP. -/
import Derived.Test.YtdjpkkgcoainhaaGreatDoorJ24
import Derived.Test.YtdjpkkgcoainhaaGreatDoorJ19
import Derived.Test.YtdjpkkgcoainhaaGreatDoorJ25
/- The walks of the reference's told: MATCH, LOOKUP. -/
set_option maxRecDepth 100000
namespace Go.Proofs.YtdjpkkgcoainhaaGreatDoor
open Go.RowKit Go.Lat Go.Lib

set_option maxHeartbeats 6400000 in
theorem Rtold_MATCH (w : World) (p : Option Addr) (pc : Nat) (aa : List Ar) (hr : RdA w p aa) (A : ArgsOk aa) (hcnt : 2 ≤ aa.length) :
    Calls Tryz.prog 39 #[enS nMATCH, .slice p aa.length pc] w fun e w' => e = .returned (toldR nMATCH aa).val ∧ Upd w w' (fun _ => False) := by
  obtain ⟨a, ha⟩ : ∃ a, aa[0]? = some a := ⟨_, List.getElem?_eq_getElem (by omega)⟩
  have hga := A.good a (List.mem_of_getElem? ha)
  have hoa := A.oks a (List.mem_of_getElem? ha)
  have hl9 := A.len
  obtain ⟨g, off, va, vc, rfl, hg, d0, d1, d2, hv⟩ := arg0 hr ha
  have SZ := fun w => Rsize_any w a va vc hga
  obtain ⟨R, C, hR, hC, hRC, hR1, hC1, hl, hR4, hC4⟩ := dims_le hga
  rw [hR, hC] at SZ
  have b0 : (nMATCH == [82, 79, 87, 83]) = false := by decide
  have b1 : (nMATCH == [67, 79, 76, 85, 77, 78, 83]) = false := by decide
  have b2 : (nMATCH == [77, 65, 84, 67, 72]) = true := by decide
  have b3 : (nMATCH == [73, 78, 68, 69, 88]) = false := by decide
  have b4 : (nMATCH == [76, 79, 79, 75, 85, 80]) = false := by decide
  have b5 : (nMATCH == [86, 76, 79, 79, 75, 85, 80]) = false := by decide
  have b6 : (nMATCH == [72, 76, 79, 79, 75, 85, 80]) = false := by decide
  have b7 : (nMATCH == [67, 72, 79, 79, 83, 69]) = false := by decide
  have HU0 : Hid (Upd w (w.alloc (.cells #[.int .i64 0, .int .i64 0, .string ⟨#[]⟩, .bool false, .int .i64 0] 30)) (fun _ => False)) := hide ((Upd.refl w _).alloc _)
  have HV0 := hide (Vnew1 w (.cells #[.int .i64 0, .int .i64 0, .string ⟨#[]⟩, .bool false, .int .i64 0] 30))
  have HRA := hide hr
  have hA0 := argA_at ha
  have hq0 : (0 : Int) < (aa.length : Int) := by omega
  have HD : Hid (w.cell? ⟨g, off, none⟩ = some (.slice va a.v.length vc) ∧ w.cell? ⟨g, off + 1, none⟩ = some (.int .i64 a.c) ∧ w.cell? ⟨g, off + 2, none⟩ = some (.bool a.w)) := hide ⟨d0, d1, d2⟩
  obtain ⟨NM, hNM⟩ : ∃ z, nMATCH = z := ⟨_, rfl⟩
  obtain ⟨b, hb⟩ : ∃ a, aa[1]? = some a := ⟨_, List.getElem?_eq_getElem (by omega)⟩
  have hgb := A.good b (List.mem_of_getElem? hb)
  have hob := A.oks b (List.mem_of_getElem? hb)
  have hB1 := argA_at hb
  obtain ⟨vb, vbc, f0, f1, f2, hvb⟩ := arg1 hr hb
  have bHD : Hid (w.cell? ⟨g, off + 3, none⟩ = some (.slice vb b.v.length vbc) ∧ w.cell? ⟨g, off + 4, none⟩ = some (.int .i64 b.c) ∧ w.cell? ⟨g, off + 5, none⟩ = some (.bool b.w)) := hide ⟨f0, f1, f2⟩
  have HVB := hide hvb
  have hq1 : (1 : Int) < (aa.length : Int) := by omega
  obtain ⟨gv, ov, x, hx, rfl, hgv, x0, x1, x2, x3, x4, hlen⟩ := head_at hv hga
  have HX : Hid (w.cell? ⟨gv, ov, none⟩ = some (.int .i64 x.k) ∧ w.cell? ⟨gv, ov + 1, none⟩ = some (.int .i64 x.n) ∧ w.cell? ⟨gv, ov + 2, none⟩ = some (enS x.t) ∧ w.cell? ⟨gv, ov + 3, none⟩ = some (.bool x.b) ∧ w.cell? ⟨gv, ov + 4, none⟩ = some (.int .i64 x.f)) := hide ⟨x0, x1, x2, x3, x4⟩
  have hl0 : (0 : Int) < (a.v.length : Int) := by omega
  have hxo := hx ▸ head_ok hoa.1
  clear f0 f1 f2 x0 x1 x2 x3 x4 hvb
  have W2 := fun W h => Rwhole_any W (some ⟨g, off, none⟩) pc aa 2 0 h A
  obtain ⟨m, hm⟩ : ∃ z, wholeA aa 2 0 = z := ⟨_, rfl⟩
  rw [hm] at W2
  have SG := fun W => Rsign_any W m
  obtain ⟨m2, hm2⟩ : ∃ z, wayI m = z := ⟨_, rfl⟩
  rw [hm2] at SG
  have PL := fun W h => RPlace_any W x b.v vb vbc m2 hxo.2 hob.1 hob.2.1 h
  obtain ⟨N, hN⟩ : ∃ N, placeV m2 x b.v = N := ⟨_, rfl⟩
  rw [hN] at PL
  have hNl : N ≤ b.v.length := hN ▸ placeV_le _ _ _
  have hNl2 : (N : Int) ≤ 1000000 := by have := hob.2.1; omega
  obtain ⟨⟨k0, n0, t0, b0', e0'⟩, hres⟩ : ∃ v, (if N = 0 then mkE 6 else mkN (10000 * (N : Int))) = v := ⟨_, rfl⟩
  have et : toldR nMATCH aa = ⟨k0, n0, t0, b0', e0'⟩ := by
    rw [told_match, hA0, hB1, hm, hm2, hx, hN]
    exact hres
  rw [et]
  unfold Vl.val
  simp only
  have HRES := hide hres
  have NX := fun w => RN_any w (10000 * (N : Int))
  obtain ⟨M, hM⟩ : ∃ M, 10000 * (N : Int) = M := ⟨_, rfl⟩
  have wM : IntKind.i64.wrap (10000 * (N : Int)) = M := by rw [hM]; exact IntWalk.i64_in _ (by omega)
  rw [hM] at NX
  have HM := hide hM
  rw [hNM] at b0 b1 b2 b3 b4 b5 b6 b7 ⊢
  obtain ⟨xk, xn, xt, xb, xf⟩ := x
  obtain ⟨bv, bc, bw⟩ := b
  unfold Vl.val at PL
  simp only at PL HX bHD HVB hNl
  have HPL := hide PL
  clear hM et hA0 hB1 hRC hNM hR hC ha hb hga hgb hoa hob hv hr A hx hm hm2 hN hres hxo PL hNl hNl2
  obtain ⟨v, c, wd⟩ := a
  simp only at SZ HD hl0 ⊢
  obtain ⟨L, hL⟩ : ∃ n, aa.length = n := ⟨_, rfl⟩
  rw [hL] at W2 hq0 hq1 hcnt hl9 ⊢
  obtain ⟨LV, hLV⟩ : ∃ n, v.length = n := ⟨_, rfl⟩
  rw [hLV] at SZ HD hl0
  obtain ⟨LB, hLB⟩ : ∃ n, bv.length = n := ⟨_, rfl⟩
  rw [hLB] at HPL bHD
  have hn0 : 0 < L := by omega
  have hn1 : 0 < LV := by omega
  clear hL hLV hLB
  have e0 := (HU0.out.cell g _ hg id).trans HD.out.1
  have e1 := (HU0.out.cell g _ hg id).trans HD.out.2.1
  have e2 := (HU0.out.cell g _ hg id).trans HD.out.2.2
  have gl0 := Nat.lt_of_lt_of_le hg HU0.out.size
  clear d0 d1 d2
  go_enter Tryz.func39, Tryz.ntmps39
  go_wp2_with fail
  refine Calls.mono (SZ _) ?_
  rintro e w1 ⟨rfl, u1⟩
  have HU1 := hide (HU0.out.then u1 (fun _ _ => id))
  have HV1 := hide (u1.get HV0.out id)
  clear u1 SZ
  clear e0 e1 e2 gl0
  go_wp2_with fail
  refine Calls.mono (W2 _ (HRA.out.upd HU1.out)) ?_
  rintro e w2 ⟨rfl, u2⟩
  have HU2 := hide (HU1.out.then u2 (fun _ _ => id))
  have HV2 := hide (u2.get HV1.out id)
  clear u2 W2
  go_wp2_with fail
  refine Calls.mono (SG _) ?_
  rintro e w5 ⟨rfl, hw⟩
  obtain rfl := hw.symm
  clear hw SG
  have e0 := (HU2.out.cell g _ hg id).trans HD.out.1
  have e1 := (HU2.out.cell g _ hg id).trans HD.out.2.1
  have e2 := (HU2.out.cell g _ hg id).trans HD.out.2.2
  have gl0 := Nat.lt_of_lt_of_le hg HU2.out.size
  have be0 := (HU2.out.cell g _ hg id).trans bHD.out.1
  have be1 := (HU2.out.cell g _ hg id).trans bHD.out.2.1
  have be2 := (HU2.out.cell g _ hg id).trans bHD.out.2.2
  have x0 := (HU2.out.cell gv _ hgv id).trans HX.out.1
  have x1 := (HU2.out.cell gv _ hgv id).trans HX.out.2.1
  have x2 := (HU2.out.cell gv _ hgv id).trans HX.out.2.2.1
  have x3 := (HU2.out.cell gv _ hgv id).trans HX.out.2.2.2.1
  have x4 := (HU2.out.cell gv _ hgv id).trans HX.out.2.2.2.2
  have glv := Nat.lt_of_lt_of_le hgv HU2.out.size
  go_wp2_with fail
  go_region_held3 (fun w' => w'.cell? ⟨g, off, none⟩ = some (.slice (some ⟨gv, ov, none⟩) LV vc) ∧ w'.cell? ⟨g, off + 3, none⟩ = some (.slice vb LB vbc) ∧ w'.cell? ⟨gv, ov, none⟩ = some (.int .i64 xk) ∧ w'.cell? ⟨gv, ov + 1, none⟩ = some (.int .i64 xn) ∧ w'.cell? ⟨gv, ov + 2, none⟩ = some (enS xt) ∧ w'.cell? ⟨gv, ov + 3, none⟩ = some (.bool xb) ∧ w'.cell? ⟨gv, ov + 4, none⟩ = some (.int .i64 xf))
    (first | (go_keep; done) | exact ⟨e0, be0, x0, x1, x2, x3, x4⟩ | (exact ⟨(u9.cell g _ gl0 id).trans e0, (u9.cell g _ gl0 id).trans be0, (u9.cell gv _ glv id).trans x0, (u9.cell gv _ glv id).trans x1, (u9.cell gv _ glv id).trans x2, (u9.cell gv _ glv id).trans x3, (u9.cell gv _ glv id).trans x4⟩))
    (first | (go_at_call 11; refine Calls.mono (HPL.out _ (HVB.out.upd HU2.out).drew) ?_; rintro e w9 ⟨rfl, u9⟩))
  have HU9 := hide (HU2.out.drew.then u9 (fun _ _ => id))
  have HV9 := hide (u9.get HV2.out id)
  clear u9 x0 x1 x2 x3 x4 glv
  clear e0 e1 e2 be0 be1 be2 gl0
  by_cases hN0 : N = 0
  · have bN : ((N : Int) == 0) = true := by simp; omega
    have hev : mkE 6 = ⟨k0, n0, t0, b0', e0'⟩ := by have := HRES.out; rwa [if_pos hN0] at this
    have EA := fun w => RE12_any w 6
    rw [rawE_ok (by decide), hev] at EA
    unfold Vl.val at EA
    simp only at EA
    clear hev
    go_wp2_with fail
    refine Calls.mono (EA _) ?_
    rintro e w10 ⟨rfl, u10⟩
    have HU10 := hide (HU9.out.then u10 (fun _ _ => id))
    have bV := u10.get HV9.out id
    obtain ⟨v0, v1, v2, v3, v4⟩ := cells5 bV
    have vl := lt_at bV
    have fv0 := free_at bV 0
    have fv1 := free_at bV 1
    have fv2 := free_at bV 2
    have fv3 := free_at bV 3
    have fv4 := free_at bV 4
    have HB := hide bV
    clear bV u10 EA
    go_wp2_with fail
    (try simp only [Exit.inBlock, Exit.then])
    refine bodyPost_ret (ret_rv rfl _ _ w.heap.size ⟨k0, n0, t0, b0', e0'⟩ rfl (rblock5 (x := vZero) HB.out _ _ _ _ _)) rfl ?_
    exact ⟨rfl, upd5 HU10.out (Nat.le_refl _) _ _ _ _ _⟩
  · have bN : ((N : Int) == 0) = false := by simp; omega
    have hev : mkN M = ⟨k0, n0, t0, b0', e0'⟩ := by have := HRES.out; rwa [if_neg hN0, HM.out] at this
    rw [hev] at NX
    unfold Vl.val at NX
    simp only at NX
    clear hev
    go_wp2_with fail
    refine Calls.mono (NX _) ?_
    rintro e w10 ⟨rfl, u10⟩
    have HU10 := hide (HU9.out.then u10 (fun _ _ => id))
    have bV := u10.get HV9.out id
    obtain ⟨v0, v1, v2, v3, v4⟩ := cells5 bV
    have vl := lt_at bV
    have fv0 := free_at bV 0
    have fv1 := free_at bV 1
    have fv2 := free_at bV 2
    have fv3 := free_at bV 3
    have fv4 := free_at bV 4
    have HB := hide bV
    clear bV u10 NX
    go_wp2_with fail
    (try simp only [Exit.inBlock, Exit.then])
    refine bodyPost_ret (ret_rv rfl _ _ w.heap.size ⟨k0, n0, t0, b0', e0'⟩ rfl (rblock5 (x := vZero) HB.out _ _ _ _ _)) rfl ?_
    exact ⟨rfl, upd5 HU10.out (Nat.le_refl _) _ _ _ _ _⟩
end Go.Proofs.YtdjpkkgcoainhaaGreatDoor
/- The walks of the reference's told: LOOKUP. -/
set_option maxRecDepth 100000
namespace Go.Proofs.YtdjpkkgcoainhaaGreatDoor
open Go.RowKit Go.Lat Go.Lib

set_option maxHeartbeats 6400000 in
theorem Rtold_LOOKUP (w : World) (p : Option Addr) (pc : Nat) (aa : List Ar) (hr : RdA w p aa) (A : ArgsOk aa) (hcnt : 3 ≤ aa.length) :
    Calls Tryz.prog 39 #[enS nLOOKUP, .slice p aa.length pc] w fun e w' => e = .returned (toldR nLOOKUP aa).val ∧ Upd w w' (fun _ => False) := by
  obtain ⟨a, ha⟩ : ∃ a, aa[0]? = some a := ⟨_, List.getElem?_eq_getElem (by omega)⟩
  have hga := A.good a (List.mem_of_getElem? ha)
  have hoa := A.oks a (List.mem_of_getElem? ha)
  have hl9 := A.len
  obtain ⟨g, off, va, vc, rfl, hg, d0, d1, d2, hv⟩ := arg0 hr ha
  have SZ := fun w => Rsize_any w a va vc hga
  obtain ⟨R, C, hR, hC, hRC, hR1, hC1, hl, hR4, hC4⟩ := dims_le hga
  rw [hR, hC] at SZ
  have b0 : (nLOOKUP == [82, 79, 87, 83]) = false := by decide
  have b1 : (nLOOKUP == [67, 79, 76, 85, 77, 78, 83]) = false := by decide
  have b2 : (nLOOKUP == [77, 65, 84, 67, 72]) = false := by decide
  have b3 : (nLOOKUP == [73, 78, 68, 69, 88]) = false := by decide
  have b4 : (nLOOKUP == [76, 79, 79, 75, 85, 80]) = true := by decide
  have b5 : (nLOOKUP == [86, 76, 79, 79, 75, 85, 80]) = false := by decide
  have b6 : (nLOOKUP == [72, 76, 79, 79, 75, 85, 80]) = false := by decide
  have b7 : (nLOOKUP == [67, 72, 79, 79, 83, 69]) = false := by decide
  have HU0 : Hid (Upd w (w.alloc (.cells #[.int .i64 0, .int .i64 0, .string ⟨#[]⟩, .bool false, .int .i64 0] 30)) (fun _ => False)) := hide ((Upd.refl w _).alloc _)
  have HV0 := hide (Vnew1 w (.cells #[.int .i64 0, .int .i64 0, .string ⟨#[]⟩, .bool false, .int .i64 0] 30))
  have HRA := hide hr
  have hA0 := argA_at ha
  have hq0 : (0 : Int) < (aa.length : Int) := by omega
  have HD : Hid (w.cell? ⟨g, off, none⟩ = some (.slice va a.v.length vc) ∧ w.cell? ⟨g, off + 1, none⟩ = some (.int .i64 a.c) ∧ w.cell? ⟨g, off + 2, none⟩ = some (.bool a.w)) := hide ⟨d0, d1, d2⟩
  obtain ⟨NM, hNM⟩ : ∃ z, nLOOKUP = z := ⟨_, rfl⟩
  obtain ⟨b, hb⟩ : ∃ a, aa[1]? = some a := ⟨_, List.getElem?_eq_getElem (by omega)⟩
  have hgb := A.good b (List.mem_of_getElem? hb)
  have hob := A.oks b (List.mem_of_getElem? hb)
  have hB1 := argA_at hb
  obtain ⟨vb, vbc, f0, f1, f2, hvb⟩ := arg1 hr hb
  have bHD : Hid (w.cell? ⟨g, off + 3, none⟩ = some (.slice vb b.v.length vbc) ∧ w.cell? ⟨g, off + 4, none⟩ = some (.int .i64 b.c) ∧ w.cell? ⟨g, off + 5, none⟩ = some (.bool b.w)) := hide ⟨f0, f1, f2⟩
  have HVB := hide hvb
  have hq1 : (1 : Int) < (aa.length : Int) := by omega
  obtain ⟨gv, ov, x, hx, rfl, hgv, x0, x1, x2, x3, x4, hlen⟩ := head_at hv hga
  have HX : Hid (w.cell? ⟨gv, ov, none⟩ = some (.int .i64 x.k) ∧ w.cell? ⟨gv, ov + 1, none⟩ = some (.int .i64 x.n) ∧ w.cell? ⟨gv, ov + 2, none⟩ = some (enS x.t) ∧ w.cell? ⟨gv, ov + 3, none⟩ = some (.bool x.b) ∧ w.cell? ⟨gv, ov + 4, none⟩ = some (.int .i64 x.f)) := hide ⟨x0, x1, x2, x3, x4⟩
  have hl0 : (0 : Int) < (a.v.length : Int) := by omega
  have hxo := hx ▸ head_ok hoa.1
  clear f0 f1 f2 x0 x1 x2 x3 x4 hvb
  obtain ⟨c', hc⟩ : ∃ a, aa[2]? = some a := ⟨_, List.getElem?_eq_getElem (by omega)⟩
  have hgc := A.good c' (List.mem_of_getElem? hc)
  have hoc := A.oks c' (List.mem_of_getElem? hc)
  have hC2 := argA_at hc
  obtain ⟨vd, vdc, f0, f1, f2, hvd⟩ := arg2 hr hc
  have cHD : Hid (w.cell? ⟨g, off + 6, none⟩ = some (.slice vd c'.v.length vdc) ∧ w.cell? ⟨g, off + 7, none⟩ = some (.int .i64 c'.c) ∧ w.cell? ⟨g, off + 8, none⟩ = some (.bool c'.w)) := hide ⟨f0, f1, f2⟩
  have HVD := hide hvd
  have hq2 : (2 : Int) < (aa.length : Int) := by omega
  have PL := fun W h => RPlace_any W x b.v vb vbc 1 hxo.2 hob.1 hob.2.1 h
  obtain ⟨N, hN⟩ : ∃ N, placeV 1 x b.v = N := ⟨_, rfl⟩
  rw [hN] at PL
  obtain ⟨⟨k0, n0, t0, b0', e0'⟩, hres⟩ : ∃ v, (if N = 0 ∨ c'.v.length < N then mkE 6 else soundV (c'.v.getD (N - 1) vZero)) = v := ⟨_, rfl⟩
  have et : toldR nLOOKUP aa = ⟨k0, n0, t0, b0', e0'⟩ := by
    rw [told_lookup, hA0, hB1, hC2, hx, hN]
    exact hres
  rw [et]
  unfold Vl.val
  simp only
  have HRES := hide hres
  have hlc := hoc.2.1
  rw [hNM] at b0 b1 b2 b3 b4 b5 b6 b7 ⊢
  obtain ⟨xk, xn, xt, xb, xf⟩ := x
  obtain ⟨bv, bc, bw⟩ := b
  unfold Vl.val at PL
  simp only at PL HX bHD HVB
  have HPL := hide PL
  clear et hA0 hB1 hC2 hRC hNM hR hC ha hb hc hga hgb hgc hoa hob hoc hv hr A hx hN hres hxo PL f0 f1 f2 hvd
  obtain ⟨v, c, wd⟩ := a
  simp only at SZ HD hl0 ⊢
  obtain ⟨L, hL⟩ : ∃ n, aa.length = n := ⟨_, rfl⟩
  rw [hL] at hq0 hq1 hcnt hl9 ⊢
  obtain ⟨LV, hLV⟩ : ∃ n, v.length = n := ⟨_, rfl⟩
  rw [hLV] at SZ HD hl0
  obtain ⟨LB, hLB⟩ : ∃ n, bv.length = n := ⟨_, rfl⟩
  rw [hLB] at HPL bHD
  have hn0 : 0 < L := by omega
  have hn1 : 0 < LV := by omega
  rw [hL] at hq2
  clear hL hLV hLB
  have e0 := (HU0.out.cell g _ hg id).trans HD.out.1
  have e1 := (HU0.out.cell g _ hg id).trans HD.out.2.1
  have e2 := (HU0.out.cell g _ hg id).trans HD.out.2.2
  have gl0 := Nat.lt_of_lt_of_le hg HU0.out.size
  clear d0 d1 d2
  go_enter Tryz.func39, Tryz.ntmps39
  go_wp2_with fail
  refine Calls.mono (SZ _) ?_
  rintro e w1 ⟨rfl, u1⟩
  have HU1 := hide (HU0.out.then u1 (fun _ _ => id))
  have HV1 := hide (u1.get HV0.out id)
  clear u1 SZ
  clear e0 e1 e2 gl0
  have e0 := (HU1.out.cell g _ hg id).trans HD.out.1
  have e1 := (HU1.out.cell g _ hg id).trans HD.out.2.1
  have e2 := (HU1.out.cell g _ hg id).trans HD.out.2.2
  have gl0 := Nat.lt_of_lt_of_le hg HU1.out.size
  have be0 := (HU1.out.cell g _ hg id).trans bHD.out.1
  have be1 := (HU1.out.cell g _ hg id).trans bHD.out.2.1
  have be2 := (HU1.out.cell g _ hg id).trans bHD.out.2.2
  have x0 := (HU1.out.cell gv _ hgv id).trans HX.out.1
  have x1 := (HU1.out.cell gv _ hgv id).trans HX.out.2.1
  have x2 := (HU1.out.cell gv _ hgv id).trans HX.out.2.2.1
  have x3 := (HU1.out.cell gv _ hgv id).trans HX.out.2.2.2.1
  have x4 := (HU1.out.cell gv _ hgv id).trans HX.out.2.2.2.2
  have glv := Nat.lt_of_lt_of_le hgv HU1.out.size
  go_wp2_with fail
  go_region_held3 (fun w' => w'.cell? ⟨g, off, none⟩ = some (.slice (some ⟨gv, ov, none⟩) LV vc) ∧ w'.cell? ⟨g, off + 3, none⟩ = some (.slice vb LB vbc) ∧ w'.cell? ⟨gv, ov, none⟩ = some (.int .i64 xk) ∧ w'.cell? ⟨gv, ov + 1, none⟩ = some (.int .i64 xn) ∧ w'.cell? ⟨gv, ov + 2, none⟩ = some (enS xt) ∧ w'.cell? ⟨gv, ov + 3, none⟩ = some (.bool xb) ∧ w'.cell? ⟨gv, ov + 4, none⟩ = some (.int .i64 xf))
    (first | (go_keep; done) | exact ⟨e0, be0, x0, x1, x2, x3, x4⟩ | (exact ⟨(u9.cell g _ gl0 id).trans e0, (u9.cell g _ gl0 id).trans be0, (u9.cell gv _ glv id).trans x0, (u9.cell gv _ glv id).trans x1, (u9.cell gv _ glv id).trans x2, (u9.cell gv _ glv id).trans x3, (u9.cell gv _ glv id).trans x4⟩))
    (first | (go_at_call 11; refine Calls.mono (HPL.out _ (HVB.out.upd HU1.out).drew) ?_; rintro e w9 ⟨rfl, u9⟩))
  have HU9 := hide (HU1.out.drew.then u9 (fun _ _ => id))
  have HV9 := hide (u9.get HV1.out id)
  clear u9 x0 x1 x2 x3 x4 glv
  clear e0 e1 e2 be0 be1 be2 gl0
  by_cases hcd : N = 0 ∨ c'.v.length < N
  · have hcc : ((N : Int) == 0) = true ∨ ((N : Int) == 0) = false ∧ (c'.v.length : Int) < (N : Int) := by
      rcases hcd with h | h
      · exact .inl (by simp; omega)
      · exact .inr ⟨by simp; omega, by omega⟩
    have hev : mkE 6 = ⟨k0, n0, t0, b0', e0'⟩ := by have := HRES.out; rwa [if_pos hcd] at this
    have EA := fun w => RE12_any w 6
    rw [rawE_ok (by decide), hev] at EA
    unfold Vl.val at EA
    simp only at EA
    clear hev
    clear hcd
    obtain ⟨v3, c3, w3⟩ := c'
    simp only at cHD hcc
    rcases hcc with bN | ⟨bN, hlN⟩
    all_goals
      have ce0 := (HU9.out.cell g _ hg id).trans cHD.out.1
      have ce1 := (HU9.out.cell g _ hg id).trans cHD.out.2.1
      have ce2 := (HU9.out.cell g _ hg id).trans cHD.out.2.2
      have gl0 := Nat.lt_of_lt_of_le hg HU9.out.size
      go_wp2_with fail
      refine Calls.mono (EA _) ?_
      rintro e w10 ⟨rfl, u10⟩
      have HU10 := hide (HU9.out.then u10 (fun _ _ => id))
      clear ce0 ce1 ce2 gl0
      have bV := u10.get HV9.out id
      obtain ⟨v0, v1, v2, v3, v4⟩ := cells5 bV
      have vl := lt_at bV
      have fv0 := free_at bV 0
      have fv1 := free_at bV 1
      have fv2 := free_at bV 2
      have fv3 := free_at bV 3
      have fv4 := free_at bV 4
      have HB := hide bV
      clear bV u10 EA
      go_wp2_with fail
      (try simp only [Exit.inBlock, Exit.then])
      refine bodyPost_ret (ret_rv rfl _ _ w.heap.size ⟨k0, n0, t0, b0', e0'⟩ rfl (rblock5 (x := vZero) HB.out _ _ _ _ _)) rfl ?_
      exact ⟨rfl, upd5 HU10.out (Nat.le_refl _) _ _ _ _ _⟩
  · obtain ⟨J, hJ⟩ : ∃ J, N = J + 1 := ⟨N - 1, by omega⟩
    subst hJ
    have hJl : J < c'.v.length := by omega
    obtain ⟨y, hy⟩ : ∃ y, c'.v[J]? = some y := ⟨_, List.getElem?_eq_getElem hJl⟩
    have SN := fun w => RSound_any w y
    have hev : soundV y = ⟨k0, n0, t0, b0', e0'⟩ := by
      have := HRES.out
      rwa [if_neg hcd, Nat.add_sub_cancel, List.getD_eq_getElem?_getD, hy] at this
    rw [hev] at SN
    obtain ⟨gd, od, rfl, hgd, y0, y1, y2, y3, y4⟩ := rdV_at (HVD.out.upd HU9.out) hy
    have bN : (((J + 1 : Nat) : Int) == 0) = false := by simp; omega
    have hlN : ¬ (c'.v.length : Int) < ((J + 1 : Nat) : Int) := by omega
    obtain ⟨z, hz⟩ : ∃ z : Int, ((J + 1 : Nat) : Int) = z := ⟨_, rfl⟩
    have wJ : IntKind.i64.wrap (z - 1) = (J : Int) := by
      have : z - 1 = (J : Int) := by omega
      rw [this]; exact IntWalk.i64_in _ (by omega)
    have hJ0 : (0 : Int) ≤ (J : Int) := by omega
    have hJ1 : (J : Int) < (c'.v.length : Int) := by omega
    rw [hz] at bN hlN ⊢
    obtain ⟨v3, c3, w3⟩ := c'
    obtain ⟨yk, yn, yt, yb, yf⟩ := y
    unfold Vl.val at SN
    simp only at cHD hlN hJ1 SN y0 y1 y2 y3 y4
    have ce0 := (HU9.out.cell g _ hg id).trans cHD.out.1
    have ce1 := (HU9.out.cell g _ hg id).trans cHD.out.2.1
    have ce2 := (HU9.out.cell g _ hg id).trans cHD.out.2.2
    have gl0 := Nat.lt_of_lt_of_le hg HU9.out.size
    clear hev hcd hz hy hJl
    go_wp2_with fail
    refine Calls.mono (SN _) ?_
    rintro e w10 ⟨rfl, u10⟩
    have HU10 := hide (HU9.out.then u10 (fun _ _ => id))
    clear ce0 ce1 ce2 gl0
    clear y0 y1 y2 y3 y4
    have bV := u10.get HV9.out id
    obtain ⟨v0, v1, v2, v3, v4⟩ := cells5 bV
    have vl := lt_at bV
    have fv0 := free_at bV 0
    have fv1 := free_at bV 1
    have fv2 := free_at bV 2
    have fv3 := free_at bV 3
    have fv4 := free_at bV 4
    have HB := hide bV
    clear bV u10 SN
    go_wp2_with fail
    (try simp only [Exit.inBlock, Exit.then])
    refine bodyPost_ret (ret_rv rfl _ _ w.heap.size ⟨k0, n0, t0, b0', e0'⟩ rfl (rblock5 (x := vZero) HB.out _ _ _ _ _)) rfl ?_
    exact ⟨rfl, upd5 HU10.out (Nat.le_refl _) _ _ _ _ _⟩
end Go.Proofs.YtdjpkkgcoainhaaGreatDoor
/- The walk of the reference's told: HLOOKUP. -/
set_option maxRecDepth 100000
namespace Go.Proofs.YtdjpkkgcoainhaaGreatDoor
open Go.RowKit Go.Lat Go.Lib

set_option maxHeartbeats 12800000 in
theorem Rtold_HLOOKUP (w : World) (p : Option Addr) (pc : Nat) (aa : List Ar) (hr : RdA w p aa) (A : ArgsOk aa) (hcnt : 3 ≤ aa.length) :
    Calls Tryz.prog 39 #[enS nHLOOKUP, .slice p aa.length pc] w fun e w' => e = .returned (toldR nHLOOKUP aa).val ∧ Upd w w' (fun _ => False) := by
  obtain ⟨a, ha⟩ : ∃ a, aa[0]? = some a := ⟨_, List.getElem?_eq_getElem (by omega)⟩
  have hga := A.good a (List.mem_of_getElem? ha)
  have hoa := A.oks a (List.mem_of_getElem? ha)
  have hl9 := A.len
  obtain ⟨g, off, va, vc, rfl, hg, d0, d1, d2, hv⟩ := arg0 hr ha
  have SZ := fun w => Rsize_any w a va vc hga
  obtain ⟨R, C, hR, hC, hRC, hR1, hC1, hl, hR4, hC4⟩ := dims_le hga
  rw [hR, hC] at SZ
  have b0 : (nHLOOKUP == [82, 79, 87, 83]) = false := by decide
  have b1 : (nHLOOKUP == [67, 79, 76, 85, 77, 78, 83]) = false := by decide
  have b2 : (nHLOOKUP == [77, 65, 84, 67, 72]) = false := by decide
  have b3 : (nHLOOKUP == [73, 78, 68, 69, 88]) = false := by decide
  have b4 : (nHLOOKUP == [76, 79, 79, 75, 85, 80]) = false := by decide
  have b5 : (nHLOOKUP == [86, 76, 79, 79, 75, 85, 80]) = false := by decide
  have b6 : (nHLOOKUP == [72, 76, 79, 79, 75, 85, 80]) = true := by decide
  have b7 : (nHLOOKUP == [67, 72, 79, 79, 83, 69]) = false := by decide
  have HU0 : Hid (Upd w (w.alloc (.cells #[.int .i64 0, .int .i64 0, .string ⟨#[]⟩, .bool false, .int .i64 0] 30)) (fun _ => False)) := hide ((Upd.refl w _).alloc _)
  have HV0 := hide (Vnew1 w (.cells #[.int .i64 0, .int .i64 0, .string ⟨#[]⟩, .bool false, .int .i64 0] 30))
  have HRA := hide hr
  have hA0 := argA_at ha
  have hq0 : (0 : Int) < (aa.length : Int) := by omega
  have HD : Hid (w.cell? ⟨g, off, none⟩ = some (.slice va a.v.length vc) ∧ w.cell? ⟨g, off + 1, none⟩ = some (.int .i64 a.c) ∧ w.cell? ⟨g, off + 2, none⟩ = some (.bool a.w)) := hide ⟨d0, d1, d2⟩
  obtain ⟨NM, hNM⟩ : ∃ z, nHLOOKUP = z := ⟨_, rfl⟩
  obtain ⟨b, hb⟩ : ∃ a, aa[1]? = some a := ⟨_, List.getElem?_eq_getElem (by omega)⟩
  have hgb := A.good b (List.mem_of_getElem? hb)
  have hob := A.oks b (List.mem_of_getElem? hb)
  have hB1 := argA_at hb
  obtain ⟨vb, vbc, f0, f1, f2, hvb⟩ := arg1 hr hb
  have bHD : Hid (w.cell? ⟨g, off + 3, none⟩ = some (.slice vb b.v.length vbc) ∧ w.cell? ⟨g, off + 4, none⟩ = some (.int .i64 b.c) ∧ w.cell? ⟨g, off + 5, none⟩ = some (.bool b.w)) := hide ⟨f0, f1, f2⟩
  have HVB := hide hvb
  have hq1 : (1 : Int) < (aa.length : Int) := by omega
  obtain ⟨Ru, Cu, hRu, hCu, hRCu, hRu1, hCu1, hlu, hRu4, hCu4⟩ := dims_le hgb
  have SZ2 := fun w => Rsize_any w b vb vbc hgb
  rw [hRu, hCu] at SZ2
  obtain ⟨gv, ov, x, hx, rfl, hgv, x0, x1, x2, x3, x4, hlen⟩ := head_at hv hga
  have HX : Hid (w.cell? ⟨gv, ov, none⟩ = some (.int .i64 x.k) ∧ w.cell? ⟨gv, ov + 1, none⟩ = some (.int .i64 x.n) ∧ w.cell? ⟨gv, ov + 2, none⟩ = some (enS x.t) ∧ w.cell? ⟨gv, ov + 3, none⟩ = some (.bool x.b) ∧ w.cell? ⟨gv, ov + 4, none⟩ = some (.int .i64 x.f)) := hide ⟨x0, x1, x2, x3, x4⟩
  have hl0 : (0 : Int) < (a.v.length : Int) := by omega
  have hxo := hx ▸ head_ok hoa.1
  clear f0 f1 f2 x0 x1 x2 x3 x4 hvb
  have W2 := fun W h => Rwhole_any W (some ⟨g, off, none⟩) pc aa 2 0 h A
  have W3 := fun W h => Rwhole_any W (some ⟨g, off, none⟩) pc aa 3 0 h A
  obtain ⟨k, hk⟩ : ∃ z, wholeA aa 2 0 = z := ⟨_, rfl⟩
  obtain ⟨m, hm⟩ : ∃ z, wholeA aa 3 0 = z := ⟨_, rfl⟩
  have hkr := hk ▸ wholeA_rng aa 2 0 (by omega)
  rw [hk] at W2
  rw [hm] at W3
  have SG := fun W => Rsign_any W m
  obtain ⟨m2, hm2⟩ : ∃ z, wayI m = z := ⟨_, rfl⟩
  rw [hm2] at SG
  have hFl : (firstL true Cu b.v).length ≤ 4096 := by rw [← firstP_all]; exact Nat.le_trans (firstP_len _ _ _ _) hlu
  have hFo : oksV (firstL true Cu b.v) := fun z hz => hob.1 z (firstP_mem (k := b.v.length) (by rw [firstP_all]; exact hz))
  have PL := fun W va vc h => RPlace_any W x (firstL true Cu b.v) va vc m2 hxo.2 hFo (by omega) h
  obtain ⟨LF, hLF⟩ : ∃ n, (firstL true Cu b.v).length = n := ⟨_, rfl⟩
  rw [hLF] at PL hFl
  obtain ⟨N, hN⟩ : ∃ N, placeV m2 x (firstL true Cu b.v) = N := ⟨_, rfl⟩
  rw [hN] at PL
  have hNl : N ≤ 4096 := by have := placeV_le m2 x (firstL true Cu b.v); omega
  have AT := fun W h => Rat_any W b vb vbc k (N : Int) h hgb hob.1 hkr (by omega)
  obtain ⟨⟨k0, n0, t0, b0', e0'⟩, hres⟩ : ∃ v, (if k < 1 ∨ (Ru : Int) < k then mkE 4 else if N = 0 then mkE 6 else atR b k (N : Int)) = v := ⟨_, rfl⟩
  have et : toldR nHLOOKUP aa = ⟨k0, n0, t0, b0', e0'⟩ := by
    have e := told_vh true aa
    have en : nVH true = nHLOOKUP := rfl
    rw [en] at e
    rw [e, hA0, hB1, hk, hm, hm2, hx, hRu, hCu, Int.toNat_natCast, hN, ← hres]
    simp
  rw [et]
  unfold Vl.val
  simp only
  have HRES := hide hres
  have HMA : Hid (∀ (j : Nat) (y : Vl), b.v[j]? = some y → ∃ g off, vb = some ⟨g, off, none⟩ ∧ g < w.heap.size ∧ w.cell? ⟨g, off + j * 5, none⟩ = some (.int .i64 y.k) ∧ w.cell? ⟨g, off + j * 5 + 1, none⟩ = some (.int .i64 y.n) ∧ w.cell? ⟨g, off + j * 5 + 2, none⟩ = some (enS y.t) ∧ w.cell? ⟨g, off + j * 5 + 3, none⟩ = some (.bool y.b) ∧ w.cell? ⟨g, off + j * 5 + 4, none⟩ = some (.int .i64 y.f)) := hide (fun j y hy => rdV_at HVB.out hy)
  have HAT := hide AT
  have hu0 : 0 < b.v.length := by rw [← hRCu]; exact Nat.mul_pos hRu1 hCu1
  have hcu0 : (Cu : Int) ≠ 0 := by omega
  have hcu1 : ((Cu : Int) == 0) = false := by simpa using hcu0
  rw [hNM] at b0 b1 b2 b3 b4 b5 b6 b7 ⊢
  obtain ⟨iE, hiE, hE0, hE1, hE2⟩ := info_p Tryz.infoRl
  obtain ⟨xk, xn, xt, xb, xf⟩ := x
  obtain ⟨bv, bc, bw⟩ := b
  unfold Vl.val at PL
  simp only at PL HX bHD HVB HMA SZ2 hLF hu0 hRCu hlu
  have HPL := hide PL
  have HLF := hide hLF
  clear et hA0 hB1 hRC hNM hR hC ha hb hga hgb hoa hob hv hr A hx hm hm2 hk hN hres hxo PL hFo AT hRu hCu hLF
  obtain ⟨v, c, wd⟩ := a
  simp only at SZ HD hl0 ⊢
  obtain ⟨L, hL⟩ : ∃ n, aa.length = n := ⟨_, rfl⟩
  rw [hL] at W2 W3 hq0 hq1 hcnt hl9 ⊢
  obtain ⟨LV, hLV⟩ : ∃ n, v.length = n := ⟨_, rfl⟩
  rw [hLV] at SZ HD hl0
  obtain ⟨LB, hLB⟩ : ∃ n, bv.length = n := ⟨_, rfl⟩
  rw [hLB] at SZ2 bHD hu0 hRCu hlu
  have HLB := hide hLB
  have hn0 : 0 < L := by omega
  have hn1 : 0 < LV := by omega
  clear hL hLV hLB
  have e0 := (HU0.out.cell g _ hg id).trans HD.out.1
  have e1 := (HU0.out.cell g _ hg id).trans HD.out.2.1
  have e2 := (HU0.out.cell g _ hg id).trans HD.out.2.2
  have gl0 := Nat.lt_of_lt_of_le hg HU0.out.size
  clear d0 d1 d2
  go_enter Tryz.func39, Tryz.ntmps39
  go_wp2_with fail
  refine Calls.mono (SZ _) ?_
  rintro e w1 ⟨rfl, u1⟩
  have HU1 := hide (HU0.out.then u1 (fun _ _ => id))
  have HV1 := hide (u1.get HV0.out id)
  clear u1 SZ
  clear e0 e1 e2 gl0
  have be0 := (HU1.out.cell g _ hg id).trans bHD.out.1
  have be1 := (HU1.out.cell g _ hg id).trans bHD.out.2.1
  have be2 := (HU1.out.cell g _ hg id).trans bHD.out.2.2
  have gl0 := Nat.lt_of_lt_of_le hg HU1.out.size
  go_wp2_with fail
  refine Calls.mono (SZ2 _) ?_
  rintro e w2 ⟨rfl, u2⟩
  have HU2 := hide (HU1.out.then u2 (fun _ _ => id))
  have HV2 := hide (u2.get HV1.out id)
  clear u2 SZ2
  clear be0 be1 be2 gl0
  go_wp2_with fail
  refine Calls.mono (W2 _ (HRA.out.upd HU2.out)) ?_
  rintro e w3 ⟨rfl, u3⟩
  have HU3 := hide (HU2.out.then u3 (fun _ _ => id))
  have HV3 := hide (u3.get HV2.out id)
  clear u3 W2
  go_wp2_with fail
  refine Calls.mono (W3 _ (HRA.out.upd HU3.out)) ?_
  rintro e w4 ⟨rfl, u4⟩
  have HU4 := hide (HU3.out.then u4 (fun _ _ => id))
  have HV4 := hide (u4.get HV3.out id)
  clear u4 W3
  go_wp2_with fail
  refine Calls.mono (SG _) ?_
  rintro e w5 ⟨rfl, hw⟩
  obtain rfl := hw.symm
  clear hw SG
  by_cases hbad : k < 1 ∨ (Ru : Int) < k
  · have hcc : k < 1 ∨ ¬ k < 1 ∧ (Ru : Int) < k := by omega
    have hev : mkE 4 = ⟨k0, n0, t0, b0', e0'⟩ := by have := HRES.out; rwa [if_pos hbad] at this
    have EA := fun w => RE12_any w 4
    rw [rawE_ok (by decide), hev] at EA
    unfold Vl.val at EA
    simp only at EA
    clear hev hbad
    rcases hcc with q1 | ⟨q1, q2⟩
    all_goals
      go_wp2_with fail
      refine Calls.mono (EA _) ?_
      rintro e w10 ⟨rfl, u10⟩
      have HU10 := hide (HU4.out.then u10 (fun _ _ => id))
      have bV := u10.get HV4.out id
      obtain ⟨v0, v1, v2, v3, v4⟩ := cells5 bV
      have vl := lt_at bV
      have fv0 := free_at bV 0
      have fv1 := free_at bV 1
      have fv2 := free_at bV 2
      have fv3 := free_at bV 3
      have fv4 := free_at bV 4
      have HB := hide bV
      clear bV u10 EA
      go_wp2_with fail
      (try simp only [Exit.inBlock, Exit.then])
      refine bodyPost_ret (ret_rv rfl _ _ w.heap.size ⟨k0, n0, t0, b0', e0'⟩ rfl (rblock5 (x := vZero) HB.out _ _ _ _ _)) rfl ?_
      exact ⟨rfl, upd5 HU10.out (Nat.le_refl _) _ _ _ _ _⟩
  · have q1 : ¬ k < 1 := by omega
    have q2 : ¬ (Ru : Int) < k := by omega
    go_wp2_with fail
    go_loopg [20, 21] LB (fun q lv iv wr => ∃ j : Nat, j + q = LB ∧ iv = .int .i64 j ∧ Rw wr 30 5 lv (firstP true Cu bv j).length (vlCells (firstP true Cu bv j)) ∧ (∀ k, lv.ownBlock = some k → w4.heap.size ≤ k) ∧ Upd w4 wr (fun _ => False))
    case atStart => exact ⟨0, by omega, rfl, by simpa [vlCells, firstP] using Rw.nil _ _ _, fun k hk => (by cases hk), Upd.refl _ _⟩
    case round =>
      obtain ⟨j, hj, rfl, hra, hown, hu⟩ := hrel
      obtain ⟨oa, oc, rfl, -⟩ := Rw.form hra
      have HUW := hide (HU4.out.then hu (fun _ _ => id))
      have HRR := hide hra
      have HOWN := hide hown
      have HUR := hide hu
      clear hra hown hu
      by_cases hjN : j < LB
      · obtain ⟨y, hy⟩ : ∃ y, bv[j]? = some y := ⟨_, List.getElem?_eq_getElem (by rw [HLB.out]; exact hjN)⟩
        obtain ⟨gb, ob, rfl, hgb', z0, z1, z2, z3, z4⟩ := HMA.out j y hy
        have hj0 : (0 : Int) ≤ (j : Int) := by omega
        have hj1 : (j : Int) < (LB : Int) := by omega
        have hflen := firstP_len true Cu bv j
        by_cases hjc : j < Cu
        · have hcj : (true = true ∧ j < Cu ∨ true = false ∧ j % Cu = 0) := .inl ⟨rfl, hjc⟩
          have q3 : (j : Int) < (Cu : Int) := by omega
          have HFY := hide (firstP_yes (across := true) hy hcj)
          obtain ⟨O, hO⟩ : ∃ O, firstP true Cu bv j = O := ⟨_, rfl⟩
          rw [hO] at HFY HRR HOWN hflen ⊢
          obtain ⟨LO, hLO⟩ : ∃ n, O.length = n := ⟨_, rfl⟩
          rw [hLO] at HRR HOWN hflen ⊢
          have HLO := hide hLO
          obtain ⟨yk, yn, yt, yb, yf⟩ := y
          simp only at z0 z1 z2 z3 z4
          have y0 := (HUW.out.cell gb _ hgb' id).trans z0
          have y1 := (HUW.out.cell gb _ hgb' id).trans z1
          have y2 := (HUW.out.cell gb _ hgb' id).trans z2
          have y3 := (HUW.out.cell gb _ hgb' id).trans z3
          have y4 := (HUW.out.cell gb _ hgb' id).trans z4
          have glb := Nat.lt_of_lt_of_le hgb' HUW.out.size
          have HRX := hide (HRR.out.alloc (.cells #[.int .i64 yk, .int .i64 yn, enS yt, .bool yb, .int .i64 yf] 30))
          have e0 := (HUW.out.cell g _ hg id).trans HD.out.1
          have e1 := (HUW.out.cell g _ hg id).trans HD.out.2.1
          have e2 := (HUW.out.cell g _ hg id).trans HD.out.2.2
          have gl0 := Nat.lt_of_lt_of_le hg HUW.out.size
          have be0 := (HUW.out.cell g _ hg id).trans bHD.out.1
          have be1 := (HUW.out.cell g _ hg id).trans bHD.out.2.1
          have be2 := (HUW.out.cell g _ hg id).trans bHD.out.2.2
          clear hy hO hLO z0 z1 z2 z3 z4 hcj hjc
          go_wp2_with (at_builtin; (refine wpList_append_rw _ rfl _ _ 34 34 rfl 30 _ iE _ 5 48 Tryz.underlying34 Tryz.underlying34 (by simp) hiE hE0 hE1 hE2 rfl _ _ _ rfl HRX.out _ 1 [.int .i64 yk, .int .i64 yn, enS yt, .bool yb, .int .i64 yf] rfl (Rw.src (Rw.made wr #[.int .i64 yk, .int .i64 yn, enS yt, .bool yb, .int .i64 yf] 30 5 1 rfl)) rfl (by simp [Value.oneCell']) (by omega) (by omega) ?_); intro ga gc w6 hv' hg' hob'; have HV6 := hide hv'; have HU6 := hide ((HUR.out.alloc (.cells #[.int .i64 yk, .int .i64 yn, enS yt, .bool yb, .int .i64 yf] 30)).grown hg' (fun k e => .inl (HOWN.out k e))); have HNO6 := hide (own_of hob' HOWN.out (by have := HUR.out.size; simp; omega)); clear hv' hg' hob')
          go_roundg (gk - 1)
          case measure => omega
          case rel =>
            refine ⟨j + 1, by omega, by go_num, ?_, HNO6.out, HU6.out⟩
            rw [HFY.out, vlCells_app, vlCells_one, List.length_append, HLO.out]
            exact HV6.out
        · have hcj : ¬ (true = true ∧ j < Cu ∨ true = false ∧ j % Cu = 0) := by simpa using hjc
          have q3 : ¬ (j : Int) < (Cu : Int) := by omega
          have HFN := hide (firstP_no (across := true) (l := bv) hcj)
          have e0 := (HUW.out.cell g _ hg id).trans HD.out.1
          have e1 := (HUW.out.cell g _ hg id).trans HD.out.2.1
          have e2 := (HUW.out.cell g _ hg id).trans HD.out.2.2
          have gl0 := Nat.lt_of_lt_of_le hg HUW.out.size
          have be0 := (HUW.out.cell g _ hg id).trans bHD.out.1
          have be1 := (HUW.out.cell g _ hg id).trans bHD.out.2.1
          have be2 := (HUW.out.cell g _ hg id).trans bHD.out.2.2
          clear hy z0 z1 z2 z3 z4 hcj hjc
          go_wp2_with fail
          go_roundg (gk - 1)
          case measure => omega
          case rel =>
            refine ⟨j + 1, by omega, by go_num, ?_, HOWN.out, HUR.out⟩
            rw [HFN.out]
            exact HRR.out
      · have hjN' : j = LB := by omega
        have hj1 : ¬ (j : Int) < (LB : Int) := by omega
        have hfa : firstP true Cu bv j = firstL true Cu bv := by rw [hjN', ← HLB.out]; exact firstP_all _ _ _
        rw [hfa, HLF.out] at HRR HOWN ⊢
        have HV5 := hide (HUR.out.get HV4.out id)
        clear hfa hjN'
        have e0 := (HUW.out.cell g _ hg id).trans HD.out.1
        have e1 := (HUW.out.cell g _ hg id).trans HD.out.2.1
        have e2 := (HUW.out.cell g _ hg id).trans HD.out.2.2
        have gl0 := Nat.lt_of_lt_of_le hg HUW.out.size
        have be0 := (HUW.out.cell g _ hg id).trans bHD.out.1
        have be1 := (HUW.out.cell g _ hg id).trans bHD.out.2.1
        have be2 := (HUW.out.cell g _ hg id).trans bHD.out.2.2
        have x0 := (HUW.out.cell gv _ hgv id).trans HX.out.1
        have x1 := (HUW.out.cell gv _ hgv id).trans HX.out.2.1
        have x2 := (HUW.out.cell gv _ hgv id).trans HX.out.2.2.1
        have x3 := (HUW.out.cell gv _ hgv id).trans HX.out.2.2.2.1
        have x4 := (HUW.out.cell gv _ hgv id).trans HX.out.2.2.2.2
        have glv := Nat.lt_of_lt_of_le hgv HUW.out.size
        go_wp2_with fail
        refine Calls.mono (HPL.out _ oa oc (rdV_of HLF.out HRR.out)) ?_
        rintro e w9 ⟨rfl, u9⟩
        have HU9 := hide (HUW.out.then u9 (fun _ _ => id))
        have HV9 := hide (u9.get HV5.out id)
        clear u9 x0 x1 x2 x3 x4 glv
        clear e0 e1 e2 be0 be1 be2 gl0
        have hbad' := HRES.out
        rw [if_neg hbad] at hbad'
        by_cases hN0 : N = 0
        · have bN : ((N : Int) == 0) = true := by simp; omega
          have EA := fun w => RE12_any w 6
          rw [if_pos hN0] at hbad'
          rw [rawE_ok (by decide), hbad'] at EA
          unfold Vl.val at EA
          simp only at EA
          clear hbad'
          go_wp2_with fail
          refine Calls.mono (EA _) ?_
          rintro e w10 ⟨rfl, u10⟩
          have HU10 := hide (HU9.out.then u10 (fun _ _ => id))
          have bV := u10.get HV9.out id
          obtain ⟨v0, v1, v2, v3, v4⟩ := cells5 bV
          have vl := lt_at bV
          have fv0 := free_at bV 0
          have fv1 := free_at bV 1
          have fv2 := free_at bV 2
          have fv3 := free_at bV 3
          have fv4 := free_at bV 4
          have HB := hide bV
          clear bV u10 EA
          go_wp2_with fail
          (try simp only [Exit.inBlock, Exit.then])
          refine bodyPost_ret (ret_rv rfl _ _ w.heap.size ⟨k0, n0, t0, b0', e0'⟩ rfl (rblock5 (x := vZero) HB.out _ _ _ _ _)) rfl ?_
          exact ⟨rfl, upd5 HU10.out (Nat.le_refl _) _ _ _ _ _⟩
        · have bN : ((N : Int) == 0) = false := by simp; omega
          rw [if_neg hN0] at hbad'
          have AT := HAT.out
          rw [hbad'] at AT
          unfold Vl.val at AT
          simp only at AT
          rw [HLB.out] at AT
          have HAT2 := hide AT
          clear hbad' AT
          have be0 := (HU9.out.cell g _ hg id).trans bHD.out.1
          have be1 := (HU9.out.cell g _ hg id).trans bHD.out.2.1
          have be2 := (HU9.out.cell g _ hg id).trans bHD.out.2.2
          have gl0 := Nat.lt_of_lt_of_le hg HU9.out.size
          go_wp2_with fail
          refine Calls.mono (HAT2.out _ (HVB.out.upd HU9.out)) ?_
          rintro e w10 ⟨rfl, u10⟩
          have HU10 := hide (HU9.out.then u10 (fun _ _ => id))
          clear be0 be1 be2 gl0
          have bV := u10.get HV9.out id
          obtain ⟨v0, v1, v2, v3, v4⟩ := cells5 bV
          have vl := lt_at bV
          have fv0 := free_at bV 0
          have fv1 := free_at bV 1
          have fv2 := free_at bV 2
          have fv3 := free_at bV 3
          have fv4 := free_at bV 4
          have HB := hide bV
          clear bV u10
          go_wp2_with fail
          (try simp only [Exit.inBlock, Exit.then])
          refine bodyPost_ret (ret_rv rfl _ _ w.heap.size ⟨k0, n0, t0, b0', e0'⟩ rfl (rblock5 (x := vZero) HB.out _ _ _ _ _)) rfl ?_
          exact ⟨rfl, upd5 HU10.out (Nat.le_refl _) _ _ _ _ _⟩
end Go.Proofs.YtdjpkkgcoainhaaGreatDoor
