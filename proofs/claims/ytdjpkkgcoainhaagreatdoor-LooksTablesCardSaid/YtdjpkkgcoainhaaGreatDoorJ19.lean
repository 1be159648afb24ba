/- The walk of lookup. -/
import Derived.Test.YtdjpkkgcoainhaaGreatDoorJ18
/- The walk of lookup. -/
set_option maxRecDepth 100000
namespace Go.Proofs.YtdjpkkgcoainhaaGreatDoor
open Go.RowKit Go.Lat Go.Lib

/-- Behind the reading: looking down the table that stands in the block. -/
def lookF (l : List Vl) (R C : Nat) (x : Vl) (m col : Int) (f : Int) : Vl :=
  if f ≠ 0 ∨ col < 1 ∨ (C : Int) < col then mkE 4 else if placeV m x ((turnL R C l).take R) = 0 then mkE 6 else atV l (R : Int) (C : Int) ((placeV m x ((turnL R C l).take R) : Nat) : Int) col
noncomputable def lookC : Code := match Tryz.f58.body with
  | some (.seq _ (.seq _ (.seq _ (.seq _ (.seq _ c))))) => c
  | _ => .ret
theorem RdV.drew {w : World} {va : Option Addr} {l : List Vl} (h : RdV w va l) : RdV w.drew va l := h
theorem turn_oks {R C : Nat} {l : List Vl} (h : oksV l) : oksV ((turnL R C l).take R) := fun x hx => by
  have h1 := List.mem_of_mem_take hx
  unfold turnL at h1
  rw [List.mem_map] at h1
  obtain ⟨j, -, rfl⟩ := h1
  rw [List.getD_eq_getElem?_getD]
  cases hq : l[j % R * C + j / R]? with
  | none => exact ⟨vZero_ok, by decide⟩
  | some y => exact h y (List.mem_of_getElem? hq)
set_option maxHeartbeats 6400000 in
theorem look_rest (w0 wb W : World) (r : Nat) (p : Option Addr) (pc : Nat) (aa : List Ar) (k : Nat) (f : Int) (T X B : Nat) (va : Option Addr) (vc R C : Nat) (l : List Vl) (x : Vl) (col m : Int) (c1 c2 c3 c8 c10 c11 c12 c13 c14 c15 c16 c17 c18 c19 c20 c21 c22 c23 c24 c25 c26 c27 c28 c29 c30 c31 c32 c33 c34 c35 c36 c37 c38 c39 c40 c41 c42 c43 c44 c45 c46 c47 c48 c49 c50 c51 c52 c53 c54 c55 c56 c57 c58 c59 c60 c61 c62 c63 c64 : Value)
    (HR : RrAt w0 W r p pc aa (k, f)) (HA : Upd wb W (fun j => j = r)) (hrw : r < wb.heap.size) (hTw : wb.heap.size ≤ T) (hT : W.heap[T]? = some (.cells vZero.cs 29 (0, 0))) (hX : W.heap[X]? = some (.cells x.cs 29 (0, 0)))
    (hB : W.heap[B]? = some (.cells #[.slice va l.length vc, .int .i64 (R : Int), .int .i64 (C : Int)] 110 (0, 0))) (hv : RdV W va l) (hRC : R * C = l.length) (hl : l.length ≤ 4096) (hR4 : R ≤ 4096) (hC4 : C ≤ 4096) (hC1 : 1 ≤ C) (hxo : x.ok) (hxt : x.t.length ≤ 1000000) (hlo : oksV l)
    (hcr : -1000000000000000 ≤ col ∧ col ≤ 1000000000000000) :
    Code.wp Tryz.prog lookC (bodyPost Tryz.prog Tryz.f58 (RdPost w0 wb r p pc aa (lookF l R C x (wayI m) col f) f)) ⟨#[.pointer (some ⟨r, 0, none⟩), c1, c2, c3, .pointer (some ⟨T, 0, none⟩), .pointer (some ⟨X, 0, none⟩), .pointer (some ⟨B, 0, none⟩), .int .i64 col, c8, .int .i64 m, c10, c11, c12, c13, c14, c15, c16, c17, c18, c19, c20, c21, c22, c23, c24, c25, c26, c27, c28, c29, c30, c31, c32, c33, c34, c35, c36, c37, c38, c39, c40, c41, c42, c43, c44, c45, c46, c47, c48, c49, c50, c51, c52, c53, c54, c55, c56, c57, c58, c59, c60, c61, c62, c63, c64], []⟩ W := by
  obtain ⟨⟨k0, n0, t0, b0, e0'⟩, hres⟩ : ∃ v, lookF l R C x (wayI m) col f = v := ⟨_, rfl⟩
  rw [hres]
  have HRES := hide hres
  have HT0 := hide hT
  have HA0 := hide HA
  have HR0 := hide HR
  have hle := HR.upd.size
  have hle2 := HR.le
  obtain ⟨rd0, rd1, rd2⟩ := cells3 HR.blk
  have rdl := lt_at HR.blk
  obtain ⟨b0_, b1_, b2_⟩ := cells3 hB
  have bl_ := lt_at hB
  have HX := hide hX
  have HB := hide hB
  have HV := hide hv
  conv => arg 2; whnf
  clear hres hT HA HR hX hB hv
  by_cases hf : f ≠ 0
  · have bf : (f != 0) = true := by simpa using hf
    have EA := fun w => E_any w 4
    have hev : mkE 4 = ⟨k0, n0, t0, b0, e0'⟩ := by rw [← HRES.out]; unfold lookF; rw [if_pos (.inl hf)]
    rw [hev] at EA
    unfold Vl.val at EA
    simp only at EA
    clear hev
    go_wp2_with fail
    refine Calls.mono (EA _) ?_
    rintro e w7 ⟨rfl, u7⟩
    have HA7 := hide (HA0.out.then u7 (fun _ _ h => h.elim))
    have bV := u7.get HT0.out id
    obtain ⟨v0, v1, v2, v3, v4⟩ := cells5 bV
    have vl := lt_at bV
    have fv0 := free_at bV 0
    have fv1 := free_at bV 1
    have fv2 := free_at bV 2
    have fv3 := free_at bV 3
    have fv4 := free_at bV 4
    have HBV := hide bV
    have HR7 := hide (HR0.out.keep u7)
    clear bV u7 EA
    go_wp2_with fail
    (try simp only [Exit.inBlock, Exit.then])
    refine bodyPost_ret (ret_vl rfl _ _ T ⟨k0, n0, t0, b0, e0'⟩ rfl (block5 (x := vZero) HBV.out _ _ _ _ _)) rfl ?_
    have uu := upd5 HA7.out hTw (.int .i64 k0) (.int .i64 n0) (enS t0) (.bool b0) (.int .i64 e0')
    exact ⟨rfl, ⟨k, set5_get HR7.out.blk (by omega) _ _ _ _ _, HR7.out.le, (upd5 HR7.out.upd (by omega) _ _ _ _ _), HR7.out.rd, HR7.out.pos⟩, uu⟩
  · have hf0 : f = 0 := by omega
    have bf : (f != 0) = false := by simpa using hf0
    by_cases h1 : col < 1
    · have EA := fun w => E_any w 4
      have hev : mkE 4 = ⟨k0, n0, t0, b0, e0'⟩ := by rw [← HRES.out]; unfold lookF; rw [if_pos (.inr (.inl h1))]
      rw [hev] at EA
      unfold Vl.val at EA
      simp only at EA
      clear hev
      go_wp2_with fail
      refine Calls.mono (EA _) ?_
      rintro e w7 ⟨rfl, u7⟩
      have HA7 := hide (HA0.out.then u7 (fun _ _ h => h.elim))
      have bV := u7.get HT0.out id
      obtain ⟨v0, v1, v2, v3, v4⟩ := cells5 bV
      have vl := lt_at bV
      have fv0 := free_at bV 0
      have fv1 := free_at bV 1
      have fv2 := free_at bV 2
      have fv3 := free_at bV 3
      have fv4 := free_at bV 4
      have HBV := hide bV
      have HR7 := hide (HR0.out.keep u7)
      clear bV u7 EA
      go_wp2_with fail
      (try simp only [Exit.inBlock, Exit.then])
      refine bodyPost_ret (ret_vl rfl _ _ T ⟨k0, n0, t0, b0, e0'⟩ rfl (block5 (x := vZero) HBV.out _ _ _ _ _)) rfl ?_
      have uu := upd5 HA7.out hTw (.int .i64 k0) (.int .i64 n0) (enS t0) (.bool b0) (.int .i64 e0')
      exact ⟨rfl, ⟨k, set5_get HR7.out.blk (by omega) _ _ _ _ _, HR7.out.le, (upd5 HR7.out.upd (by omega) _ _ _ _ _), HR7.out.rd, HR7.out.pos⟩, uu⟩
    · by_cases h2 : (C : Int) < col
      · have EA := fun w => E_any w 4
        have hev : mkE 4 = ⟨k0, n0, t0, b0, e0'⟩ := by rw [← HRES.out]; unfold lookF; rw [if_pos (.inr (.inr h2))]
        rw [hev] at EA
        unfold Vl.val at EA
        simp only at EA
        clear hev
        go_wp2_with fail
        refine Calls.mono (EA _) ?_
        rintro e w7 ⟨rfl, u7⟩
        have HA7 := hide (HA0.out.then u7 (fun _ _ h => h.elim))
        have bV := u7.get HT0.out id
        obtain ⟨v0, v1, v2, v3, v4⟩ := cells5 bV
        have vl := lt_at bV
        have fv0 := free_at bV 0
        have fv1 := free_at bV 1
        have fv2 := free_at bV 2
        have fv3 := free_at bV 3
        have fv4 := free_at bV 4
        have HBV := hide bV
        have HR7 := hide (HR0.out.keep u7)
        clear bV u7 EA
        go_wp2_with fail
        (try simp only [Exit.inBlock, Exit.then])
        refine bodyPost_ret (ret_vl rfl _ _ T ⟨k0, n0, t0, b0, e0'⟩ rfl (block5 (x := vZero) HBV.out _ _ _ _ _)) rfl ?_
        have uu := upd5 HA7.out hTw (.int .i64 k0) (.int .i64 n0) (enS t0) (.bool b0) (.int .i64 e0')
        exact ⟨rfl, ⟨k, set5_get HR7.out.blk (by omega) _ _ _ _ _, HR7.out.le, (upd5 HR7.out.upd (by omega) _ _ _ _ _), HR7.out.rd, HR7.out.pos⟩, uu⟩
      · have WY := fun W => way_any W m
        obtain ⟨m2, hm2⟩ : ∃ z, wayI m = z := ⟨_, rfl⟩
        rw [hm2] at WY HRES
        have hlen : ((turnL R C l).take R).length ≤ 1000000 := by rw [List.length_take]; omega
        have FI := fun W h => first_any W l va vc R C h hRC hl hR4 hC4 hC1
        have PL := fun W a c h => Place_any W x ((turnL R C l).take R) a c m2 hxo hxt (turn_oks hlo) hlen h
        have hRn : ((turnL R C l).take R).length = R := by rw [List.length_take, turnL_len]; exact Nat.min_eq_left (Nat.le_mul_of_pos_right R hC1)
        rw [hRn] at PL
        obtain ⟨N, hN⟩ : ∃ N, placeV m2 x ((turnL R C l).take R) = N := ⟨_, rfl⟩
        rw [hN] at PL
        have hNR : N ≤ R := by rw [← hN]; exact Nat.le_trans (placeV_le _ _ _) (Nat.le_of_eq hRn)
        have hres2 : (if N = 0 then mkE 6 else atV l (R : Int) (C : Int) (N : Int) col) = ⟨k0, n0, t0, b0, e0'⟩ := by
          rw [← HRES.out]
          unfold lookF
          have hcond : ¬ (f ≠ 0 ∨ col < 1 ∨ (C : Int) < col) := by omega
          rw [if_neg hcond, hN]
        have hNr : -1000000000000000 ≤ (N : Int) ∧ (N : Int) ≤ 1000000000000000 := by omega
        have AT := fun W h => tat_any W l va vc R C (N : Int) col h hRC hl hR4 hC4 hNr hcr
        have HRES2 := hide hres2
        have hXx := HX.out
        have hcr1 := hide hcr
        have HRC := hide hRC
        obtain ⟨xk, xn, xt, xb, xf⟩ := x
        obtain ⟨x0, x1, x2, x3, x4⟩ := cells5 hXx
        have xl := lt_at hXx
        unfold Vl.val at PL
        simp only at PL x0 x1 x2 x3 x4
        have HPL := hide PL
        have HFI := hide FI
        have HAT := hide AT
        clear hXx PL FI AT hres2 hN hRn hlen hm2 hxo hxt hlo hcr hRC hNr
        go_wp2_with fail
        go_region_held3 (fun w' => w'.cell? ⟨X, 0, none⟩ = some (.int .i64 xk) ∧ w'.cell? ⟨X, 1, none⟩ = some (.int .i64 xn) ∧ w'.cell? ⟨X, 2, none⟩ = some (enS xt) ∧ w'.cell? ⟨X, 3, none⟩ = some (.bool xb) ∧ w'.cell? ⟨X, 4, none⟩ = some (.int .i64 xf) ∧ w'.cell? ⟨B, 0, none⟩ = some (.slice va l.length vc) ∧ w'.cell? ⟨B, 1, none⟩ = some (.int .i64 (R : Int)) ∧ w'.cell? ⟨B, 2, none⟩ = some (.int .i64 (C : Int)))
          (first | (go_keep; done) | exact ⟨x0, x1, x2, x3, x4, b0_, b1_, b2_⟩ | (exact ⟨(u6.cell X _ (Nat.lt_of_lt_of_le xl u5.size) id).trans ((u5.cell X _ xl id).trans x0), (u6.cell X _ (Nat.lt_of_lt_of_le xl u5.size) id).trans ((u5.cell X _ xl id).trans x1), (u6.cell X _ (Nat.lt_of_lt_of_le xl u5.size) id).trans ((u5.cell X _ xl id).trans x2), (u6.cell X _ (Nat.lt_of_lt_of_le xl u5.size) id).trans ((u5.cell X _ xl id).trans x3), (u6.cell X _ (Nat.lt_of_lt_of_le xl u5.size) id).trans ((u5.cell X _ xl id).trans x4), (u6.cell B _ (Nat.lt_of_lt_of_le bl_ u5.size) id).trans ((u5.cell B _ bl_ id).trans b0_), (u6.cell B _ (Nat.lt_of_lt_of_le bl_ u5.size) id).trans ((u5.cell B _ bl_ id).trans b1_), (u6.cell B _ (Nat.lt_of_lt_of_le bl_ u5.size) id).trans ((u5.cell B _ bl_ id).trans b2_)⟩) | (exact ⟨(u5.cell X _ xl id).trans x0, (u5.cell X _ xl id).trans x1, (u5.cell X _ xl id).trans x2, (u5.cell X _ xl id).trans x3, (u5.cell X _ xl id).trans x4, (u5.cell B _ bl_ id).trans b0_, (u5.cell B _ bl_ id).trans b1_, (u5.cell B _ bl_ id).trans b2_⟩))
          (first
            | (go_at_call 81; refine Calls.mono (HFI.out _ HV.out.drew) ?_; rintro e w5 ⟨fa, fc, rfl, hfv, u5⟩)
            | (go_at_call 78; with_reducible refine Calls.mono (WY _) ?_; rintro e w8 ⟨rfl, hw⟩; obtain rfl := hw.symm; clear hw)
            | (go_at_call 10; refine Calls.mono (HPL.out _ fa fc hfv) ?_; rintro e w6 ⟨rfl, u6⟩))
        have u56 := (((Upd.refl W (fun _ => False)).drew).then u5 (fun _ _ h => h)).then u6 (fun _ _ h => h)
        have HA6 := hide (HA0.out.then u56 (fun _ _ h => h.elim))
        have HR6 := hide (HR0.out.keep u56)
        have HT6 := hide (u56.get HT0.out id)
        have HV6 := hide (HV.out.upd u56)
        have hB6 := u56.get HB.out id
        clear u5 u6 u56 hfv HPL HFI WY x0 x1 x2 x3 x4 xl b0_ b1_ b2_ bl_ rd0 rd1 rd2 rdl
        by_cases hN0 : N = 0
        · have bN : ((N : Int) == 0) = true := by simp; omega
          have EA := fun w => E_any w 6
          have hev : mkE 6 = ⟨k0, n0, t0, b0, e0'⟩ := by have := HRES2.out; rwa [if_pos hN0] at this
          rw [hev] at EA
          unfold Vl.val at EA
          simp only at EA
          clear hev
          go_wp2_with fail
          refine Calls.mono (EA _) ?_
          rintro e w7 ⟨rfl, u7⟩
          have HA7 := hide (HA6.out.then u7 (fun _ _ h => h.elim))
          have bV := u7.get HT6.out id
          obtain ⟨v0, v1, v2, v3, v4⟩ := cells5 bV
          have vl := lt_at bV
          have fv0 := free_at bV 0
          have fv1 := free_at bV 1
          have fv2 := free_at bV 2
          have fv3 := free_at bV 3
          have fv4 := free_at bV 4
          have HBV := hide bV
          have HR7 := hide (HR6.out.keep u7)
          clear bV u7 EA
          go_wp2_with fail
          (try simp only [Exit.inBlock, Exit.then])
          refine bodyPost_ret (ret_vl rfl _ _ T ⟨k0, n0, t0, b0, e0'⟩ rfl (block5 (x := vZero) HBV.out _ _ _ _ _)) rfl ?_
          have uu := upd5 HA7.out hTw (.int .i64 k0) (.int .i64 n0) (enS t0) (.bool b0) (.int .i64 e0')
          exact ⟨rfl, ⟨k, set5_get HR7.out.blk (by omega) _ _ _ _ _, HR7.out.le, (upd5 HR7.out.upd (by omega) _ _ _ _ _), HR7.out.rd, HR7.out.pos⟩, uu⟩
        · have bN : ((N : Int) == 0) = false := by simp; omega
          have hev : atV l (R : Int) (C : Int) (N : Int) col = ⟨k0, n0, t0, b0, e0'⟩ := by have := HRES2.out; rwa [if_neg hN0] at this
          have AT := HAT.out
          rw [hev] at AT
          unfold Vl.val at AT
          simp only at AT
          obtain ⟨b0_, b1_, b2_⟩ := cells3 hB6
          have bl_ := lt_at hB6
          clear hev hB6
          go_wp2_with fail
          refine Calls.mono (AT _ HV6.out) ?_
          rintro e w7 ⟨rfl, u7⟩
          have HA7 := hide (HA6.out.then u7 (fun _ _ h => h.elim))
          have bV := u7.get HT6.out id
          obtain ⟨v0, v1, v2, v3, v4⟩ := cells5 bV
          have vl := lt_at bV
          have fv0 := free_at bV 0
          have fv1 := free_at bV 1
          have fv2 := free_at bV 2
          have fv3 := free_at bV 3
          have fv4 := free_at bV 4
          have HBV := hide bV
          have HR7 := hide (HR6.out.keep u7)
          clear bV u7 AT
          go_wp2_with fail
          (try simp only [Exit.inBlock, Exit.then])
          refine bodyPost_ret (ret_vl rfl _ _ T ⟨k0, n0, t0, b0, e0'⟩ rfl (block5 (x := vZero) HBV.out _ _ _ _ _)) rfl ?_
          have uu := upd5 HA7.out hTw (.int .i64 k0) (.int .i64 n0) (enS t0) (.bool b0) (.int .i64 e0')
          exact ⟨rfl, ⟨k, set5_get HR7.out.blk (by omega) _ _ _ _ _, HR7.out.le, (upd5 HR7.out.upd (by omega) _ _ _ _ _), HR7.out.rd, HR7.out.pos⟩, uu⟩
end Go.Proofs.YtdjpkkgcoainhaaGreatDoor
/- The walk of lookup. -/
set_option maxRecDepth 100000
namespace Go.Proofs.YtdjpkkgcoainhaaGreatDoor
open Go.RowKit Go.Lat Go.Lib

theorem lookupP_eq {aa : List Ar} {across : Bool} {f1 : Int} {b : Ar} {R C : Nat} {x : Vl} {col m f : Int} {s3 : Nat × Int} {k4 : Nat} (hs1 : thgS aa (0, 0) = (1, f1)) (hx : sglV aa (0, 0) = x) (hb : aa[1]? = some b) (hcol : cntV aa (2, f1) 0 = col) (hs3 : cntS aa (2, f1) = s3) (hm : cntV aa s3 0 = m) (hs4 : cntS aa s3 = (k4, f)) (hR : rowsA b = R) (hC : colsA b = C) :
    lookupP aa across = (if across = true ∧ f = 0 then lookF (turnL R C b.v) C R x (wayI m) col f else lookF b.v R C x (wayI m) col f, f) := by
  unfold lookupP
  simp only [hs1, hx, hcol, hs3, hm, hs4, argA_at hb, hR, hC]
  split
  · simp only [Int.toNat_natCast]
    rfl
  · simp only [Int.toNat_natCast]
    rfl
theorem RrAt.keep' {w0 w w' : World} {r : Nat} {p : Option Addr} {pc : Nat} {aa : List Ar} {s : Nat × Int} {g : Nat} (h : RrAt w0 w r p pc aa s) (u : Upd w w' (fun j => j = g)) (hg : w0.heap.size ≤ g) (hr : r ≠ g) : RrAt w0 w' r p pc aa s :=
  ⟨u.get h.blk hr, h.le, h.upd.then u (fun i hi e => by omega), h.rd, h.pos⟩
theorem turn_oksA {R C : Nat} {l : List Vl} (h : oksV l) : oksV (turnL R C l) := fun x hx => by
  unfold turnL at hx
  rw [List.mem_map] at hx
  obtain ⟨j, -, rfl⟩ := hx
  rw [List.getD_eq_getElem?_getD]
  cases hq : l[j % R * C + j / R]? with
  | none => exact ⟨vZero_ok, by decide⟩
  | some y => exact h y (List.mem_of_getElem? hq)
set_option maxHeartbeats 6400000 in
theorem lookup_any (w0 w : World) (r : Nat) (p : Option Addr) (pc : Nat) (aa : List Ar) (across : Bool) (H : RrAt w0 w r p pc aa (0, 0)) (A : ArgsOk aa) (a b : Ar) (ha : aa[0]? = some a) (hb : aa[1]? = some b) :
    Calls Tryz.prog 58 #[.pointer (some ⟨r, 0, none⟩), .bool across] w (RdPost w0 w r p pc aa (lookupP aa across).1 (lookupP aa across).2) := by
  have hrl := lt_at H.blk
  have hle := H.le
  obtain ⟨f1, hs1⟩ := thg_1 (f := 0) ha
  obtain ⟨R, C, hR, hC, hRC, hR1, hC1, hl, hR4, hC4⟩ := dims_le (A.good b (List.mem_of_getElem? hb))
  obtain ⟨s3, hs3⟩ : ∃ s, cntS aa (2, f1) = s := ⟨_, rfl⟩
  obtain ⟨col, hcol⟩ : ∃ m, cntV aa (2, f1) 0 = m := ⟨_, rfl⟩
  obtain ⟨⟨k4, f⟩, hs4⟩ : ∃ s, cntS aa s3 = s := ⟨_, rfl⟩
  obtain ⟨m, hm⟩ : ∃ m, cntV aa s3 0 = m := ⟨_, rfl⟩
  have hob := A.oks b (List.mem_of_getElem? hb)
  have hok := sgl_ok A (0, 0)
  obtain ⟨x, hx⟩ : ∃ x, sglV aa (0, 0) = x := ⟨_, rfl⟩
  rw [lookupP_eq (across := across) hs1 hx hb hcol hs3 hm hs4 hR hC]
  have TH := thing_any w0 _ r p pc aa (0, 0) (H.alloc (.cells #[.int .i64 0, .int .i64 0, .string ⟨#[]⟩, .bool false, .int .i64 0] 29)) A
  have LI := fun W h => table_any w0 W r p pc aa (1, f1) h A b hb
  have C1 := fun W h => count_any w0 W r p pc aa (2, f1) 0 h A
  have C2 := fun W h => count_any w0 W r p pc aa s3 0 h A
  have hcr := hcol ▸ cntV_rng aa (2, f1) 0 (by omega)
  obtain ⟨g1, hg1⟩ : ∃ m, sglB aa (2, f1) = m := ⟨_, rfl⟩
  obtain ⟨g2, hg2⟩ : ∃ m, sglB aa s3 = m := ⟨_, rfl⟩
  rw [hx] at TH hok
  rw [hs1] at TH
  rw [hR, hC] at LI
  rw [hs3, hcol, hg1] at C1
  rw [hs4, hm, hg2] at C2
  have HA0 : Hid (Upd (w.alloc (.cells #[.int .i64 0, .int .i64 0, .string ⟨#[]⟩, .bool false, .int .i64 0] 29)) (w.alloc (.cells #[.int .i64 0, .int .i64 0, .string ⟨#[]⟩, .bool false, .int .i64 0] 29)) (fun j => j = r)) := hide (Upd.refl _ _)
  have HBO := hide hob.1
  have HXO := hide hok
  have HRC := hide hRC
  have HCR := hide hcr
  clear hs1 hs3 hs4 hm hob hok hx H hcol hR hC hcr hRC hg1 hg2
  obtain ⟨xk, xn, xt, xb, xf⟩ := x
  unfold Vl.val at TH
  simp only at TH LI C1 C2
  by_cases hc : across = true ∧ f = 0
  · rw [if_pos hc]
    obtain ⟨rfl, rfl⟩ := hc
    have TU := fun W va vc h => turned_any W b.v va vc R C h HRC.out hl hR4 hC4
    have hlen : (turnL R C b.v).length = b.v.length := by rw [turnL_len, HRC.out]
    have HLEN := hide hlen
    clear hlen
    go_enter Tryz.func58, Tryz.ntmps58
    change Code.wp Tryz.prog (Code.seq (Code.region 0 _ _) (Code.seq (Code.region 1 _ _) (Code.seq (Code.region 2 _ _) (Code.seq (Code.region 3 _ _) (Code.seq _ lookC))))) _ _ _
    go_wp2_with fail
    refine Calls.mono TH ?_
    rintro e w1 ⟨rfl, h1, u1⟩
    have HA1 := hide (HA0.out.then u1 (fun _ _ h => h))
    clear u1 TH HA0
    go_wp2_with fail
    refine Calls.mono (LI _ h1) ?_
    rintro e w2 ⟨va, vc, rfl, hv, h2, u2⟩
    have HA2 := hide (((HA1.out.then u2 (fun _ _ h => h)).alloc (.cells (Vl.mk xk xn xt xb xf).cs 29)).alloc (.cells #[.slice va b.v.length vc, .int .i64 (R : Int), .int .i64 (C : Int)] 110))
    have HX := hide (block_alloc (Vnew1 w2 (.cells (Vl.mk xk xn xt xb xf).cs 29)) (.cells #[.slice va b.v.length vc, .int .i64 (R : Int), .int .i64 (C : Int)] 110))
    have HB := hide (Vnew2 w2 (.cells (Vl.mk xk xn xt xb xf).cs 29) (.cells #[.slice va b.v.length vc, .int .i64 (R : Int), .int .i64 (C : Int)] 110))
    have h2' := (h2.alloc (.cells (Vl.mk xk xn xt xb xf).cs 29)).alloc (.cells #[.slice va b.v.length vc, .int .i64 (R : Int), .int .i64 (C : Int)] 110)
    have hx2 : r < w2.heap.size := lt_at h2.blk
    have hw2 : w.heap.size + 1 ≤ w1.heap.size := by have := HA1.out.size; simpa using this
    have hw2' := u2.size
    have HVV := hide hv
    clear u2 LI HA1 h1 h2 hv
    go_wp2_with fail
    refine Calls.mono (C1 _ h2') ?_
    rintro e w3 ⟨rfl, h3, u3⟩
    have HX3 := hide (u3.get HX.out (show ¬ w2.heap.size = r by omega))
    have HB3 := hide (u3.get HB.out (show ¬ w2.heap.size + 1 = r by omega))
    have HA3 := hide (HA2.out.then u3 (fun _ _ h => h))
    clear u3 C1 HA2 h2' HX HB
    go_wp2_with fail
    refine Calls.mono (C2 _ h3) ?_
    rintro e w4 ⟨rfl, h4, u4⟩
    have HX4 := hide (u4.get HX3.out (show ¬ w2.heap.size = r by omega))
    have bB := u4.get HB3.out (show ¬ w2.heap.size + 1 = r by omega)
    have HA4 := hide (HA3.out.then u4 (fun _ _ h => h))
    have HR4 := hide h4
    obtain ⟨rd0, rd1, rd2⟩ := cells3 h4.blk
    have rdl := lt_at h4.blk
    obtain ⟨b0, b1, b2⟩ := cells3 bB
    have bl := lt_at bB
    have fb0 := free_at bB 0
    have fb1 := free_at bB 1
    have fb2 := free_at bB 2
    have HB4 := hide bB
    clear u4 C2 HA3 HX3 HB3 h3 h4 bB
    go_wp2_with fail
    refine Calls.mono (TU _ va vc (HVV.out.upd HR4.out.upd)) ?_
    rintro e w5 ⟨ta, tc, rfl, hrw, how, u5⟩
    have bB := u5.get HB4.out id
    have HA5 := hide (HA4.out.then u5 (fun _ _ h => h.elim))
    have HR5 := hide (HR4.out.keep u5)
    have HX5 := hide (u5.get HX4.out id)
    clear b0 b1 b2 bl fb0 fb1 fb2 rd0 rd1 rd2 rdl
    obtain ⟨b0, b1, b2⟩ := cells3 bB
    have bl := lt_at bB
    have fb0 := free_at bB 0
    have fb1 := free_at bB 1
    have fb2 := free_at bB 2
    have HB5 := hide bB
    have hsz := u5.size
    have HRW := hide hrw
    have HOW := hide how
    have hs4 := lt_at HB4.out
    clear bB u5 TU HA4 HR4 HX4 HB4 hrw how
    go_wp2_with fail
    have hC0 : 1 ≤ R := hR1
    have u6 : Upd w5 (((w5.setCell ⟨w2.heap.size + 1, 0, none⟩ (.slice ta b.v.length tc)).setCell ⟨w2.heap.size + 1, 1, none⟩ (.int .i64 (C : Int))).setCell ⟨w2.heap.size + 1, 2, none⟩ (.int .i64 (R : Int))) (fun j => j = w2.heap.size + 1) :=
      (((Upd.refl w5 (fun j => j = w2.heap.size + 1)).setCell _ _ (.inr rfl)).setCell _ _ (.inr rfl)).setCell _ _ (.inr rfl)
    have hn1 : (Value.slice ta b.v.length tc).ownBlock ≠ some (w2.heap.size + 1) := fun e => by have := HOW.out _ e; omega
    refine look_rest w0 w _ r p pc aa k4 0 w.heap.size w2.heap.size (w2.heap.size + 1) ta tc C R (turnL R C b.v) ⟨xk, xn, xt, xb, xf⟩ col m _ _ _ _ _ _ _ _ _ _ _ _ _ _ _ _ _ _ _ _ _ _ _ _ _ _ _ _ _ _ _ _ _ _ _ _ _ _ _ _ _ _ _ _ _ _ _ _ _ _ _ _ _ _ _ _ _ _ _ (HR5.out.keep' u6 (by omega) (by omega)) (upd3 (upd_a HA5.out) (by omega) _ _ _) hrl (Nat.le_refl _) (u6.get (HA5.out.get (Vnew1 w _) (show ¬ w.heap.size = r by omega)) (show ¬ w.heap.size = w2.heap.size + 1 by omega)) (u6.get HX5.out (show ¬ w2.heap.size = w2.heap.size + 1 by omega)) (by rw [HLEN.out]; exact block3 HB5.out _ _ _) (rdV_of (n := b.v.length) HLEN.out (((HRW.out.setCell _ _ hn1).setCell _ _ hn1).setCell _ _ hn1)) (by rw [HLEN.out, Nat.mul_comm]; exact HRC.out) (by rw [HLEN.out]; exact hl) hC4 hR4 hC0 HXO.out.1 HXO.out.2 (fun x hx => turn_oksA HBO.out x hx) HCR.out
  · rw [if_neg hc]
    have hcc : across = false ∨ across = true ∧ (f == 0) = false := by
      cases across with
      | false => exact .inl rfl
      | true => exact .inr ⟨rfl, by simpa using fun h => hc ⟨rfl, h⟩⟩
    clear hc
    rcases hcc with rfl | ⟨rfl, bf⟩
    · go_enter Tryz.func58, Tryz.ntmps58
      change Code.wp Tryz.prog (Code.seq (Code.region 0 _ _) (Code.seq (Code.region 1 _ _) (Code.seq (Code.region 2 _ _) (Code.seq (Code.region 3 _ _) (Code.seq _ lookC))))) _ _ _
      go_wp2_with fail
      refine Calls.mono TH ?_
      rintro e w1 ⟨rfl, h1, u1⟩
      have HA1 := hide (HA0.out.then u1 (fun _ _ h => h))
      clear u1 TH HA0
      go_wp2_with fail
      refine Calls.mono (LI _ h1) ?_
      rintro e w2 ⟨va, vc, rfl, hv, h2, u2⟩
      have HA2 := hide (((HA1.out.then u2 (fun _ _ h => h)).alloc (.cells (Vl.mk xk xn xt xb xf).cs 29)).alloc (.cells #[.slice va b.v.length vc, .int .i64 (R : Int), .int .i64 (C : Int)] 110))
      have HX := hide (block_alloc (Vnew1 w2 (.cells (Vl.mk xk xn xt xb xf).cs 29)) (.cells #[.slice va b.v.length vc, .int .i64 (R : Int), .int .i64 (C : Int)] 110))
      have HB := hide (Vnew2 w2 (.cells (Vl.mk xk xn xt xb xf).cs 29) (.cells #[.slice va b.v.length vc, .int .i64 (R : Int), .int .i64 (C : Int)] 110))
      have h2' := (h2.alloc (.cells (Vl.mk xk xn xt xb xf).cs 29)).alloc (.cells #[.slice va b.v.length vc, .int .i64 (R : Int), .int .i64 (C : Int)] 110)
      have hx2 : r < w2.heap.size := lt_at h2.blk
      have hw2 : w.heap.size + 1 ≤ w1.heap.size := by have := HA1.out.size; simpa using this
      have hw2' := u2.size
      have HVV := hide hv
      clear u2 LI HA1 h1 h2 hv
      go_wp2_with fail
      refine Calls.mono (C1 _ h2') ?_
      rintro e w3 ⟨rfl, h3, u3⟩
      have HX3 := hide (u3.get HX.out (show ¬ w2.heap.size = r by omega))
      have HB3 := hide (u3.get HB.out (show ¬ w2.heap.size + 1 = r by omega))
      have HA3 := hide (HA2.out.then u3 (fun _ _ h => h))
      clear u3 C1 HA2 h2' HX HB
      go_wp2_with fail
      refine Calls.mono (C2 _ h3) ?_
      rintro e w4 ⟨rfl, h4, u4⟩
      have HX4 := hide (u4.get HX3.out (show ¬ w2.heap.size = r by omega))
      have bB := u4.get HB3.out (show ¬ w2.heap.size + 1 = r by omega)
      have HA4 := hide (HA3.out.then u4 (fun _ _ h => h))
      have HR4 := hide h4
      obtain ⟨rd0, rd1, rd2⟩ := cells3 h4.blk
      have rdl := lt_at h4.blk
      obtain ⟨b0, b1, b2⟩ := cells3 bB
      have bl := lt_at bB
      have fb0 := free_at bB 0
      have fb1 := free_at bB 1
      have fb2 := free_at bB 2
      have HB4 := hide bB
      clear u4 C2 HA3 HX3 HB3 h3 h4 bB
      go_wp2_with fail
      refine look_rest w0 w _ r p pc aa k4 f w.heap.size w2.heap.size (w2.heap.size + 1) va vc R C b.v ⟨xk, xn, xt, xb, xf⟩ col m _ _ _ _ _ _ _ _ _ _ _ _ _ _ _ _ _ _ _ _ _ _ _ _ _ _ _ _ _ _ _ _ _ _ _ _ _ _ _ _ _ _ _ _ _ _ _ _ _ _ _ _ _ _ _ _ _ _ _ HR4.out (upd_a HA4.out) hrl (Nat.le_refl _) (HA4.out.get (Vnew1 w _) (show ¬ w.heap.size = r by omega)) HX4.out HB4.out (HVV.out.upd HR4.out.upd) HRC.out hl hR4 hC4 hC1 HXO.out.1 HXO.out.2 HBO.out HCR.out
    · go_enter Tryz.func58, Tryz.ntmps58
      change Code.wp Tryz.prog (Code.seq (Code.region 0 _ _) (Code.seq (Code.region 1 _ _) (Code.seq (Code.region 2 _ _) (Code.seq (Code.region 3 _ _) (Code.seq _ lookC))))) _ _ _
      go_wp2_with fail
      refine Calls.mono TH ?_
      rintro e w1 ⟨rfl, h1, u1⟩
      have HA1 := hide (HA0.out.then u1 (fun _ _ h => h))
      clear u1 TH HA0
      go_wp2_with fail
      refine Calls.mono (LI _ h1) ?_
      rintro e w2 ⟨va, vc, rfl, hv, h2, u2⟩
      have HA2 := hide (((HA1.out.then u2 (fun _ _ h => h)).alloc (.cells (Vl.mk xk xn xt xb xf).cs 29)).alloc (.cells #[.slice va b.v.length vc, .int .i64 (R : Int), .int .i64 (C : Int)] 110))
      have HX := hide (block_alloc (Vnew1 w2 (.cells (Vl.mk xk xn xt xb xf).cs 29)) (.cells #[.slice va b.v.length vc, .int .i64 (R : Int), .int .i64 (C : Int)] 110))
      have HB := hide (Vnew2 w2 (.cells (Vl.mk xk xn xt xb xf).cs 29) (.cells #[.slice va b.v.length vc, .int .i64 (R : Int), .int .i64 (C : Int)] 110))
      have h2' := (h2.alloc (.cells (Vl.mk xk xn xt xb xf).cs 29)).alloc (.cells #[.slice va b.v.length vc, .int .i64 (R : Int), .int .i64 (C : Int)] 110)
      have hx2 : r < w2.heap.size := lt_at h2.blk
      have hw2 : w.heap.size + 1 ≤ w1.heap.size := by have := HA1.out.size; simpa using this
      have hw2' := u2.size
      have HVV := hide hv
      clear u2 LI HA1 h1 h2 hv
      go_wp2_with fail
      refine Calls.mono (C1 _ h2') ?_
      rintro e w3 ⟨rfl, h3, u3⟩
      have HX3 := hide (u3.get HX.out (show ¬ w2.heap.size = r by omega))
      have HB3 := hide (u3.get HB.out (show ¬ w2.heap.size + 1 = r by omega))
      have HA3 := hide (HA2.out.then u3 (fun _ _ h => h))
      clear u3 C1 HA2 h2' HX HB
      go_wp2_with fail
      refine Calls.mono (C2 _ h3) ?_
      rintro e w4 ⟨rfl, h4, u4⟩
      have HX4 := hide (u4.get HX3.out (show ¬ w2.heap.size = r by omega))
      have bB := u4.get HB3.out (show ¬ w2.heap.size + 1 = r by omega)
      have HA4 := hide (HA3.out.then u4 (fun _ _ h => h))
      have HR4 := hide h4
      obtain ⟨rd0, rd1, rd2⟩ := cells3 h4.blk
      have rdl := lt_at h4.blk
      obtain ⟨b0, b1, b2⟩ := cells3 bB
      have bl := lt_at bB
      have fb0 := free_at bB 0
      have fb1 := free_at bB 1
      have fb2 := free_at bB 2
      have HB4 := hide bB
      clear u4 C2 HA3 HX3 HB3 h3 h4 bB
      go_wp2_with fail
      refine look_rest w0 w _ r p pc aa k4 f w.heap.size w2.heap.size (w2.heap.size + 1) va vc R C b.v ⟨xk, xn, xt, xb, xf⟩ col m _ _ _ _ _ _ _ _ _ _ _ _ _ _ _ _ _ _ _ _ _ _ _ _ _ _ _ _ _ _ _ _ _ _ _ _ _ _ _ _ _ _ _ _ _ _ _ _ _ _ _ _ _ _ _ _ _ _ _ HR4.out (upd_a HA4.out) hrl (Nat.le_refl _) (HA4.out.get (Vnew1 w _) (show ¬ w.heap.size = r by omega)) HX4.out HB4.out (HVV.out.upd HR4.out.upd) HRC.out hl hR4 hC4 hC1 HXO.out.1 HXO.out.2 HBO.out HCR.out
end Go.Proofs.YtdjpkkgcoainhaaGreatDoor
/- The walk of choose. -/
set_option maxRecDepth 100000
namespace Go.Proofs.YtdjpkkgcoainhaaGreatDoor
open Go.RowKit Go.Lat Go.Lib

theorem arg_size : ∃ i, Tryz.prog.info? 67 = some i ∧ i.size = 3 := by
  have h := Tryz.infoArg
  cases hi : Tryz.prog.info? 67 with
  | none => rw [hi] at h; simp at h
  | some i => rw [hi] at h; simp at h; exact ⟨i, rfl, h⟩
theorem slice_rest (g off n pc : Nat) (hn : 1 < n) (hc : n ≤ pc) (w : World) : (Instr.slice 44 (.slice (some ⟨g, off, none⟩) n pc) (some (.int .i64 1)) none none).run Tryz.prog w = .ok (.slice (some ⟨g, off + 3, none⟩) (n - 1) (pc - 1)) w := by
  have hel : Tryz.prog.elem 44 = 67 := by simp [Program.elem, Tryz.underlying44]
  obtain ⟨i, hi, hs⟩ := arg_size
  rw [run_slice_l w 44 _ n pc (by rw [hel]; exact Tryz.underlying44) .i64 1 (by omega) (by omega), hel]
  have h1 : ¬ pc = 1 := by omega
  simp [sizeOf, typeInfo, hi, hs, sliced, h1, Addr.add_lit]
theorem slice_one (g off n pc J : Nat) (z : Int) (hz : z = J + 1) (hn : J < n) (hc : n ≤ pc) (w : World) : (Instr.slice 44 (.slice (some ⟨g, off, none⟩) n pc) (some (.int .i64 (J : Int))) (some (.int .i64 z)) none).run Tryz.prog w = .ok (.slice (some ⟨g, off + J * 3, none⟩) 1 (pc - J)) w := by
  have hel : Tryz.prog.elem 44 = 67 := by simp [Program.elem, Tryz.underlying44]
  obtain ⟨i, hi, hs⟩ := arg_size
  rw [run_slice_lh w 44 _ n pc (by rw [hel]; exact Tryz.underlying44) .i64 .i64 (J : Int) z (by omega) (by omega) (by omega), hel]
  have h1 : ¬ pc = J := by omega
  have h2 : z.toNat - J = 1 := by omega
  simp [sizeOf, typeInfo, hi, hs, sliced, h1, h2, Addr.add_lit]
theorem chooseP_eq {aa : List Ar} {k f : Int} (hk : cntV aa (0, 0) 0 = k) (hs : cntS aa (0, 0) = (1, f)) :
    chooseP aa = (if k < 1 ∨ ((aa.drop 1).length : Int) < k then mkE 3 else if (thgS [argA (aa.drop 1) (k - 1).toNat] (0, 0)).2 ≠ 0 then mkE (thgS [argA (aa.drop 1) (k - 1).toNat] (0, 0)).2 else sglV [argA (aa.drop 1) (k - 1).toNat] (0, 0), f) := by
  unfold chooseP
  simp only [hk, hs]
set_option maxHeartbeats 6400000 in
theorem choose_any (w0 w : World) (r : Nat) (p : Option Addr) (pc : Nat) (aa : List Ar) (H : RrAt w0 w r p pc aa (0, 0)) (A : ArgsOk aa) (a b : Ar) (ha : aa[0]? = some a) (hb : aa[1]? = some b) (hpc : aa.length ≤ pc) :
    Calls Tryz.prog 60 #[.pointer (some ⟨r, 0, none⟩)] w (RdPost w0 w r p pc aa (chooseP aa).1 (chooseP aa).2) := by
  have hrl := lt_at H.blk
  have hle := H.le
  obtain ⟨f, hs1⟩ := sglS_1 (f := 0) ha
  obtain ⟨k, hk⟩ : ∃ m, cntV aa (0, 0) 0 = m := ⟨_, rfl⟩
  obtain ⟨g1, hg1⟩ : ∃ m, sglB aa (0, 0) = m := ⟨_, rfl⟩
  have C1 := count_any w0 _ r p pc aa (0, 0) 0 (H.alloc (.cells #[.int .i64 0, .int .i64 0, .string ⟨#[]⟩, .bool false, .int .i64 0] 29)) A
  have hkr := hk ▸ cntV_rng aa (0, 0) 0 (by omega)
  have hl1 : 1 < aa.length := (List.getElem?_eq_some_iff.1 hb).1
  have hl9 := A.len
  obtain ⟨g, off, -, -, rfl, hg0, -⟩ := H.rd 0 a ha
  have hrd := H.rd.drop 1
  rw [chooseP_eq hk hs1]
  rw [hs1, hk, hg1] at C1
  have SL := slice_rest g off aa.length pc hl1 hpc
  have hdl : (aa.drop 1).length = aa.length - 1 := by simp
  obtain ⟨⟨k0, n0, t0, b0, e0'⟩, hres⟩ : ∃ v, (if k < 1 ∨ ((aa.drop 1).length : Int) < k then mkE 3 else if (thgS [argA (aa.drop 1) (k - 1).toNat] (0, 0)).2 ≠ 0 then mkE (thgS [argA (aa.drop 1) (k - 1).toNat] (0, 0)).2 else sglV [argA (aa.drop 1) (k - 1).toNat] (0, 0)) = v := ⟨_, rfl⟩
  rw [hres]
  have HRES := hide hres
  have HRD := hide hrd
  have HA0 : Hid (Upd (w.alloc (.cells #[.int .i64 0, .int .i64 0, .string ⟨#[]⟩, .bool false, .int .i64 0] 29)) (w.alloc (.cells #[.int .i64 0, .int .i64 0, .string ⟨#[]⟩, .bool false, .int .i64 0] 29)) (fun j => j = r)) := hide (Upd.refl _ _)
  have HAA := hide A
  obtain ⟨hkr1, hkr2⟩ := hkr
  have HKR1 := hide hkr1
  have HKR2 := hide hkr2
  clear hs1 hk hg1 hres H A hrd hkr1 hkr2
  go_enter Tryz.func60, Tryz.ntmps60
  go_wp2_with fail
  refine Calls.mono C1 ?_
  rintro e w1 ⟨rfl, h1, u1⟩
  have HA1 := hide (HA0.out.then u1 (fun _ _ h => h))
  obtain ⟨rd0, rd1, rd2⟩ := cells3 h1.blk
  have rdl := lt_at h1.blk
  have HR1 := hide h1
  clear u1 C1 HA0 h1
  go_wp2_with fail
  go_quiet (fail)
  have HA2 := hide (HA1.out.drewN nq)
  have HR2 : Hid (RrAt w0 (w1.drewN nq) r (some ⟨g, off, none⟩) pc aa (1, f)) := hide (HR1.out.keep ((Upd.refl w1 (fun _ => False)).drewN nq))
  clear HA1 HR1 SL
  obtain ⟨W, hW⟩ : ∃ W, w1.drewN nq = W := ⟨_, rfl⟩
  rw [hW] at HA2 HR2 ⊢
  clear rd0 rd1 rd2 rdl hW
  by_cases hb2 : k < 1 ∨ ((aa.drop 1).length : Int) < k
  · have hev : mkE 3 = ⟨k0, n0, t0, b0, e0'⟩ := by have := HRES.out; rwa [if_pos hb2] at this
    have EA := fun w => E_any w 3
    rw [hev] at EA
    unfold Vl.val at EA
    simp only at EA
    have hcc : k < 1 ∨ ¬ k < 1 ∧ ((aa.length - 1 : Nat) : Int) < k := by rw [hdl] at hb2; omega
    clear hev hb2
    rcases hcc with q1 | ⟨q1, q2⟩
    all_goals
      go_wp2_with fail
      refine Calls.mono (EA _) ?_
      rintro e w7 ⟨rfl, u7⟩
      have HA7 := hide (HA2.out.then u7 (fun _ _ h => h.elim))
      have bV := HA7.out.get (Vnew1 w _) (show ¬ w.heap.size = r by omega)
      have HR7 := hide (HR2.out.keep u7)
      obtain ⟨v0, v1, v2, v3, v4⟩ := cells5 bV
      have vl := lt_at bV
      have fv0 := free_at bV 0
      have fv1 := free_at bV 1
      have fv2 := free_at bV 2
      have fv3 := free_at bV 3
      have fv4 := free_at bV 4
      have HBV := hide bV
      clear bV u7 EA
      go_wp2_with fail
      (try simp only [Exit.inBlock, Exit.then])
      refine bodyPost_ret (ret_vl rfl _ _ w.heap.size ⟨k0, n0, t0, b0, e0'⟩ rfl (block5 (x := vZero) HBV.out _ _ _ _ _)) rfl ?_
      have uu := upd5 (upd_a HA7.out) (Nat.le_refl _) (.int .i64 k0) (.int .i64 n0) (enS t0) (.bool b0) (.int .i64 e0')
      exact ⟨rfl, ⟨1, set5_get HR7.out.blk (by omega) _ _ _ _ _, hle, (upd5 HR7.out.upd (by omega) _ _ _ _ _), HR7.out.rd, HR7.out.pos⟩, uu⟩
  · obtain ⟨J, hJ⟩ : ∃ J : Nat, k = J + 1 := ⟨(k - 1).toNat, by omega⟩
    have hJl : J < aa.length - 1 := by rw [hdl] at hb2; omega
    have q1 : ¬ k < 1 := by omega
    have q2 : ¬ ((aa.length - 1 : Nat) : Int) < k := by omega
    have eJ : (k - 1).toNat = J := by omega
    have wJ : IntKind.i64.wrap (k - 1) = (J : Int) := by
      have : k - 1 = (J : Int) := by omega
      rw [this]; exact IntWalk.i64_in _ (by omega)
    have hres2 := HRES.out
    rw [if_neg hb2, eJ] at hres2
    obtain ⟨c, hc⟩ : ∃ c, (aa.drop 1)[J]? = some c := ⟨_, List.getElem?_eq_getElem (by rw [hdl]; exact hJl)⟩
    rw [argA_at hc] at hres2
    have hcm : c ∈ aa := List.mem_of_mem_drop (List.mem_of_getElem? hc)
    have A1 : ArgsOk [c] := ⟨by simp, fun x hx => by simp at hx; subst hx; exact HAA.out.good _ hcm, fun x hx => by simp at hx; subst hx; exact HAA.out.oks _ hcm⟩
    have SO := slice_one g (off + 3) (aa.length - 1) (pc - 1) J k hJ hJl (by omega)
    have rd1 : RdA w0 (some ⟨g, off + 3 + J * 3, none⟩) [c] := by
      have h1 := (HRD.out.drop J).take 1
      have e : ((aa.drop 1).drop J).take 1 = [c] := by
        rw [List.drop_eq_getElem_cons (by rw [hdl]; exact hJl)]
        have : (aa.drop 1)[J]? = some ((aa.drop 1)[J]'(by rw [hdl]; exact hJl)) := List.getElem?_eq_getElem _
        rw [hc] at this
        have := Option.some.inj this
        rw [← this]
        rfl
      rw [e] at h1
      exact h1
    have hWs : w.heap.size + 1 ≤ W.heap.size := by have := HA2.out.size; simpa using this
    have TH := thing_any w0 (W.alloc (.cells #[.slice (some ⟨g, off + 3 + J * 3, none⟩) 1 (pc - 1 - J), .int .i64 0, .int .i64 0] 87)) W.heap.size _ (pc - 1 - J) [c] (0, 0)
      ⟨Vnew1 W _, by have := HR2.out.upd.size; omega, HR2.out.upd.alloc _, rd1, by simp⟩ A1
    obtain ⟨⟨kb, fb⟩, hfb⟩ : ∃ s, thgS [c] (0, 0) = s := ⟨_, rfl⟩
    obtain ⟨⟨yk, yn, yt, yb, yf⟩, hy⟩ : ∃ y, sglV [c] (0, 0) = y := ⟨_, rfl⟩
    rw [hfb, hy] at TH
    rw [hfb, hy] at hres2
    have HRES2 := hide hres2
    have HR3 := hide (HR2.out.alloc (.cells #[.slice (some ⟨g, off + 3 + J * 3, none⟩) 1 (pc - 1 - J), .int .i64 0, .int .i64 0] 87))
    have HA3 := hide (HA2.out.alloc (.cells #[.slice (some ⟨g, off + 3 + J * 3, none⟩) 1 (pc - 1 - J), .int .i64 0, .int .i64 0] 87))
    unfold Vl.val at TH
    simp only at TH
    clear hres2 hfb hy rd1 A1 hcm hc hb2 eJ hJ hdl HKR1 HKR2
    go_wp2_with fail
    refine Calls.mono TH ?_
    rintro e w5 ⟨rfl, h5, u5⟩
    have HR5 := hide ((HR3.out.keep' u5 (by have := HR2.out.upd.size; omega) (by omega)).alloc (.cells #[.int .i64 yk, .int .i64 yn, enS yt, .bool yb, .int .i64 yf] 29))
    have HA5 := hide ((HA3.out.then u5 (fun i hi h => by simp at hi; omega)).alloc (.cells #[.int .i64 yk, .int .i64 yn, enS yt, .bool yb, .int .i64 yf] 29))
    have bQ := block_alloc h5.blk (.cells #[.int .i64 yk, .int .i64 yn, enS yt, .bool yb, .int .i64 yf] 29)
    have bY := Vnew1 w5 (.cells #[.int .i64 yk, .int .i64 yn, enS yt, .bool yb, .int .i64 yf] 29)
    simp only at bQ
    obtain ⟨q0, q1, q2⟩ := cells3 bQ
    have ql := lt_at bQ
    obtain ⟨y0, y1, y2, y3, y4⟩ := cells5 bY
    have yl := lt_at bY
    clear h5 bQ bY u5 TH SO HR3 HA3 HR2 HA2
    by_cases hf : fb ≠ 0
    · have bf : (fb != 0) = true := by simpa using hf
      have hev : mkE fb = ⟨k0, n0, t0, b0, e0'⟩ := by have := HRES2.out; rwa [if_pos hf] at this
      have EA := fun w => E_any w fb
      rw [hev] at EA
      unfold Vl.val at EA
      simp only at EA
      clear hev hf
      go_wp2_with fail
      refine Calls.mono (EA _) ?_
      rintro e w7 ⟨rfl, u7⟩
      have HA7 := hide (HA5.out.then u7 (fun _ _ h => h.elim))
      have bV := HA7.out.get (Vnew1 w _) (show ¬ w.heap.size = r by omega)
      have HR7 := hide (HR5.out.keep u7)
      obtain ⟨v0, v1, v2, v3, v4⟩ := cells5 bV
      have vl := lt_at bV
      have fv0 := free_at bV 0
      have fv1 := free_at bV 1
      have fv2 := free_at bV 2
      have fv3 := free_at bV 3
      have fv4 := free_at bV 4
      have HBV := hide bV
      clear bV u7 EA
      go_wp2_with fail
      (try simp only [Exit.inBlock, Exit.then])
      refine bodyPost_ret (ret_vl rfl _ _ w.heap.size ⟨k0, n0, t0, b0, e0'⟩ rfl (block5 (x := vZero) HBV.out _ _ _ _ _)) rfl ?_
      have uu := upd5 (upd_a HA7.out) (Nat.le_refl _) (.int .i64 k0) (.int .i64 n0) (enS t0) (.bool b0) (.int .i64 e0')
      exact ⟨rfl, ⟨1, set5_get HR7.out.blk (by omega) _ _ _ _ _, hle, (upd5 HR7.out.upd (by omega) _ _ _ _ _), HR7.out.rd, HR7.out.pos⟩, uu⟩
    · have bf : (fb != 0) = false := by simpa using hf
      have hev : (⟨yk, yn, yt, yb, yf⟩ : Vl) = ⟨k0, n0, t0, b0, e0'⟩ := by have := HRES2.out; rwa [if_neg hf] at this
      obtain ⟨rfl, rfl, rfl, rfl, rfl⟩ := Vl.mk.inj hev
      have bV := HA5.out.get (Vnew1 w _) (show ¬ w.heap.size = r by omega)
      clear hf
      obtain ⟨v0, v1, v2, v3, v4⟩ := cells5 bV
      have vl := lt_at bV
      have fv0 := free_at bV 0
      have fv1 := free_at bV 1
      have fv2 := free_at bV 2
      have fv3 := free_at bV 3
      have fv4 := free_at bV 4
      have HBV := hide bV
      clear bV hev
      go_wp2_with fail
      (try simp only [Exit.inBlock, Exit.then])
      refine bodyPost_ret (ret_vl rfl _ _ w.heap.size ⟨yk, yn, yt, yb, yf⟩ rfl (block5 (x := vZero) HBV.out _ _ _ _ _)) rfl ?_
      have uu := upd5 (upd_a HA5.out) (Nat.le_refl _) (.int .i64 yk) (.int .i64 yn) (enS yt) (.bool yb) (.int .i64 yf)
      exact ⟨rfl, ⟨1, set5_get HR5.out.blk (by omega) _ _ _ _ _, hle, (upd5 HR5.out.upd (by omega) _ _ _ _ _), HR5.out.rd, HR5.out.pos⟩, uu⟩
end Go.Proofs.YtdjpkkgcoainhaaGreatDoor
