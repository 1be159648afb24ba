/- The walk of the reference's told: VLOOKUP; what stands first (plain). -/
import Derived.Test.YtdjpkkgcoainhaaGreatDoorJ24
import Derived.Test.YtdjpkkgcoainhaaGreatDoorJ19
import Derived.Test.YtdjpkkgcoainhaaGreatDoorJ22
/- The walk of the reference's told: VLOOKUP; what stands first (plain). -/
set_option maxRecDepth 100000
namespace Go.Proofs.YtdjpkkgcoainhaaGreatDoor
open Go.RowKit Go.Lat Go.Lib

def firstP (across : Bool) (C : Nat) (l : List Vl) (k : Nat) : List Vl := (List.range k).filterMap fun i => if (across = true ∧ i < C ∨ across = false ∧ i % C = 0) then l[i]? else none
theorem firstP_all (across : Bool) (C : Nat) (l : List Vl) : firstP across C l l.length = firstL across C l := rfl
theorem firstP_yes {across : Bool} {C : Nat} {l : List Vl} {k : Nat} {y : Vl} (h : l[k]? = some y) (hc : across = true ∧ k < C ∨ across = false ∧ k % C = 0) : firstP across C l (k + 1) = firstP across C l k ++ [y] := by
  unfold firstP
  rw [List.range_succ, List.filterMap_append]
  simp only [List.filterMap_cons, List.filterMap_nil]
  rw [if_pos hc, h]
theorem firstP_no {across : Bool} {C : Nat} {l : List Vl} {k : Nat} (hc : ¬ (across = true ∧ k < C ∨ across = false ∧ k % C = 0)) : firstP across C l (k + 1) = firstP across C l k := by
  unfold firstP
  rw [List.range_succ, List.filterMap_append]
  simp only [List.filterMap_cons, List.filterMap_nil]
  rw [if_neg hc, List.append_nil]
theorem firstP_len (across : Bool) (C : Nat) (l : List Vl) : ∀ k, (firstP across C l k).length ≤ k
  | 0 => Nat.le_refl _
  | k + 1 => by
    have := firstP_len across C l k
    unfold firstP at this ⊢
    rw [List.range_succ, List.filterMap_append, List.length_append]
    simp only [List.filterMap_cons, List.filterMap_nil]
    split
    · simp; omega
    · simp; omega
theorem firstP_mem {across : Bool} {C : Nat} {l : List Vl} {k : Nat} {x : Vl} (h : x ∈ firstP across C l k) : x ∈ l := by
  unfold firstP at h
  rw [List.mem_filterMap] at h
  obtain ⟨i, -, hi⟩ := h
  split at hi
  · exact List.mem_of_getElem? hi
  · cases hi
theorem Tryz.infoRl : (Tryz.prog.info? 30).map (fun i => (i.zero, i.size, i.bytes)) = some (some (.agg #[.int .i64 0, .int .i64 0, .string ⟨#[]⟩, .bool false, .int .i64 0]), 5, 48) := by kernel_rfl
theorem rdV_drew {w : World} {va : Option Addr} {l : List Vl} (h : RdV w va l) : RdV w.drew va l := h
theorem own_of {w : World} {v' v : Value} {n : Nat} (h : v'.ownBlock = v.ownBlock ∨ v'.ownBlock = some n) (ho : ∀ k, v.ownBlock = some k → w.heap.size ≤ k) (hn : w.heap.size ≤ n) : ∀ k, v'.ownBlock = some k → w.heap.size ≤ k := fun k hk => by
  rcases h with h | h
  · exact ho k (by rw [← h]; exact hk)
  · rw [h] at hk
    cases hk
    exact hn
set_option maxHeartbeats 12800000 in
theorem Rtold_VLOOKUP (w : World) (p : Option Addr) (pc : Nat) (aa : List Ar) (hr : RdA w p aa) (A : ArgsOk aa) (hcnt : 3 ≤ aa.length) :
    Calls Tryz.prog 39 #[enS nVLOOKUP, .slice p aa.length pc] w fun e w' => e = .returned (toldR nVLOOKUP aa).val ∧ Upd w w' (fun _ => False) := by
  obtain ⟨a, ha⟩ : ∃ a, aa[0]? = some a := ⟨_, List.getElem?_eq_getElem (by omega)⟩
  have hga := A.good a (List.mem_of_getElem? ha)
  have hoa := A.oks a (List.mem_of_getElem? ha)
  have hl9 := A.len
  obtain ⟨g, off, va, vc, rfl, hg, d0, d1, d2, hv⟩ := arg0 hr ha
  have SZ := fun w => Rsize_any w a va vc hga
  obtain ⟨R, C, hR, hC, hRC, hR1, hC1, hl, hR4, hC4⟩ := dims_le hga
  rw [hR, hC] at SZ
  have b0 : (nVLOOKUP == [82, 79, 87, 83]) = false := by decide
  have b1 : (nVLOOKUP == [67, 79, 76, 85, 77, 78, 83]) = false := by decide
  have b2 : (nVLOOKUP == [77, 65, 84, 67, 72]) = false := by decide
  have b3 : (nVLOOKUP == [73, 78, 68, 69, 88]) = false := by decide
  have b4 : (nVLOOKUP == [76, 79, 79, 75, 85, 80]) = false := by decide
  have b5 : (nVLOOKUP == [86, 76, 79, 79, 75, 85, 80]) = true := by decide
  have b6 : (nVLOOKUP == [72, 76, 79, 79, 75, 85, 80]) = false := by decide
  have b7 : (nVLOOKUP == [67, 72, 79, 79, 83, 69]) = false := by decide
  have HU0 : Hid (Upd w (w.alloc (.cells #[.int .i64 0, .int .i64 0, .string ⟨#[]⟩, .bool false, .int .i64 0] 30)) (fun _ => False)) := hide ((Upd.refl w _).alloc _)
  have HV0 := hide (Vnew1 w (.cells #[.int .i64 0, .int .i64 0, .string ⟨#[]⟩, .bool false, .int .i64 0] 30))
  have HRA := hide hr
  have hA0 := argA_at ha
  have hq0 : (0 : Int) < (aa.length : Int) := by omega
  have HD : Hid (w.cell? ⟨g, off, none⟩ = some (.slice va a.v.length vc) ∧ w.cell? ⟨g, off + 1, none⟩ = some (.int .i64 a.c) ∧ w.cell? ⟨g, off + 2, none⟩ = some (.bool a.w)) := hide ⟨d0, d1, d2⟩
  obtain ⟨NM, hNM⟩ : ∃ z, nVLOOKUP = z := ⟨_, rfl⟩
  obtain ⟨b, hb⟩ : ∃ a, aa[1]? = some a := ⟨_, List.getElem?_eq_getElem (by omega)⟩
  have hgb := A.good b (List.mem_of_getElem? hb)
  have hob := A.oks b (List.mem_of_getElem? hb)
  have hB1 := argA_at hb
  obtain ⟨vb, vbc, f0, f1, f2, hvb⟩ := arg1 hr hb
  have bHD : Hid (w.cell? ⟨g, off + 3, none⟩ = some (.slice vb b.v.length vbc) ∧ w.cell? ⟨g, off + 4, none⟩ = some (.int .i64 b.c) ∧ w.cell? ⟨g, off + 5, none⟩ = some (.bool b.w)) := hide ⟨f0, f1, f2⟩
  have HVB := hide hvb
  have hq1 : (1 : Int) < (aa.length : Int) := by omega
  obtain ⟨Ru, Cu, hRu, hCu, hRCu, hRu1, hCu1, hlu, hRu4, hCu4⟩ := dims_le hgb
  have SZ2 := fun w => Rsize_any w b vb vbc hgb
  rw [hRu, hCu] at SZ2
  obtain ⟨gv, ov, x, hx, rfl, hgv, x0, x1, x2, x3, x4, hlen⟩ := head_at hv hga
  have HX : Hid (w.cell? ⟨gv, ov, none⟩ = some (.int .i64 x.k) ∧ w.cell? ⟨gv, ov + 1, none⟩ = some (.int .i64 x.n) ∧ w.cell? ⟨gv, ov + 2, none⟩ = some (enS x.t) ∧ w.cell? ⟨gv, ov + 3, none⟩ = some (.bool x.b) ∧ w.cell? ⟨gv, ov + 4, none⟩ = some (.int .i64 x.f)) := hide ⟨x0, x1, x2, x3, x4⟩
  have hl0 : (0 : Int) < (a.v.length : Int) := by omega
  have hxo := hx ▸ head_ok hoa.1
  clear f0 f1 f2 x0 x1 x2 x3 x4 hvb
  have W2 := fun W h => Rwhole_any W (some ⟨g, off, none⟩) pc aa 2 0 h A
  have W3 := fun W h => Rwhole_any W (some ⟨g, off, none⟩) pc aa 3 0 h A
  obtain ⟨k, hk⟩ : ∃ z, wholeA aa 2 0 = z := ⟨_, rfl⟩
  obtain ⟨m, hm⟩ : ∃ z, wholeA aa 3 0 = z := ⟨_, rfl⟩
  have hkr := hk ▸ wholeA_rng aa 2 0 (by omega)
  rw [hk] at W2
  rw [hm] at W3
  have SG := fun W => Rsign_any W m
  obtain ⟨m2, hm2⟩ : ∃ z, wayI m = z := ⟨_, rfl⟩
  rw [hm2] at SG
  have hFl : (firstL false Cu b.v).length ≤ 4096 := by rw [← firstP_all]; exact Nat.le_trans (firstP_len _ _ _ _) hlu
  have hFo : oksV (firstL false Cu b.v) := fun z hz => hob.1 z (firstP_mem (k := b.v.length) (by rw [firstP_all]; exact hz))
  have PL := fun W va vc h => RPlace_any W x (firstL false Cu b.v) va vc m2 hxo.2 hFo (by omega) h
  obtain ⟨LF, hLF⟩ : ∃ n, (firstL false Cu b.v).length = n := ⟨_, rfl⟩
  rw [hLF] at PL hFl
  obtain ⟨N, hN⟩ : ∃ N, placeV m2 x (firstL false Cu b.v) = N := ⟨_, rfl⟩
  rw [hN] at PL
  have hNl : N ≤ 4096 := by have := placeV_le m2 x (firstL false Cu b.v); omega
  have AT := fun W h => Rat_any W b vb vbc (N : Int) k h hgb hob.1 (by omega) hkr
  obtain ⟨⟨k0, n0, t0, b0', e0'⟩, hres⟩ : ∃ v, (if k < 1 ∨ (Cu : Int) < k then mkE 4 else if N = 0 then mkE 6 else atR b (N : Int) k) = v := ⟨_, rfl⟩
  have et : toldR nVLOOKUP aa = ⟨k0, n0, t0, b0', e0'⟩ := by
    have e := told_vh false aa
    have en : nVH false = nVLOOKUP := rfl
    rw [en] at e
    rw [e, hA0, hB1, hk, hm, hm2, hx, hRu, hCu, Int.toNat_natCast, hN, ← hres]
    simp
  rw [et]
  unfold Vl.val
  simp only
  have HRES := hide hres
  have HMA : Hid (∀ (j : Nat) (y : Vl), b.v[j]? = some y → ∃ g off, vb = some ⟨g, off, none⟩ ∧ g < w.heap.size ∧ w.cell? ⟨g, off + j * 5, none⟩ = some (.int .i64 y.k) ∧ w.cell? ⟨g, off + j * 5 + 1, none⟩ = some (.int .i64 y.n) ∧ w.cell? ⟨g, off + j * 5 + 2, none⟩ = some (enS y.t) ∧ w.cell? ⟨g, off + j * 5 + 3, none⟩ = some (.bool y.b) ∧ w.cell? ⟨g, off + j * 5 + 4, none⟩ = some (.int .i64 y.f)) := hide (fun j y hy => rdV_at HVB.out hy)
  have HAT := hide AT
  have hu0 : 0 < b.v.length := by rw [← hRCu]; exact Nat.mul_pos hRu1 hCu1
  have hcu0 : (Cu : Int) ≠ 0 := by omega
  have hcu1 : ((Cu : Int) == 0) = false := by simpa using hcu0
  rw [hNM] at b0 b1 b2 b3 b4 b5 b6 b7 ⊢
  obtain ⟨iE, hiE, hE0, hE1, hE2⟩ := info_p Tryz.infoRl
  obtain ⟨xk, xn, xt, xb, xf⟩ := x
  obtain ⟨bv, bc, bw⟩ := b
  unfold Vl.val at PL
  simp only at PL HX bHD HVB HMA SZ2 hLF hu0 hRCu hlu
  have HPL := hide PL
  have HLF := hide hLF
  clear et hA0 hB1 hRC hNM hR hC ha hb hga hgb hoa hob hv hr A hx hm hm2 hk hN hres hxo PL hFo AT hRu hCu hLF
  obtain ⟨v, c, wd⟩ := a
  simp only at SZ HD hl0 ⊢
  obtain ⟨L, hL⟩ : ∃ n, aa.length = n := ⟨_, rfl⟩
  rw [hL] at W2 W3 hq0 hq1 hcnt hl9 ⊢
  obtain ⟨LV, hLV⟩ : ∃ n, v.length = n := ⟨_, rfl⟩
  rw [hLV] at SZ HD hl0
  obtain ⟨LB, hLB⟩ : ∃ n, bv.length = n := ⟨_, rfl⟩
  rw [hLB] at SZ2 bHD hu0 hRCu hlu
  have HLB := hide hLB
  have hn0 : 0 < L := by omega
  have hn1 : 0 < LV := by omega
  clear hL hLV hLB
  have e0 := (HU0.out.cell g _ hg id).trans HD.out.1
  have e1 := (HU0.out.cell g _ hg id).trans HD.out.2.1
  have e2 := (HU0.out.cell g _ hg id).trans HD.out.2.2
  have gl0 := Nat.lt_of_lt_of_le hg HU0.out.size
  clear d0 d1 d2
  go_enter Tryz.func39, Tryz.ntmps39
  go_wp2_with fail
  refine Calls.mono (SZ _) ?_
  rintro e w1 ⟨rfl, u1⟩
  have HU1 := hide (HU0.out.then u1 (fun _ _ => id))
  have HV1 := hide (u1.get HV0.out id)
  clear u1 SZ
  clear e0 e1 e2 gl0
  have be0 := (HU1.out.cell g _ hg id).trans bHD.out.1
  have be1 := (HU1.out.cell g _ hg id).trans bHD.out.2.1
  have be2 := (HU1.out.cell g _ hg id).trans bHD.out.2.2
  have gl0 := Nat.lt_of_lt_of_le hg HU1.out.size
  go_wp2_with fail
  refine Calls.mono (SZ2 _) ?_
  rintro e w2 ⟨rfl, u2⟩
  have HU2 := hide (HU1.out.then u2 (fun _ _ => id))
  have HV2 := hide (u2.get HV1.out id)
  clear u2 SZ2
  clear be0 be1 be2 gl0
  go_wp2_with fail
  refine Calls.mono (W2 _ (HRA.out.upd HU2.out)) ?_
  rintro e w3 ⟨rfl, u3⟩
  have HU3 := hide (HU2.out.then u3 (fun _ _ => id))
  have HV3 := hide (u3.get HV2.out id)
  clear u3 W2
  go_wp2_with fail
  refine Calls.mono (W3 _ (HRA.out.upd HU3.out)) ?_
  rintro e w4 ⟨rfl, u4⟩
  have HU4 := hide (HU3.out.then u4 (fun _ _ => id))
  have HV4 := hide (u4.get HV3.out id)
  clear u4 W3
  go_wp2_with fail
  refine Calls.mono (SG _) ?_
  rintro e w5 ⟨rfl, hw⟩
  obtain rfl := hw.symm
  clear hw SG
  by_cases hbad : k < 1 ∨ (Cu : Int) < k
  · have hcc : k < 1 ∨ ¬ k < 1 ∧ (Cu : Int) < k := by omega
    have hev : mkE 4 = ⟨k0, n0, t0, b0', e0'⟩ := by have := HRES.out; rwa [if_pos hbad] at this
    have EA := fun w => RE12_any w 4
    rw [rawE_ok (by decide), hev] at EA
    unfold Vl.val at EA
    simp only at EA
    clear hev hbad
    rcases hcc with q1 | ⟨q1, q2⟩
    all_goals
      go_wp2_with fail
      refine Calls.mono (EA _) ?_
      rintro e w10 ⟨rfl, u10⟩
      have HU10 := hide (HU4.out.then u10 (fun _ _ => id))
      have bV := u10.get HV4.out id
      obtain ⟨v0, v1, v2, v3, v4⟩ := cells5 bV
      have vl := lt_at bV
      have fv0 := free_at bV 0
      have fv1 := free_at bV 1
      have fv2 := free_at bV 2
      have fv3 := free_at bV 3
      have fv4 := free_at bV 4
      have HB := hide bV
      clear bV u10 EA
      go_wp2_with fail
      (try simp only [Exit.inBlock, Exit.then])
      refine bodyPost_ret (ret_rv rfl _ _ w.heap.size ⟨k0, n0, t0, b0', e0'⟩ rfl (rblock5 (x := vZero) HB.out _ _ _ _ _)) rfl ?_
      exact ⟨rfl, upd5 HU10.out (Nat.le_refl _) _ _ _ _ _⟩
  · have q1 : ¬ k < 1 := by omega
    have q2 : ¬ (Cu : Int) < k := by omega
    go_wp2_with fail
    go_loopg [20, 21] LB (fun q lv iv wr => ∃ j : Nat, j + q = LB ∧ iv = .int .i64 j ∧ Rw wr 30 5 lv (firstP false Cu bv j).length (vlCells (firstP false Cu bv j)) ∧ (∀ k, lv.ownBlock = some k → w4.heap.size ≤ k) ∧ Upd w4 wr (fun _ => False))
    case atStart => exact ⟨0, by omega, rfl, by simpa [vlCells, firstP] using Rw.nil _ _ _, fun k hk => (by cases hk), Upd.refl _ _⟩
    case round =>
      obtain ⟨j, hj, rfl, hra, hown, hu⟩ := hrel
      obtain ⟨oa, oc, rfl, -⟩ := Rw.form hra
      have HUW := hide (HU4.out.then hu (fun _ _ => id))
      have HRR := hide hra
      have HOWN := hide hown
      have HUR := hide hu
      clear hra hown hu
      by_cases hjN : j < LB
      · obtain ⟨y, hy⟩ : ∃ y, bv[j]? = some y := ⟨_, List.getElem?_eq_getElem (by rw [HLB.out]; exact hjN)⟩
        obtain ⟨gb, ob, rfl, hgb', z0, z1, z2, z3, z4⟩ := HMA.out j y hy
        have hj0 : (0 : Int) ≤ (j : Int) := by omega
        have hj1 : (j : Int) < (LB : Int) := by omega
        have hflen := firstP_len false Cu bv j
        obtain ⟨Q, hQ⟩ : ∃ Q, (j : Int).tmod (Cu : Int) = Q := ⟨_, rfl⟩
        have hQn : (j : Int).tmod (Cu : Int) = ((j % Cu : Nat) : Int) := by rw [Int.tmod_eq_emod_of_nonneg (by omega)]; rfl
        have hQ0 : Q = 0 ↔ j % Cu = 0 := by rw [← hQ, hQn]; omega
        have hQ1 : -9223372036854775808 ≤ Q := by rw [← hQ, hQn]; omega
        have hQ2 : Q ≤ 9223372036854775807 := by rw [← hQ, hQn]; have := Nat.mod_lt j hCu1; omega
        clear hQn
        by_cases hjc : j % Cu = 0
        · have hcj : (false = true ∧ j < Cu ∨ false = false ∧ j % Cu = 0) := .inr ⟨rfl, hjc⟩
          have q3 : (Q == 0) = true := by simpa using hQ0.2 hjc
          have HFY := hide (firstP_yes (across := false) hy hcj)
          obtain ⟨O, hO⟩ : ∃ O, firstP false Cu bv j = O := ⟨_, rfl⟩
          rw [hO] at HFY HRR HOWN hflen ⊢
          obtain ⟨LO, hLO⟩ : ∃ n, O.length = n := ⟨_, rfl⟩
          rw [hLO] at HRR HOWN hflen ⊢
          have HLO := hide hLO
          obtain ⟨yk, yn, yt, yb, yf⟩ := y
          simp only at z0 z1 z2 z3 z4
          have y0 := (HUW.out.cell gb _ hgb' id).trans z0
          have y1 := (HUW.out.cell gb _ hgb' id).trans z1
          have y2 := (HUW.out.cell gb _ hgb' id).trans z2
          have y3 := (HUW.out.cell gb _ hgb' id).trans z3
          have y4 := (HUW.out.cell gb _ hgb' id).trans z4
          have glb := Nat.lt_of_lt_of_le hgb' HUW.out.size
          have HRX := hide (HRR.out.alloc (.cells #[.int .i64 yk, .int .i64 yn, enS yt, .bool yb, .int .i64 yf] 30))
          have e0 := (HUW.out.cell g _ hg id).trans HD.out.1
          have e1 := (HUW.out.cell g _ hg id).trans HD.out.2.1
          have e2 := (HUW.out.cell g _ hg id).trans HD.out.2.2
          have gl0 := Nat.lt_of_lt_of_le hg HUW.out.size
          have be0 := (HUW.out.cell g _ hg id).trans bHD.out.1
          have be1 := (HUW.out.cell g _ hg id).trans bHD.out.2.1
          have be2 := (HUW.out.cell g _ hg id).trans bHD.out.2.2
          clear hy hO hLO z0 z1 z2 z3 z4 hcj hjc hQ0
          go_wp2_with (at_builtin; (refine wpList_append_rw _ rfl _ _ 34 34 rfl 30 _ iE _ 5 48 Tryz.underlying34 Tryz.underlying34 (by simp) hiE hE0 hE1 hE2 rfl _ _ _ rfl HRX.out _ 1 [.int .i64 yk, .int .i64 yn, enS yt, .bool yb, .int .i64 yf] rfl (Rw.src (Rw.made wr #[.int .i64 yk, .int .i64 yn, enS yt, .bool yb, .int .i64 yf] 30 5 1 rfl)) rfl (by simp [Value.oneCell']) (by omega) (by omega) ?_); intro ga gc w6 hv' hg' hob'; have HV6 := hide hv'; have HU6 := hide ((HUR.out.alloc (.cells #[.int .i64 yk, .int .i64 yn, enS yt, .bool yb, .int .i64 yf] 30)).grown hg' (fun k e => .inl (HOWN.out k e))); have HNO6 := hide (own_of hob' HOWN.out (by have := HUR.out.size; simp; omega)); clear hv' hg' hob')
          go_roundg (gk - 1)
          case measure => omega
          case rel =>
            refine ⟨j + 1, by omega, by go_num, ?_, HNO6.out, HU6.out⟩
            rw [HFY.out, vlCells_app, vlCells_one, List.length_append, HLO.out]
            exact HV6.out
        · have hcj : ¬ (false = true ∧ j < Cu ∨ false = false ∧ j % Cu = 0) := by simpa using hjc
          have q3 : (Q == 0) = false := by simpa using fun h => hjc (hQ0.1 h)
          have HFN := hide (firstP_no (across := false) (l := bv) hcj)
          have e0 := (HUW.out.cell g _ hg id).trans HD.out.1
          have e1 := (HUW.out.cell g _ hg id).trans HD.out.2.1
          have e2 := (HUW.out.cell g _ hg id).trans HD.out.2.2
          have gl0 := Nat.lt_of_lt_of_le hg HUW.out.size
          have be0 := (HUW.out.cell g _ hg id).trans bHD.out.1
          have be1 := (HUW.out.cell g _ hg id).trans bHD.out.2.1
          have be2 := (HUW.out.cell g _ hg id).trans bHD.out.2.2
          clear hy z0 z1 z2 z3 z4 hcj hjc hQ0
          go_wp2_with fail
          go_roundg (gk - 1)
          case measure => omega
          case rel =>
            refine ⟨j + 1, by omega, by go_num, ?_, HOWN.out, HUR.out⟩
            rw [HFN.out]
            exact HRR.out
      · have hjN' : j = LB := by omega
        have hj1 : ¬ (j : Int) < (LB : Int) := by omega
        have hfa : firstP false Cu bv j = firstL false Cu bv := by rw [hjN', ← HLB.out]; exact firstP_all _ _ _
        rw [hfa, HLF.out] at HRR HOWN ⊢
        have HV5 := hide (HUR.out.get HV4.out id)
        clear hfa hjN'
        have e0 := (HUW.out.cell g _ hg id).trans HD.out.1
        have e1 := (HUW.out.cell g _ hg id).trans HD.out.2.1
        have e2 := (HUW.out.cell g _ hg id).trans HD.out.2.2
        have gl0 := Nat.lt_of_lt_of_le hg HUW.out.size
        have be0 := (HUW.out.cell g _ hg id).trans bHD.out.1
        have be1 := (HUW.out.cell g _ hg id).trans bHD.out.2.1
        have be2 := (HUW.out.cell g _ hg id).trans bHD.out.2.2
        have x0 := (HUW.out.cell gv _ hgv id).trans HX.out.1
        have x1 := (HUW.out.cell gv _ hgv id).trans HX.out.2.1
        have x2 := (HUW.out.cell gv _ hgv id).trans HX.out.2.2.1
        have x3 := (HUW.out.cell gv _ hgv id).trans HX.out.2.2.2.1
        have x4 := (HUW.out.cell gv _ hgv id).trans HX.out.2.2.2.2
        have glv := Nat.lt_of_lt_of_le hgv HUW.out.size
        go_wp2_with fail
        refine Calls.mono (HPL.out _ oa oc (rdV_of HLF.out HRR.out)) ?_
        rintro e w9 ⟨rfl, u9⟩
        have HU9 := hide (HUW.out.then u9 (fun _ _ => id))
        have HV9 := hide (u9.get HV5.out id)
        clear u9 x0 x1 x2 x3 x4 glv
        clear e0 e1 e2 be0 be1 be2 gl0
        have hbad' := HRES.out
        rw [if_neg hbad] at hbad'
        by_cases hN0 : N = 0
        · have bN : ((N : Int) == 0) = true := by simp; omega
          have EA := fun w => RE12_any w 6
          rw [if_pos hN0] at hbad'
          rw [rawE_ok (by decide), hbad'] at EA
          unfold Vl.val at EA
          simp only at EA
          clear hbad'
          go_wp2_with fail
          refine Calls.mono (EA _) ?_
          rintro e w10 ⟨rfl, u10⟩
          have HU10 := hide (HU9.out.then u10 (fun _ _ => id))
          have bV := u10.get HV9.out id
          obtain ⟨v0, v1, v2, v3, v4⟩ := cells5 bV
          have vl := lt_at bV
          have fv0 := free_at bV 0
          have fv1 := free_at bV 1
          have fv2 := free_at bV 2
          have fv3 := free_at bV 3
          have fv4 := free_at bV 4
          have HB := hide bV
          clear bV u10 EA
          go_wp2_with fail
          (try simp only [Exit.inBlock, Exit.then])
          refine bodyPost_ret (ret_rv rfl _ _ w.heap.size ⟨k0, n0, t0, b0', e0'⟩ rfl (rblock5 (x := vZero) HB.out _ _ _ _ _)) rfl ?_
          exact ⟨rfl, upd5 HU10.out (Nat.le_refl _) _ _ _ _ _⟩
        · have bN : ((N : Int) == 0) = false := by simp; omega
          rw [if_neg hN0] at hbad'
          have AT := HAT.out
          rw [hbad'] at AT
          unfold Vl.val at AT
          simp only at AT
          rw [HLB.out] at AT
          have HAT2 := hide AT
          clear hbad' AT
          have be0 := (HU9.out.cell g _ hg id).trans bHD.out.1
          have be1 := (HU9.out.cell g _ hg id).trans bHD.out.2.1
          have be2 := (HU9.out.cell g _ hg id).trans bHD.out.2.2
          have gl0 := Nat.lt_of_lt_of_le hg HU9.out.size
          go_wp2_with fail
          refine Calls.mono (HAT2.out _ (HVB.out.upd HU9.out)) ?_
          rintro e w10 ⟨rfl, u10⟩
          have HU10 := hide (HU9.out.then u10 (fun _ _ => id))
          clear be0 be1 be2 gl0
          have bV := u10.get HV9.out id
          obtain ⟨v0, v1, v2, v3, v4⟩ := cells5 bV
          have vl := lt_at bV
          have fv0 := free_at bV 0
          have fv1 := free_at bV 1
          have fv2 := free_at bV 2
          have fv3 := free_at bV 3
          have fv4 := free_at bV 4
          have HB := hide bV
          clear bV u10
          go_wp2_with fail
          (try simp only [Exit.inBlock, Exit.then])
          refine bodyPost_ret (ret_rv rfl _ _ w.heap.size ⟨k0, n0, t0, b0', e0'⟩ rfl (rblock5 (x := vZero) HB.out _ _ _ _ _)) rfl ?_
          exact ⟨rfl, upd5 HU10.out (Nat.le_refl _) _ _ _ _ _⟩
end Go.Proofs.YtdjpkkgcoainhaaGreatDoor
/- The law's values, same, list. -/
set_option maxRecDepth 100000
namespace Go.Lat
theorem results_cc_row {P : Program} {fn : Func} {p q : Tmp} {ty uy : TypeId} (h : fn.results = #[.cell p ty, .cell q uy]) (tmps : Array Value) (w : World) (g g2 : Nat) (t t2 : TypeId) (cs cs2 : Array Value) (fr fr2 : Nat × Nat) (d d2 : TypeDesc)
    (hp : tmps.getD p undef = .pointer (some ⟨g, 0, none⟩)) (hq : tmps.getD q undef = .pointer (some ⟨g2, 0, none⟩)) (hg : w.heap[g]? = some (.cells cs t fr)) (hg2 : w.heap[g2]? = some (.cells cs2 t2 fr2))
    (hu : P.underlying ty = some d) (hd : (match d with | .struct _ | .array _ _ => true | _ => false) = true) (hi : (P.info? ty).map (·.size) = some cs.size)
    (hu2 : P.underlying uy = some d2) (hd2 : (match d2 with | .struct _ | .array _ _ => true | _ => false) = true) (hi2 : (P.info? uy).map (·.size) = some cs2.size) :
    (results fn tmps).run P w = .ok (.tuple #[.agg cs, .agg cs2]) w := by
  have hp' : tmps[p]?.getD undef = .pointer (some ⟨g, 0, none⟩) := by simpa using hp
  have hq' : tmps[q]?.getD undef = .pointer (some ⟨g2, 0, none⟩) := by simpa using hq
  simp [results, h, hp', hq', asAddr, run_loadVar_row w g t ty cs fr d hg hu hd hi, run_loadVar_row w g2 t2 uy cs2 fr2 d2 hg2 hu2 hd2 hi2, Result.andThen]
/-- Slices of different types share no block. -/
theorem Rw.apart {w : World} {e e2 size size2 : Nat} {v v2 : Value} {n n2 : Nat} {xs ys : List Value} (h : Rw w e size v n xs) (h2 : Rw w e2 size2 v2 n2 ys) (hne : e ≠ e2) : v.ownBlock = none ∨ v.ownBlock ≠ v2.ownBlock := by
  rcases h.2 with ⟨rfl, _⟩ | ⟨g, off, cap, cur, rfl, hg, _⟩
  · exact .inl rfl
  · rcases h2.2 with ⟨rfl, _⟩ | ⟨g2, off2, cap2, cur2, rfl, hg2, _⟩
    · exact .inr (by simp [Value.ownBlock])
    · refine .inr fun he => ?_
      have e1 : g = g2 := by simpa [Value.ownBlock] using he
      subst e1
      rw [hg] at hg2
      cases hg2
      exact hne rfl
theorem Rw.past {w w' : World} {e e2 size size2 : Nat} {v v2 : Value} {n n2 : Nat} {xs ys : List Value} (h : Rw w e size v n xs) (h2 : Rw w e2 size2 v2 n2 ys) (hne : e ≠ e2) (hg : w.grownBy w' v2.ownBlock) : Rw w' e size v n xs :=
  h.grown hg (h.apart h2 hne)
theorem own_ge {w W : World} {S : Nat → Prop} {v v' : Value} (h : ∀ j, v.ownBlock = some j → w.heap.size ≤ j) (h2 : v'.ownBlock = v.ownBlock ∨ v'.ownBlock = some W.heap.size) (u : Upd w W S) : ∀ j, v'.ownBlock = some j → w.heap.size ≤ j := by
  intro j hj
  rcases h2 with e | e
  · exact h j (e.symm.trans hj)
  · have := Option.some.inj (e.symm.trans hj)
    have := u.size
    omega
theorem made2 (W : World) (Y : Obj) (cur : Array Value) (e size n' : Nat) (hs : cur.size = n' * size) : Rw ((W.drew.alloc Y).alloc (.cells cur e)) e size (.slice (some ⟨W.heap.size + 1, 0, none⟩) n' n') n' cur.toList := by
  have h := Rw.made (W.drew.alloc Y) cur e size n' hs
  have e1 : (W.drew.alloc Y).heap.size = W.heap.size + 1 := by
    show (W.heap.push Y).size = _
    simp
  rw [e1] at h
  exact h
end Go.Lat
namespace Go.Proofs.YtdjpkkgcoainhaaGreatDoor
open Go.RowKit Go.Lat Go.Lib

set_option maxHeartbeats 1600000 in
theorem lawvals_any (w : World) (k n : Int) (t ct : List UInt8) (b : Bool) (f : Int) (hct : t.take 300 = ct) : Calls Tryz.prog 8 #[.agg #[.int .i64 k, .int .i64 n, enS t, .bool b, .int .i64 f]] w fun e w' =>
    e = .returned (.tuple #[.agg #[.int .i64 k, .int .i64 n, enS ct, .bool b, .int .i64 f], .agg #[.int .i64 k, .int .i64 n, enS ct, .bool b, .int .i64 f]]) ∧ Upd w w' (fun _ => False) := by
  have n2 : ∀ (A B C : Obj), (((w.alloc A).alloc B).alloc C).heap[w.heap.size + 1]? = some B := fun A B C => block_alloc (Vnew2 w A B) C
  have n3 : ∀ (A B C : Obj), (((w.alloc A).alloc B).alloc C).heap[w.heap.size + 1 + 1]? = some C := fun A B C => by
    have := Vnew2 (w.alloc A) B C
    simpa using this
  have N2 := hide n2
  have N3 := hide n3
  have HC := hide hct
  clear n2 n3 hct
  go_enter Tryz.func8, Tryz.ntmps8
  go_wp2_with fail
  simp only [cut300, HC.out]
  go_wp2_with fail
  go_region_held3 (fun w' => w'.cell? ⟨w.heap.size, 0, none⟩ = some (.int .i64 k) ∧ w'.cell? ⟨w.heap.size, 1, none⟩ = some (.int .i64 n) ∧ w'.cell? ⟨w.heap.size, 2, none⟩ = some (.string ⟨ct.toArray⟩) ∧ w'.cell? ⟨w.heap.size, 3, none⟩ = some (.bool b) ∧ w'.cell? ⟨w.heap.size, 4, none⟩ = some (.int .i64 f)) (go_keep) (fail)
  go_wp2_with fail
  (try simp only [Exit.inBlock, Exit.then])
  refine bodyPost_ret (results_cc_row rfl _ _ (w.heap.size + 1) (w.heap.size + 1 + 1) _ _ _ _ _ _ _ _ rfl rfl (N2.out _ _ _) (N3.out _ _ _) Tryz.underlying29 rfl (by kernel_rfl) Tryz.underlying30 rfl (by kernel_rfl)) rfl ?_
  exact ⟨rfl, ((((Upd.refl w _).alloc _).alloc _).alloc _).drew⟩
set_option maxHeartbeats 1600000 in
theorem same12_any (w : World) (x : Vl) : Calls Tryz.prog 16 #[x.val, x.val] w fun e w' => e = .returned (.bool true) ∧ Upd w w' (fun _ => False) := by
  obtain ⟨k, n, t, b, f⟩ := x
  unfold Vl.val
  simp only
  go_enter Tryz.func16, Tryz.ntmps16
  go_wp2_with fail
  go_ret
  exact ⟨by simp, ((Upd.refl w _).alloc _).alloc _⟩
def cutL (l : List Vl) : List Vl := (l.take 40).map cutV
set_option maxHeartbeats 6400000 in
theorem list12_any (w : World) (a : Option Addr) (cap : Nat) (l : List Vl) (hlc : l.length ≤ cap) (hrow0 : RdV w a l) :
    Calls Tryz.prog 9 #[.slice a l.length cap] w fun e w' => ∃ v1 v2, e = .returned (.tuple #[v1, v2]) ∧ Rw w' 29 5 v1 (cutL l).length (vlCells (cutL l)) ∧ Rw w' 30 5 v2 (cutL l).length (vlCells (cutL l)) ∧ (∀ k, v1.ownBlock = some k → w.heap.size ≤ k) ∧ (∀ k, v2.ownBlock = some k → w.heap.size ≤ k) ∧ Upd w w' (fun _ => False) := by
  have hrow : ∀ i x, l[i]? = some x → _ := fun i x h => rdV_at hrow0 h
  obtain ⟨i1, hi1, hz1a, hz1b, hz1c⟩ := info_p Tryz.infoVl
  obtain ⟨i2, hi2, hz2a, hz2b, hz2c⟩ := info_p Tryz.infoRl
  obtain ⟨L, hL⟩ : ∃ L, l.length = L := ⟨_, rfl⟩
  rw [hL] at hlc ⊢
  obtain ⟨N, hN⟩ : ∃ N, min L 40 = N := ⟨_, rfl⟩
  have hN2 : (min (L : Int) 40) = (N : Int) := by omega
  have n0 : (0 : Int) ≤ (N : Int) := by omega
  have n40 : N ≤ 40 := by omega
  have n1 : (N : Int) ≤ (cap : Int) := by omega
  have HL := hide hL
  have HN := hide hN
  have HR := hide hrow
  clear hL hN hrow hrow0
  go_enter Tryz.func9, Tryz.ntmps9
  go_wp2_with fail
  go_loopg [4, 5, 16] N (fun q va vb iv wr => ∃ k : Nat, k + q = N ∧ iv = .int .i64 k ∧ Rw wr 29 5 va k (vlCells ((l.take k).map cutV)) ∧ Rw wr 30 5 vb k (vlCells ((l.take k).map cutV)) ∧ (∀ j, va.ownBlock = some j → w.heap.size ≤ j) ∧ (∀ j, vb.ownBlock = some j → w.heap.size ≤ j) ∧ Upd w wr (fun _ => False))
  case atStart => exact ⟨0, by omega, rfl, Rw.nil _ _ _, Rw.nil _ _ _, by simp [Value.ownBlock], by simp [Value.ownBlock], Upd.refl _ _⟩
  case round =>
    obtain ⟨k, hk, rfl, ra, rb, oa, ob, hu⟩ := hrel
    by_cases hkN : k < N
    · obtain ⟨x, hx⟩ : ∃ x, l[k]? = some x := ⟨_, List.getElem?_eq_getElem (by rw [HL.out]; have := HN.out; omega)⟩
      obtain ⟨g, off, rfl, hg, c0, c1, c2, c3, c4⟩ := HR.out k x hx
      have hE : (l.take (k + 1)).map cutV = (l.take k).map cutV ++ [cutV x] := by rw [List.take_add_one, hx]; simp
      obtain ⟨xk, xn, xt0, xb, xf⟩ := x
      simp only at c0 c1 c2 c3 c4
      obtain ⟨xt, hxt⟩ : ∃ t, xt0.take 300 = t := ⟨_, rfl⟩
      have d0 := (hu.cell g _ hg id).trans c0
      have d1 := (hu.cell g _ hg id).trans c1
      have d2 := (hu.cell g _ hg id).trans c2
      have d3 := (hu.cell g _ hg id).trans c3
      have d4 := (hu.cell g _ hg id).trans c4
      clear c0 c1 c2 c3 c4
      have LK := lawvals_any (wr.alloc (.cells #[.int .i64 xk, .int .i64 xn, enS xt0, .bool xb, .int .i64 xf] 23)) xk xn xt0 xt xb xf hxt
      have hE2 : vlCells ((l.take (k + 1)).map cutV) = vlCells ((l.take k).map cutV) ++ [.int .i64 xk, .int .i64 xn, enS xt, .bool xb, .int .i64 xf] := by
        rw [hE, vlCells_app]
        simp [vlCells, Vl.cells, cutV, hxt]
      have HE2 := hide hE2
      have HU := hide hu
      have HA := hide ra
      have HB := hide rb
      have hk0 : (0 : Int) ≤ (k : Int) := by omega
      have hk1 : (k : Int) < (N : Int) := by omega
      clear hE hE2 hxt hu ra rb hx
      go_wp2_with fail
      refine Calls.mono LK ?_
      rintro e w2 ⟨rfl, u2⟩
      go_wp2_with fail
      obtain ⟨W, hW⟩ : ∃ W, (w2.alloc (.cells #[.int .i64 xk, .int .i64 xn, enS xt, .bool xb, .int .i64 xf] 29)).alloc (.cells #[.int .i64 xk, .int .i64 xn, enS xt, .bool xb, .int .i64 xf] 30) = W := ⟨_, rfl⟩
      obtain ⟨pA, hpA⟩ : ∃ p, w2.heap.size = p := ⟨_, rfl⟩
      have UW0 : Upd wr W (fun _ => False) := hW ▸ ((((Upd.refl wr _).alloc _).then u2 (fun _ _ => id)).alloc _).alloc _
      have hbA : W.heap[pA]? = some (.cells #[.int .i64 xk, .int .i64 xn, enS xt, .bool xb, .int .i64 xf] 29 (0, 0)) := by rw [← hW, ← hpA]; exact block_alloc (Vnew1 _ _) _
      have hbB : W.heap[pA + 1]? = some (.cells #[.int .i64 xk, .int .i64 xn, enS xt, .bool xb, .int .i64 xf] 30 (0, 0)) := by rw [← hW, ← hpA]; exact Vnew2 _ _ _
      have UD : Upd w W.drew (fun _ => False) := (HU.out.then UW0 (fun _ _ => id)).drew
      have HA0 : Rw W.drew 29 5 u4 k (vlCells ((l.take k).map cutV)) := UW0.rw HA.out (fun _ _ => id)
      have HB0 : Rw W.drew 30 5 u5 k (vlCells ((l.take k).map cutV)) := UW0.rw HB.out (fun _ _ => id)
      have hpw : wr.heap.size ≤ pA := by have := u2.size; simp at this; omega
      have naA : u4.ownBlock ≠ some pA := fun e => by have := HA.out.lt _ e; omega
      have naB : u4.ownBlock ≠ some (pA + 1) := fun e => by have := HA.out.lt _ e; omega
      have nbA : u5.ownBlock ≠ some pA := fun e => by have := HB.out.lt _ e; omega
      have nbB : u5.ownBlock ≠ some (pA + 1) := fun e => by have := HB.out.lt _ e; omega
      have hne : 29 ≠ 30 := by decide
      have RX1 : Rw (W.drew.alloc (.cells #[.int .i64 xk, .int .i64 xn, enS xt, .bool xb, .int .i64 xf] 29)) 29 5 (.slice (some ⟨W.heap.size, 0, none⟩) 1 1) 1 [.int .i64 xk, .int .i64 xn, enS xt, .bool xb, .int .i64 xf] := Rw.made W.drew _ _ _ 1 rfl
      have RY1 : Rw (W.drew.alloc (.cells #[.int .i64 xk, .int .i64 xn, enS xt, .bool xb, .int .i64 xf] 30)) 30 5 (.slice (some ⟨W.heap.size, 0, none⟩) 1 1) 1 [.int .i64 xk, .int .i64 xn, enS xt, .bool xb, .int .i64 xf] := Rw.made W.drew _ _ _ 1 rfl
      have RX2 : Rw ((W.drew.alloc (.cells #[.int .i64 xk, .int .i64 xn, enS xt, .bool xb, .int .i64 xf] 30)).alloc (.cells #[.int .i64 xk, .int .i64 xn, enS xt, .bool xb, .int .i64 xf] 29)) 29 5 (.slice (some ⟨W.heap.size + 1, 0, none⟩) 1 1) 1 [.int .i64 xk, .int .i64 xn, enS xt, .bool xb, .int .i64 xf] := made2 W _ _ _ _ 1 rfl
      have RY2 : Rw ((W.drew.alloc (.cells #[.int .i64 xk, .int .i64 xn, enS xt, .bool xb, .int .i64 xf] 29)).alloc (.cells #[.int .i64 xk, .int .i64 xn, enS xt, .bool xb, .int .i64 xf] 30)) 30 5 (.slice (some ⟨W.heap.size + 1, 0, none⟩) 1 1) 1 [.int .i64 xk, .int .i64 xn, enS xt, .bool xb, .int .i64 xf] := made2 W _ _ _ _ 1 rfl
      rw [hW, hpA]
      obtain ⟨x0, x1, x2, x3, x4⟩ := cells5 hbA
      obtain ⟨y0, y1, y2, y3, y4⟩ := cells5 hbB
      clear hW hpA u2 UW0 d0 d1 d2 d3 d4 HR LK
      go_region_held3 (fun w' => w'.cell? ⟨pA, 0, none⟩ = some (.int .i64 xk) ∧ w'.cell? ⟨pA, 1, none⟩ = some (.int .i64 xn) ∧ w'.cell? ⟨pA, 2, none⟩ = some (enS xt) ∧ w'.cell? ⟨pA, 3, none⟩ = some (.bool xb) ∧ w'.cell? ⟨pA, 4, none⟩ = some (.int .i64 xf) ∧ w'.cell? ⟨pA + 1, 0, none⟩ = some (.int .i64 xk) ∧ w'.cell? ⟨pA + 1, 1, none⟩ = some (.int .i64 xn) ∧ w'.cell? ⟨pA + 1, 2, none⟩ = some (enS xt) ∧ w'.cell? ⟨pA + 1, 3, none⟩ = some (.bool xb) ∧ w'.cell? ⟨pA + 1, 4, none⟩ = some (.int .i64 xf))
        (first | go_keep | (go_split_ands; first | exact ⟨hga.cell (by assumption) (Ne.symm naA), hga.cell (by assumption) (Ne.symm naA), hga.cell (by assumption) (Ne.symm naA), hga.cell (by assumption) (Ne.symm naA), hga.cell (by assumption) (Ne.symm naA), hga.cell (by assumption) (Ne.symm naB), hga.cell (by assumption) (Ne.symm naB), hga.cell (by assumption) (Ne.symm naB), hga.cell (by assumption) (Ne.symm naB), hga.cell (by assumption) (Ne.symm naB)⟩ | exact ⟨hgb.cell (by assumption) (Ne.symm nbA), hgb.cell (by assumption) (Ne.symm nbA), hgb.cell (by assumption) (Ne.symm nbA), hgb.cell (by assumption) (Ne.symm nbA), hgb.cell (by assumption) (Ne.symm nbA), hgb.cell (by assumption) (Ne.symm nbB), hgb.cell (by assumption) (Ne.symm nbB), hgb.cell (by assumption) (Ne.symm nbB), hgb.cell (by assumption) (Ne.symm nbB), hgb.cell (by assumption) (Ne.symm nbB)⟩))
        (first
          | (refine step_append_rw _ (by rfl) _ _ 33 33 (by rfl) 29 _ i1 _ 5 48 Tryz.underlying33 Tryz.underlying33 (by simp) hi1 hz1a hz1b hz1c rfl _ k (vlCells ((l.take k).map cutV)) (by rfl) (HA0.alloc _) _ 1 [.int .i64 xk, .int .i64 xn, enS xt, .bool xb, .int .i64 xf] (by rfl) (Rw.src RX1) rfl (by simp [Value.oneCell']) (by omega) (by omega) ?_; intro ga gca wa hva hga hoa; have oga := own_ge oa hoa (UD.alloc _); have ua := Upd.grown (UD.alloc _) hga (fun j hj => .inl (oa j hj)); have pa := Rw.past (HB0.alloc _) (HA0.alloc _) (Ne.symm hne) hga)
          | (refine step_append_rw _ (by rfl) _ _ 33 33 (by rfl) 29 _ i1 _ 5 48 Tryz.underlying33 Tryz.underlying33 (by simp) hi1 hz1a hz1b hz1c rfl _ k (vlCells ((l.take k).map cutV)) (by rfl) ((HA0.alloc _).alloc _) _ 1 [.int .i64 xk, .int .i64 xn, enS xt, .bool xb, .int .i64 xf] (by rfl) (Rw.src (RX1.alloc _)) rfl (by simp [Value.oneCell']) (by omega) (by omega) ?_; intro ga gca wa hva hga hoa; have oga := own_ge oa hoa ((UD.alloc _).alloc _); have ua := Upd.grown ((UD.alloc _).alloc _) hga (fun j hj => .inl (oa j hj)); have pa := Rw.past ((HB0.alloc _).alloc _) ((HA0.alloc _).alloc _) (Ne.symm hne) hga; have qa := Rw.past RY2 ((HA0.alloc _).alloc _) (Ne.symm hne) hga)
          | (refine step_append_rw _ (by rfl) _ _ 33 33 (by rfl) 29 _ i1 _ 5 48 Tryz.underlying33 Tryz.underlying33 (by simp) hi1 hz1a hz1b hz1c rfl _ k (vlCells ((l.take k).map cutV)) (by rfl) ((HA0.alloc _).alloc _) _ 1 [.int .i64 xk, .int .i64 xn, enS xt, .bool xb, .int .i64 xf] (by rfl) (Rw.src RX2) rfl (by simp [Value.oneCell']) (by omega) (by omega) ?_; intro ga gca wa hva hga hoa; have oga := own_ge oa hoa ((UD.alloc _).alloc _); have ua := Upd.grown ((UD.alloc _).alloc _) hga (fun j hj => .inl (oa j hj)); have pa := Rw.past ((HB0.alloc _).alloc _) ((HA0.alloc _).alloc _) (Ne.symm hne) hga; have qa := Rw.past (RY1.alloc _) ((HA0.alloc _).alloc _) (Ne.symm hne) hga)
          | (refine step_append_rw _ (by rfl) _ _ 33 33 (by rfl) 29 _ i1 _ 5 48 Tryz.underlying33 Tryz.underlying33 (by simp) hi1 hz1a hz1b hz1c rfl _ k (vlCells ((l.take k).map cutV)) (by rfl) pb _ 1 [.int .i64 xk, .int .i64 xn, enS xt, .bool xb, .int .i64 xf] (by rfl) (Rw.src qb) rfl (by simp [Value.oneCell']) (by omega) (by omega) ?_; intro ga gca wa hva hga hoa; have oga := own_ge oa hoa ub; have ua := Upd.grown ub hga (fun j hj => .inl (oa j hj)); have pa := Rw.past hvb pb (Ne.symm hne) hga)
          | (refine step_append_rw _ (by rfl) _ _ 33 33 (by rfl) 29 _ i1 _ 5 48 Tryz.underlying33 Tryz.underlying33 (by simp) hi1 hz1a hz1b hz1c rfl _ k (vlCells ((l.take k).map cutV)) (by rfl) (pb.alloc _) _ 1 [.int .i64 xk, .int .i64 xn, enS xt, .bool xb, .int .i64 xf] (by rfl) (Rw.src (Rw.made wb _ _ _ 1 rfl)) rfl (by simp [Value.oneCell']) (by omega) (by omega) ?_; intro ga gca wa hva hga hoa; have oga := own_ge oa hoa (ub.alloc _); have ua := Upd.grown (ub.alloc _) hga (fun j hj => .inl (oa j hj)); have pa := Rw.past (hvb.alloc _) (pb.alloc _) (Ne.symm hne) hga)
          | (refine step_append_rw _ (by rfl) _ _ 34 34 (by rfl) 30 _ i2 _ 5 48 Tryz.underlying34 Tryz.underlying34 (by simp) hi2 hz2a hz2b hz2c rfl _ k (vlCells ((l.take k).map cutV)) (by rfl) (HB0.alloc _) _ 1 [.int .i64 xk, .int .i64 xn, enS xt, .bool xb, .int .i64 xf] (by rfl) (Rw.src RY1) rfl (by simp [Value.oneCell']) (by omega) (by omega) ?_; intro gb gcb wb hvb hgb hob; have ogb := own_ge ob hob (UD.alloc _); have ub := Upd.grown (UD.alloc _) hgb (fun j hj => .inl (ob j hj)); have pb := Rw.past (HA0.alloc _) (HB0.alloc _) hne hgb)
          | (refine step_append_rw _ (by rfl) _ _ 34 34 (by rfl) 30 _ i2 _ 5 48 Tryz.underlying34 Tryz.underlying34 (by simp) hi2 hz2a hz2b hz2c rfl _ k (vlCells ((l.take k).map cutV)) (by rfl) ((HB0.alloc _).alloc _) _ 1 [.int .i64 xk, .int .i64 xn, enS xt, .bool xb, .int .i64 xf] (by rfl) (Rw.src (RY1.alloc _)) rfl (by simp [Value.oneCell']) (by omega) (by omega) ?_; intro gb gcb wb hvb hgb hob; have ogb := own_ge ob hob ((UD.alloc _).alloc _); have ub := Upd.grown ((UD.alloc _).alloc _) hgb (fun j hj => .inl (ob j hj)); have pb := Rw.past ((HA0.alloc _).alloc _) ((HB0.alloc _).alloc _) hne hgb; have qb := Rw.past RX2 ((HB0.alloc _).alloc _) hne hgb)
          | (refine step_append_rw _ (by rfl) _ _ 34 34 (by rfl) 30 _ i2 _ 5 48 Tryz.underlying34 Tryz.underlying34 (by simp) hi2 hz2a hz2b hz2c rfl _ k (vlCells ((l.take k).map cutV)) (by rfl) ((HB0.alloc _).alloc _) _ 1 [.int .i64 xk, .int .i64 xn, enS xt, .bool xb, .int .i64 xf] (by rfl) (Rw.src RY2) rfl (by simp [Value.oneCell']) (by omega) (by omega) ?_; intro gb gcb wb hvb hgb hob; have ogb := own_ge ob hob ((UD.alloc _).alloc _); have ub := Upd.grown ((UD.alloc _).alloc _) hgb (fun j hj => .inl (ob j hj)); have pb := Rw.past ((HA0.alloc _).alloc _) ((HB0.alloc _).alloc _) hne hgb; have qb := Rw.past (RX1.alloc _) ((HB0.alloc _).alloc _) hne hgb)
          | (refine step_append_rw _ (by rfl) _ _ 34 34 (by rfl) 30 _ i2 _ 5 48 Tryz.underlying34 Tryz.underlying34 (by simp) hi2 hz2a hz2b hz2c rfl _ k (vlCells ((l.take k).map cutV)) (by rfl) pa _ 1 [.int .i64 xk, .int .i64 xn, enS xt, .bool xb, .int .i64 xf] (by rfl) (Rw.src qa) rfl (by simp [Value.oneCell']) (by omega) (by omega) ?_; intro gb gcb wb hvb hgb hob; have ogb := own_ge ob hob ua; have ub := Upd.grown ua hgb (fun j hj => .inl (ob j hj)); have pb := Rw.past hva pa hne hgb)
          | (refine step_append_rw _ (by rfl) _ _ 34 34 (by rfl) 30 _ i2 _ 5 48 Tryz.underlying34 Tryz.underlying34 (by simp) hi2 hz2a hz2b hz2c rfl _ k (vlCells ((l.take k).map cutV)) (by rfl) (pa.alloc _) _ 1 [.int .i64 xk, .int .i64 xn, enS xt, .bool xb, .int .i64 xf] (by rfl) (Rw.src (Rw.made wa _ _ _ 1 rfl)) rfl (by simp [Value.oneCell']) (by omega) (by omega) ?_; intro gb gcb wb hvb hgb hob; have ogb := own_ge ob hob (ua.alloc _); have ub := Upd.grown (ua.alloc _) hgb (fun j hj => .inl (ob j hj)); have pb := Rw.past (hva.alloc _) (pa.alloc _) hne hgb))
      all_goals go_wp2_with fail
      all_goals go_roundg (gk - 1)
      case' measure => omega
      all_goals (first
        | exact ⟨k + 1, by omega, by go_num, by rw [HE2.out]; exact hva, by rw [HE2.out]; exact pa, oga, ogb, ua⟩
        | exact ⟨k + 1, by omega, by go_num, by rw [HE2.out]; exact pb, by rw [HE2.out]; exact hvb, oga, ogb, ub⟩
        | omega)
    · go_wp2_with fail
      go_ret2
      have e0 : k = N := by omega
      subst e0
      have e1 : cutL l = (l.take k).map cutV := by
        unfold cutL
        congr 1
        rw [← HN.out, ← HL.out]
        rw [List.take_eq_take_iff]
        omega
      have e2 : (cutL l).length = k := by rw [e1]; simp; rw [HL.out]; have := HN.out; omega
      exact ⟨_, _, rfl, by rw [e2, e1]; exact ra, by rw [e2, e1]; exact rb, oa, ob, hu⟩
end Go.Proofs.YtdjpkkgcoainhaaGreatDoor
