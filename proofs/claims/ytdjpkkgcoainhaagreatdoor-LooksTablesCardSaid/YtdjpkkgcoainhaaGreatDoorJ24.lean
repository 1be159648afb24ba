/- The walks of the reference's fault, at. -/
import Derived.Test.YtdjpkkgcoainhaaGreatDoorJ23
/- The walks of the reference's fault, at. -/
set_option maxRecDepth 100000
namespace Go.Proofs.YtdjpkkgcoainhaaGreatDoor
open Go.RowKit Go.Lat Go.Lib

set_option maxHeartbeats 3200000 in
theorem Rfault_any (w : World) (a : Ar) (va : Option Addr) (vc : Nat) (k : UInt8) (hk : k = 120 ∨ k = 110 ∨ k = 78 ∨ k = 108 ∨ k = 116) (hv : RdV w va a.v) (hg : goodA a = true) (ho : oksV a.v) (hlv : a.v.length ≤ 1000000) :
    Calls Tryz.prog 37 #[.agg #[.slice va a.v.length vc, .int .i64 a.c, .bool a.w], .int .u8 (k.toNat : Int)] w fun e w' => e = .returned (.int .i64 (faultA a k)) ∧ Upd w w' (fun _ => False) := by
  have SZ := fun w => Rsize_any w a va vc hg
  have HA := hide (Vnew1 w (.cells #[.slice va a.v.length vc, .int .i64 a.c, .bool a.w] 81))
  obtain ⟨gv, ov, x, hx, rfl, hgv, x0, x1, x2, x3, x4, hlen⟩ := head_at hv hg
  have hok := head_ok ho
  have hsnd := fun w => RSound_any w (a.v.getD 0 vZero)
  have hnum := fun w => numR_any w (a.v.getD 0 vZero) hok.2
  obtain ⟨R, hR⟩ : ∃ R, rowsA a = R := ⟨_, rfl⟩
  obtain ⟨C, hC⟩ : ∃ C, colsA a = C := ⟨_, rfl⟩
  rw [hR, hC] at SZ
  have hl0 : (0 : Int) < (a.v.length : Int) := by omega
  have e5 : faultA a 108 = if R ≠ 1 ∧ C ≠ 1 then 6 else 0 := by rw [← hR, ← hC]; unfold faultA; simp
  clear hv hg ho hok hR hC
  obtain ⟨v, c, wd⟩ := a
  simp only at SZ HA hl0 hlen hlv ⊢
  rcases hk with rfl | rfl | rfl | rfl | rfl
  · have e0 : faultA ⟨v, c, wd⟩ 120 = if wd then 3 else (soundV (v.getD 0 vZero)).f := by unfold faultA; simp
    rw [e0]
    cases wd with
    | true =>
      simp only [if_true]
      go_enter Tryz.func37, Tryz.ntmps37
      go_wp2_with fail
      refine Calls.mono (SZ _) ?_
      rintro e w1 ⟨rfl, u1⟩
      have bA := u1.get HA.out id
      obtain ⟨a0, a1, a2⟩ := cells3 bA
      have al := lt_at bA
      have HU1 := hide (((Upd.refl w (fun _ => False)).alloc _).then u1 (fun _ _ => id))
      clear bA u1 SZ
      go_wp2_with fail
      go_ret
      exact ⟨rfl, HU1.out⟩
    | false =>
      simp only [Bool.false_eq_true, if_false]
      simp only at hx hsnd
      rw [hx] at hsnd ⊢
      obtain ⟨⟨sk, sn, st, sb, sf⟩, hs⟩ : ∃ s, soundV x = s := ⟨_, rfl⟩
      rw [hs] at hsnd ⊢
      clear e0 hs hx
      obtain ⟨xk, xn, xt, xb, xf⟩ := x
      unfold Vl.val at hsnd
      simp only at hsnd x0 x1 x2 x3 x4 ⊢
      go_enter Tryz.func37, Tryz.ntmps37
      go_wp2_with fail
      refine Calls.mono (SZ _) ?_
      rintro e w1 ⟨rfl, u1⟩
      have bA := u1.get HA.out id
      obtain ⟨a0, a1, a2⟩ := cells3 bA
      have al := lt_at bA
      have HU1 := hide (((Upd.refl w (fun _ => False)).alloc _).then u1 (fun _ _ => id))
      have y0 := (HU1.out.cell gv _ hgv id).trans x0
      have y1 := (HU1.out.cell gv _ hgv id).trans x1
      have y2 := (HU1.out.cell gv _ hgv id).trans x2
      have y3 := (HU1.out.cell gv _ hgv id).trans x3
      have y4 := (HU1.out.cell gv _ hgv id).trans x4
      have gl := Nat.lt_of_lt_of_le hgv HU1.out.size
      clear bA u1 SZ x0 x1 x2 x3 x4
      go_wp2_with fail
      refine Calls.mono (hsnd _) ?_
      rintro e w2 ⟨rfl, u2⟩
      have bS := Vnew1 w2 (.cells #[.int .i64 sk, .int .i64 sn, enS st, .bool sb, .int .i64 sf] 30)
      obtain ⟨s0, s1, s2, s3, s4⟩ := cells5 bS
      have sl := lt_at bS
      clear bS
      go_wp2_with fail
      go_ret
      exact ⟨rfl, (HU1.out.then u2 (fun _ _ => id)).alloc _⟩
  · have e0 : faultA ⟨v, c, wd⟩ 110 = if wd then 3 else (numF (v.getD 0 vZero)).2 := by unfold faultA; simp
    rw [e0]
    cases wd with
    | true =>
      simp only [if_true]
      go_enter Tryz.func37, Tryz.ntmps37
      go_wp2_with fail
      refine Calls.mono (SZ _) ?_
      rintro e w1 ⟨rfl, u1⟩
      have bA := u1.get HA.out id
      obtain ⟨a0, a1, a2⟩ := cells3 bA
      have al := lt_at bA
      have HU1 := hide (((Upd.refl w (fun _ => False)).alloc _).then u1 (fun _ _ => id))
      clear bA u1 SZ
      go_wp2_with fail
      go_ret
      exact ⟨rfl, HU1.out⟩
    | false =>
      simp only [Bool.false_eq_true, if_false]
      simp only at hx hnum
      rw [hx] at hnum ⊢
      obtain ⟨⟨z, fz⟩, hz⟩ : ∃ z, numF x = z := ⟨_, rfl⟩
      rw [hz] at hnum ⊢
      clear e0 hz hx
      obtain ⟨xk, xn, xt, xb, xf⟩ := x
      unfold Vl.val at hnum
      simp only at hnum x0 x1 x2 x3 x4
      go_enter Tryz.func37, Tryz.ntmps37
      go_wp2_with fail
      refine Calls.mono (SZ _) ?_
      rintro e w1 ⟨rfl, u1⟩
      have bA := u1.get HA.out id
      obtain ⟨a0, a1, a2⟩ := cells3 bA
      have al := lt_at bA
      have HU1 := hide (((Upd.refl w (fun _ => False)).alloc _).then u1 (fun _ _ => id))
      have y0 := (HU1.out.cell gv _ hgv id).trans x0
      have y1 := (HU1.out.cell gv _ hgv id).trans x1
      have y2 := (HU1.out.cell gv _ hgv id).trans x2
      have y3 := (HU1.out.cell gv _ hgv id).trans x3
      have y4 := (HU1.out.cell gv _ hgv id).trans x4
      have gl := Nat.lt_of_lt_of_le hgv HU1.out.size
      clear bA u1 SZ x0 x1 x2 x3 x4
      go_wp2_with fail
      refine Calls.mono (hnum _) ?_
      rintro e w2 ⟨rfl, u2⟩
      go_wp2_with fail
      go_ret
      exact ⟨rfl, HU1.out.then u2 (fun _ _ => id)⟩
  · have e0 : faultA ⟨v, c, wd⟩ 78 = if wd then 3 else (numF (v.getD 0 vZero)).2 := by unfold faultA; simp
    rw [e0]
    cases wd with
    | true =>
      simp only [if_true]
      go_enter Tryz.func37, Tryz.ntmps37
      go_wp2_with fail
      refine Calls.mono (SZ _) ?_
      rintro e w1 ⟨rfl, u1⟩
      have bA := u1.get HA.out id
      obtain ⟨a0, a1, a2⟩ := cells3 bA
      have al := lt_at bA
      have HU1 := hide (((Upd.refl w (fun _ => False)).alloc _).then u1 (fun _ _ => id))
      clear bA u1 SZ
      go_wp2_with fail
      go_ret
      exact ⟨rfl, HU1.out⟩
    | false =>
      simp only [Bool.false_eq_true, if_false]
      simp only at hx hnum
      rw [hx] at hnum ⊢
      obtain ⟨⟨z, fz⟩, hz⟩ : ∃ z, numF x = z := ⟨_, rfl⟩
      rw [hz] at hnum ⊢
      clear e0 hz hx
      obtain ⟨xk, xn, xt, xb, xf⟩ := x
      unfold Vl.val at hnum
      simp only at hnum x0 x1 x2 x3 x4
      go_enter Tryz.func37, Tryz.ntmps37
      go_wp2_with fail
      refine Calls.mono (SZ _) ?_
      rintro e w1 ⟨rfl, u1⟩
      have bA := u1.get HA.out id
      obtain ⟨a0, a1, a2⟩ := cells3 bA
      have al := lt_at bA
      have HU1 := hide (((Upd.refl w (fun _ => False)).alloc _).then u1 (fun _ _ => id))
      have y0 := (HU1.out.cell gv _ hgv id).trans x0
      have y1 := (HU1.out.cell gv _ hgv id).trans x1
      have y2 := (HU1.out.cell gv _ hgv id).trans x2
      have y3 := (HU1.out.cell gv _ hgv id).trans x3
      have y4 := (HU1.out.cell gv _ hgv id).trans x4
      have gl := Nat.lt_of_lt_of_le hgv HU1.out.size
      clear bA u1 SZ x0 x1 x2 x3 x4
      go_wp2_with fail
      refine Calls.mono (hnum _) ?_
      rintro e w2 ⟨rfl, u2⟩
      go_wp2_with fail
      go_ret
      exact ⟨rfl, HU1.out.then u2 (fun _ _ => id)⟩
  · rw [e5]
    clear e5 hsnd hnum hx x0 x1 x2 x3 x4
    by_cases h1 : R ≠ 1
    · have b1 : (R != 1) = true := by simpa using h1
      by_cases h2 : C ≠ 1
      · have b2 : (C != 1) = true := by simpa using h2
        rw [if_pos ⟨h1, h2⟩]
        clear h1 h2
        go_enter Tryz.func37, Tryz.ntmps37
        go_wp2_with fail
        refine Calls.mono (SZ _) ?_
        rintro e w1 ⟨rfl, u1⟩
        have bA := u1.get HA.out id
        obtain ⟨a0, a1, a2⟩ := cells3 bA
        have al := lt_at bA
        have HU1 := hide (((Upd.refl w (fun _ => False)).alloc _).then u1 (fun _ _ => id))
        clear bA u1 SZ
        go_wp2_with fail
        go_ret
        exact ⟨rfl, HU1.out⟩
      · have b2 : (C != 1) = false := by simpa using h2
        rw [if_neg (fun h => h2 h.2)]
        clear h1 h2
        go_enter Tryz.func37, Tryz.ntmps37
        go_wp2_with fail
        refine Calls.mono (SZ _) ?_
        rintro e w1 ⟨rfl, u1⟩
        have bA := u1.get HA.out id
        obtain ⟨a0, a1, a2⟩ := cells3 bA
        have al := lt_at bA
        have HU1 := hide (((Upd.refl w (fun _ => False)).alloc _).then u1 (fun _ _ => id))
        clear bA u1 SZ
        go_wp2_with fail
        go_ret
        exact ⟨rfl, HU1.out⟩
    · have b1 : (R != 1) = false := by simpa using h1
      rw [if_neg (fun h => h1 h.1)]
      clear h1
      go_enter Tryz.func37, Tryz.ntmps37
      go_wp2_with fail
      refine Calls.mono (SZ _) ?_
      rintro e w1 ⟨rfl, u1⟩
      have bA := u1.get HA.out id
      obtain ⟨a0, a1, a2⟩ := cells3 bA
      have al := lt_at bA
      have HU1 := hide (((Upd.refl w (fun _ => False)).alloc _).then u1 (fun _ _ => id))
      clear bA u1 SZ
      go_wp2_with fail
      go_ret
      exact ⟨rfl, HU1.out⟩
  · rw [fault_t]
    clear e5 hsnd hnum hx x0 x1 x2 x3 x4
    go_enter Tryz.func37, Tryz.ntmps37
    go_wp2_with fail
    refine Calls.mono (SZ _) ?_
    rintro e w1 ⟨rfl, u1⟩
    have bA := u1.get HA.out id
    obtain ⟨a0, a1, a2⟩ := cells3 bA
    have al := lt_at bA
    have HU1 := hide (((Upd.refl w (fun _ => False)).alloc _).then u1 (fun _ _ => id))
    clear bA u1 SZ
    go_wp2_with fail
    go_ret
    exact ⟨rfl, HU1.out⟩
set_option maxHeartbeats 3200000 in
theorem Rat_any (w : World) (a : Ar) (va : Option Addr) (vc : Nat) (row col : Int) (hv : RdV w va a.v) (hg : goodA a = true) (ho : oksV a.v) (hr : -1000000000000000 ≤ row ∧ row ≤ 1000000000000000) (hc : -1000000000000000 ≤ col ∧ col ≤ 1000000000000000) :
    Calls Tryz.prog 67 #[.agg #[.slice va a.v.length vc, .int .i64 a.c, .bool a.w], .int .i64 row, .int .i64 col] w fun e w' => e = .returned (atR a row col).val ∧ Upd w w' (fun _ => False) := by
  have SZ := fun w => Rsize_any w a va vc hg
  have bA := block_alloc (Vnew1 w (.cells #[.slice va a.v.length vc, .int .i64 a.c, .bool a.w] 81)) (.cells #[.int .i64 0, .int .i64 0, .string ⟨#[]⟩, .bool false, .int .i64 0] 30)
  have HV := hide (Vnew2 w (.cells #[.slice va a.v.length vc, .int .i64 a.c, .bool a.w] 81) (.cells #[.int .i64 0, .int .i64 0, .string ⟨#[]⟩, .bool false, .int .i64 0] 30))
  have HU0 : Hid (Upd w ((w.alloc (.cells #[.slice va a.v.length vc, .int .i64 a.c, .bool a.w] 81)).alloc (.cells #[.int .i64 0, .int .i64 0, .string ⟨#[]⟩, .bool false, .int .i64 0] 30)) (fun _ => False)) := hide (((Upd.refl w _).alloc _).alloc _)
  have HA := hide bA
  obtain ⟨R, C, hR, hC, hRC, hR1, hC1, hl, hR4, hC4⟩ := dims_le hg
  obtain ⟨hr1, hr2⟩ := hr
  obtain ⟨hc1, hc2⟩ := hc
  unfold atR
  rw [hR, hC] at SZ
  rw [hR, hC]
  obtain ⟨ac0, ac1, ac2⟩ := cells3 bA
  have acl := lt_at bA
  by_cases hb : row < 1 ∨ (R : Int) < row ∨ col < 1 ∨ (C : Int) < col
  · rw [if_pos hb]
    have EA := fun w => RE12_any w 4
    have e4 : rawE 4 = mkE 4 := rawE_ok (by decide)
    rw [e4] at EA
    obtain ⟨ev, hev⟩ : ∃ v, mkE 4 = v := ⟨_, rfl⟩
    rw [hev] at EA ⊢
    obtain ⟨k0, n0, t0, b0, e0⟩ := ev
    unfold Vl.val at EA ⊢
    simp only at EA ⊢
    have hcc : row < 1 ∨ ¬ row < 1 ∧ (R : Int) < row ∨ ¬ row < 1 ∧ ¬ (R : Int) < row ∧ col < 1 ∨ ¬ row < 1 ∧ ¬ (R : Int) < row ∧ ¬ col < 1 ∧ (C : Int) < col := by omega
    obtain ⟨v, c, wd⟩ := a
    simp only at SZ HV HU0 HA ac0 ac1 ac2 acl ⊢
    clear bA hev hv hRC hl hb hg ho e4 hR hC hr1 hr2 hc1 hc2
    rcases hcc with g1 | ⟨g1, g2⟩ | ⟨g1, g2, g3⟩ | ⟨g1, g2, g3, g4⟩
    all_goals
      go_enter Tryz.func67, Tryz.ntmps67
      go_wp2_with fail
      refine Calls.mono (SZ _) ?_
      rintro e w1 ⟨rfl, u1⟩
      have HU1 := hide (HU0.out.then u1 (fun _ _ => id))
      have HV1 := hide (u1.get HV.out id)
      clear u1 ac0 ac1 ac2 acl SZ
      go_wp2_with fail
      refine Calls.mono (EA _) ?_
      rintro e w2 ⟨rfl, u2⟩
      have bV := u2.get HV1.out id
      obtain ⟨v0, v1, v2, v3, v4⟩ := cells5 bV
      have vl := lt_at bV
      have fv0 := free_at bV 0
      have fv1 := free_at bV 1
      have fv2 := free_at bV 2
      have fv3 := free_at bV 3
      have fv4 := free_at bV 4
      have HB := hide bV
      have HU := hide (HU1.out.then u2 (fun _ _ => id))
      clear bV u2 EA
      go_wp2_with fail
      (try simp only [Exit.inBlock, Exit.then])
      refine bodyPost_ret (ret_rv rfl _ _ (w.heap.size + 1) ⟨k0, n0, t0, b0, e0⟩ rfl (rblock5 (x := vZero) HB.out _ _ _ _ _)) rfl ?_
      exact ⟨rfl, upd5 HU.out (by omega) _ _ _ _ _⟩
  · rw [if_neg hb]
    obtain ⟨q, rfl⟩ : ∃ q : Nat, row = q + 1 := ⟨(row - 1).toNat, by omega⟩
    obtain ⟨z, rfl⟩ : ∃ z : Nat, col = z + 1 := ⟨(col - 1).toNat, by omega⟩
    have hqR : q < R := by omega
    have hzC : z < C := by omega
    have hj : q * C + z < a.v.length := by
      have : (q + 1) * C ≤ R * C := Nat.mul_le_mul_right _ hqR
      rw [Nat.add_mul] at this
      omega
    have ej : (((q : Int) + 1 - 1) * (C : Int) + ((z : Int) + 1 - 1)).toNat = q * C + z := by
      have : ((q : Int) + 1 - 1) * (C : Int) + ((z : Int) + 1 - 1) = ((q * C + z : Nat) : Int) := by simp
      rw [this]; rfl
    rw [ej]
    obtain ⟨x, hx⟩ : ∃ x, a.v[q * C + z]? = some x := ⟨_, List.getElem?_eq_getElem hj⟩
    have ex : a.v.getD (q * C + z) vZero = x := by rw [List.getD_eq_getElem?_getD, hx]; rfl
    rw [ex]
    have SN := fun w => RSound_any w x
    obtain ⟨⟨k0, n0, t0, b0, e0⟩, hs⟩ : ∃ s, soundV x = s := ⟨_, rfl⟩
    rw [hs] at SN ⊢
    obtain ⟨g, off, rfl, hg', x0, x1, x2, x3, x4⟩ := rdV_at hv hx
    obtain ⟨rw', hrw⟩ : ∃ t : Int, (q : Int) + 1 = t := ⟨_, rfl⟩
    obtain ⟨cl, hcl⟩ : ∃ t : Int, (z : Int) + 1 = t := ⟨_, rfl⟩
    obtain ⟨M, hM⟩ : ∃ M : Nat, q * C = M := ⟨_, rfl⟩
    obtain ⟨J, hJ⟩ : ∃ J : Nat, q * C + z = J := ⟨_, rfl⟩
    rw [hJ] at x0 x1 x2 x3 x4 hj
    rw [hM] at hJ
    have w1 : IntKind.i64.wrap (rw' - 1) = (q : Int) := by rw [← hrw, Int.add_sub_cancel]; exact IntWalk.i64_in _ (by omega)
    have w1' : IntKind.i64.wrap (cl - 1) = (z : Int) := by rw [← hcl, Int.add_sub_cancel]; exact IntWalk.i64_in _ (by omega)
    have w2 : IntKind.i64.wrap ((q : Int) * (C : Int)) = (M : Int) := by
      have : (q : Int) * (C : Int) = (M : Int) := by rw [← hM]; simp
      rw [this]; exact IntWalk.i64_in _ (by omega)
    have w3 : IntKind.i64.wrap ((M : Int) + (z : Int)) = (J : Int) := by
      have : (M : Int) + (z : Int) = (J : Int) := by omega
      rw [this]; exact IntWalk.i64_in _ (by omega)
    have g1 : ¬ rw' < 1 := by omega
    have g2 : ¬ (R : Int) < rw' := by omega
    have g3 : ¬ cl < 1 := by omega
    have g4 : ¬ (C : Int) < cl := by omega
    have hJ0 : (0 : Int) ≤ (J : Int) := by omega
    have hJ1 : (J : Int) < (a.v.length : Int) := by omega
    rw [hrw, hcl]
    obtain ⟨v, c, wd⟩ := a
    obtain ⟨xk, xn, xt, xb, xf⟩ := x
    unfold Vl.val at SN ⊢
    simp only at SN SZ HV HU0 HA ac0 ac1 ac2 acl x0 x1 x2 x3 x4 hJ1 ⊢
    clear bA hb hx ex ej hv hrw hcl hM hJ hRC hr1 hr2 hc1 hc2 hqR hzC hs hg ho hR hC
    go_enter Tryz.func67, Tryz.ntmps67
    go_wp2_with fail
    refine Calls.mono (SZ _) ?_
    rintro e w1 ⟨rfl, u1⟩
    have HU1 := hide (HU0.out.then u1 (fun _ _ => id))
    have HV1 := hide (u1.get HV.out id)
    have bA := u1.get HA.out id
    have y0 := (HU1.out.cell g _ hg' id).trans x0
    have y1 := (HU1.out.cell g _ hg' id).trans x1
    have y2 := (HU1.out.cell g _ hg' id).trans x2
    have y3 := (HU1.out.cell g _ hg' id).trans x3
    have y4 := (HU1.out.cell g _ hg' id).trans x4
    have gl := Nat.lt_of_lt_of_le hg' HU1.out.size
    clear ac0 ac1 ac2 acl
    obtain ⟨ac0, ac1, ac2⟩ := cells3 bA
    have acl := lt_at bA
    have bX := Vnew1 w1 (.cells #[.int .i64 xk, .int .i64 xn, enS xt, .bool xb, .int .i64 xf] 30)
    obtain ⟨x_0, x_1, x_2, x_3, x_4⟩ := cells5 bX
    have x_l := lt_at bX
    clear bA u1 SZ x0 x1 x2 x3 x4 bX
    go_wp2_with fail
    refine Calls.mono (SN _) ?_
    rintro e w2 ⟨rfl, u2⟩
    have bV := u2.get (block_alloc HV1.out _) id
    obtain ⟨v0, v1, v2, v3, v4⟩ := cells5 bV
    have vl := lt_at bV
    have fv0 := free_at bV 0
    have fv1 := free_at bV 1
    have fv2 := free_at bV 2
    have fv3 := free_at bV 3
    have fv4 := free_at bV 4
    have HB := hide bV
    have HU := hide ((HU1.out.alloc _).then u2 (fun _ _ => id))
    clear bV u2 SN
    go_wp2_with fail
    (try simp only [Exit.inBlock, Exit.then])
    refine bodyPost_ret (ret_rv rfl _ _ (w.heap.size + 1) ⟨k0, n0, t0, b0, e0⟩ rfl (rblock5 (x := vZero) HB.out _ _ _ _ _)) rfl ?_
    exact ⟨rfl, upd5 HU.out (by omega) _ _ _ _ _⟩
end Go.Proofs.YtdjpkkgcoainhaaGreatDoor
/- The walks of the reference's told: ROWS, COLUMNS, INDEX. -/
set_option maxRecDepth 100000
namespace Go.Proofs.YtdjpkkgcoainhaaGreatDoor
open Go.RowKit Go.Lat Go.Lib

theorem arg0 {w : World} {p : Option Addr} {aa : List Ar} {a : Ar} (h : RdA w p aa) (ha : aa[0]? = some a) : ∃ g off va vc, p = some ⟨g, off, none⟩ ∧ g < w.heap.size ∧ w.cell? ⟨g, off, none⟩ = some (.slice va a.v.length vc) ∧ w.cell? ⟨g, off + 1, none⟩ = some (.int .i64 a.c) ∧ w.cell? ⟨g, off + 2, none⟩ = some (.bool a.w) ∧ RdV w va a.v := by
  obtain ⟨g, off, va, vc, e, hg, d0, d1, d2, hv⟩ := h 0 a ha
  exact ⟨g, off, va, vc, e, hg, by simpa using d0, by simpa using d1, by simpa using d2, hv⟩
theorem arg1 {w : World} {g off : Nat} {aa : List Ar} {a : Ar} (h : RdA w (some ⟨g, off, none⟩) aa) (ha : aa[1]? = some a) : ∃ va vc, w.cell? ⟨g, off + 3, none⟩ = some (.slice va a.v.length vc) ∧ w.cell? ⟨g, off + 4, none⟩ = some (.int .i64 a.c) ∧ w.cell? ⟨g, off + 5, none⟩ = some (.bool a.w) ∧ RdV w va a.v := by
  obtain ⟨g', off', va, vc, e, hg, d0, d1, d2, hv⟩ := h 1 a ha
  simp at e
  obtain ⟨rfl, rfl⟩ := e
  exact ⟨va, vc, by simpa using d0, by simpa using d1, by simpa using d2, hv⟩
theorem arg2 {w : World} {g off : Nat} {aa : List Ar} {a : Ar} (h : RdA w (some ⟨g, off, none⟩) aa) (ha : aa[2]? = some a) : ∃ va vc, w.cell? ⟨g, off + 6, none⟩ = some (.slice va a.v.length vc) ∧ w.cell? ⟨g, off + 7, none⟩ = some (.int .i64 a.c) ∧ w.cell? ⟨g, off + 8, none⟩ = some (.bool a.w) ∧ RdV w va a.v := by
  obtain ⟨g', off', va, vc, e, hg, d0, d1, d2, hv⟩ := h 2 a ha
  simp at e
  obtain ⟨rfl, rfl⟩ := e
  exact ⟨va, vc, by simpa using d0, by simpa using d1, by simpa using d2, hv⟩
theorem wholeA_rng (aa : List Ar) (i : Nat) (o : Int) (h : -1000000 ≤ o ∧ o ≤ 1000000) : -1000000000000000 ≤ wholeA aa i o ∧ wholeA aa i o ≤ 1000000000000000 := by
  unfold wholeA
  split
  · omega
  · rename_i a _
    have := wholeF_rng (numF (a.v.getD 0 vZero)).1
    omega
set_option maxHeartbeats 1600000 in
theorem Rtold_ROWS (w : World) (p : Option Addr) (pc : Nat) (aa : List Ar) (hr : RdA w p aa) (A : ArgsOk aa) (hcnt : 1 ≤ aa.length) :
    Calls Tryz.prog 39 #[enS nROWS, .slice p aa.length pc] w fun e w' => e = .returned (toldR nROWS aa).val ∧ Upd w w' (fun _ => False) := by
  obtain ⟨a, ha⟩ : ∃ a, aa[0]? = some a := ⟨_, List.getElem?_eq_getElem (by omega)⟩
  have hga := A.good a (List.mem_of_getElem? ha)
  have hoa := A.oks a (List.mem_of_getElem? ha)
  have hl9 := A.len
  obtain ⟨g, off, va, vc, rfl, hg, d0, d1, d2, hv⟩ := arg0 hr ha
  have SZ := fun w => Rsize_any w a va vc hga
  obtain ⟨R, C, hR, hC, hRC, hR1, hC1, hl, hR4, hC4⟩ := dims_le hga
  rw [hR, hC] at SZ
  have b0 : (nROWS == [82, 79, 87, 83]) = true := by decide
  have b1 : (nROWS == [67, 79, 76, 85, 77, 78, 83]) = false := by decide
  have b2 : (nROWS == [77, 65, 84, 67, 72]) = false := by decide
  have b3 : (nROWS == [73, 78, 68, 69, 88]) = false := by decide
  have b4 : (nROWS == [76, 79, 79, 75, 85, 80]) = false := by decide
  have b5 : (nROWS == [86, 76, 79, 79, 75, 85, 80]) = false := by decide
  have b6 : (nROWS == [72, 76, 79, 79, 75, 85, 80]) = false := by decide
  have b7 : (nROWS == [67, 72, 79, 79, 83, 69]) = false := by decide
  have HU0 : Hid (Upd w (w.alloc (.cells #[.int .i64 0, .int .i64 0, .string ⟨#[]⟩, .bool false, .int .i64 0] 30)) (fun _ => False)) := hide ((Upd.refl w _).alloc _)
  have HV0 := hide (Vnew1 w (.cells #[.int .i64 0, .int .i64 0, .string ⟨#[]⟩, .bool false, .int .i64 0] 30))
  have HRA := hide hr
  have hA0 := argA_at ha
  have hq0 : (0 : Int) < (aa.length : Int) := by omega
  have HD : Hid (w.cell? ⟨g, off, none⟩ = some (.slice va a.v.length vc) ∧ w.cell? ⟨g, off + 1, none⟩ = some (.int .i64 a.c) ∧ w.cell? ⟨g, off + 2, none⟩ = some (.bool a.w)) := hide ⟨d0, d1, d2⟩
  obtain ⟨NM, hNM⟩ : ∃ z, nROWS = z := ⟨_, rfl⟩
  have et : toldR nROWS aa = mkN (10000 * (R : Int)) := by
    unfold toldR
    rw [if_pos rfl, hA0, hR]
  rw [et]
  obtain ⟨M, hM⟩ : ∃ M, 10000 * (R : Int) = M := ⟨_, rfl⟩
  have wM : IntKind.i64.wrap (10000 * (R : Int)) = M := by rw [hM]; exact IntWalk.i64_in _ (by omega)
  have NX := fun w => RN_any w M
  rw [hM]
  obtain ⟨⟨k0, n0, t0, b0', e0'⟩, hev⟩ : ∃ v, mkN M = v := ⟨_, rfl⟩
  rw [hev] at NX ⊢
  unfold Vl.val at NX ⊢
  simp only at NX ⊢
  rw [hNM] at b0 b1 b2 b3 b4 b5 b6 b7 ⊢
  clear hM hev et hA0 hRC hNM hR hC ha hga hoa hv hr A
  obtain ⟨v, c, wd⟩ := a
  simp only at SZ HD ⊢
  have e0 := (HU0.out.cell g _ hg id).trans HD.out.1
  have e1 := (HU0.out.cell g _ hg id).trans HD.out.2.1
  have e2 := (HU0.out.cell g _ hg id).trans HD.out.2.2
  have gl0 := Nat.lt_of_lt_of_le hg HU0.out.size
  clear d0 d1 d2
  go_enter Tryz.func39, Tryz.ntmps39
  go_wp2_with fail
  refine Calls.mono (SZ _) ?_
  rintro e w1 ⟨rfl, u1⟩
  have HU1 := hide (HU0.out.then u1 (fun _ _ => id))
  have HV1 := hide (u1.get HV0.out id)
  clear u1 SZ
  clear e0 e1 e2 gl0
  go_wp2_with fail
  refine Calls.mono (NX _) ?_
  rintro e w2 ⟨rfl, u2⟩
  have HU2 := hide (HU1.out.then u2 (fun _ _ => id))
  have HV2 := hide (u2.get HV1.out id)
  have bV := HV2.out
  obtain ⟨v0, v1, v2, v3, v4⟩ := cells5 bV
  have vl := lt_at bV
  have fv0 := free_at bV 0
  have fv1 := free_at bV 1
  have fv2 := free_at bV 2
  have fv3 := free_at bV 3
  have fv4 := free_at bV 4
  have HB := hide bV
  clear bV u2 NX
  go_wp2_with fail
  (try simp only [Exit.inBlock, Exit.then])
  refine bodyPost_ret (ret_rv rfl _ _ w.heap.size ⟨k0, n0, t0, b0', e0'⟩ rfl (rblock5 (x := vZero) HB.out _ _ _ _ _)) rfl ?_
  exact ⟨rfl, upd5 HU2.out (Nat.le_refl _) _ _ _ _ _⟩
set_option maxHeartbeats 1600000 in
theorem Rtold_COLUMNS (w : World) (p : Option Addr) (pc : Nat) (aa : List Ar) (hr : RdA w p aa) (A : ArgsOk aa) (hcnt : 1 ≤ aa.length) :
    Calls Tryz.prog 39 #[enS nCOLUMNS, .slice p aa.length pc] w fun e w' => e = .returned (toldR nCOLUMNS aa).val ∧ Upd w w' (fun _ => False) := by
  obtain ⟨a, ha⟩ : ∃ a, aa[0]? = some a := ⟨_, List.getElem?_eq_getElem (by omega)⟩
  have hga := A.good a (List.mem_of_getElem? ha)
  have hoa := A.oks a (List.mem_of_getElem? ha)
  have hl9 := A.len
  obtain ⟨g, off, va, vc, rfl, hg, d0, d1, d2, hv⟩ := arg0 hr ha
  have SZ := fun w => Rsize_any w a va vc hga
  obtain ⟨R, C, hR, hC, hRC, hR1, hC1, hl, hR4, hC4⟩ := dims_le hga
  rw [hR, hC] at SZ
  have b0 : (nCOLUMNS == [82, 79, 87, 83]) = false := by decide
  have b1 : (nCOLUMNS == [67, 79, 76, 85, 77, 78, 83]) = true := by decide
  have b2 : (nCOLUMNS == [77, 65, 84, 67, 72]) = false := by decide
  have b3 : (nCOLUMNS == [73, 78, 68, 69, 88]) = false := by decide
  have b4 : (nCOLUMNS == [76, 79, 79, 75, 85, 80]) = false := by decide
  have b5 : (nCOLUMNS == [86, 76, 79, 79, 75, 85, 80]) = false := by decide
  have b6 : (nCOLUMNS == [72, 76, 79, 79, 75, 85, 80]) = false := by decide
  have b7 : (nCOLUMNS == [67, 72, 79, 79, 83, 69]) = false := by decide
  have HU0 : Hid (Upd w (w.alloc (.cells #[.int .i64 0, .int .i64 0, .string ⟨#[]⟩, .bool false, .int .i64 0] 30)) (fun _ => False)) := hide ((Upd.refl w _).alloc _)
  have HV0 := hide (Vnew1 w (.cells #[.int .i64 0, .int .i64 0, .string ⟨#[]⟩, .bool false, .int .i64 0] 30))
  have HRA := hide hr
  have hA0 := argA_at ha
  have hq0 : (0 : Int) < (aa.length : Int) := by omega
  have HD : Hid (w.cell? ⟨g, off, none⟩ = some (.slice va a.v.length vc) ∧ w.cell? ⟨g, off + 1, none⟩ = some (.int .i64 a.c) ∧ w.cell? ⟨g, off + 2, none⟩ = some (.bool a.w)) := hide ⟨d0, d1, d2⟩
  obtain ⟨NM, hNM⟩ : ∃ z, nCOLUMNS = z := ⟨_, rfl⟩
  have et : toldR nCOLUMNS aa = mkN (10000 * (C : Int)) := by
    unfold toldR
    rw [if_neg (by decide), if_pos rfl, hA0, hC]
  rw [et]
  obtain ⟨M, hM⟩ : ∃ M, 10000 * (C : Int) = M := ⟨_, rfl⟩
  have wM : IntKind.i64.wrap (10000 * (C : Int)) = M := by rw [hM]; exact IntWalk.i64_in _ (by omega)
  have NX := fun w => RN_any w M
  rw [hM]
  obtain ⟨⟨k0, n0, t0, b0', e0'⟩, hev⟩ : ∃ v, mkN M = v := ⟨_, rfl⟩
  rw [hev] at NX ⊢
  unfold Vl.val at NX ⊢
  simp only at NX ⊢
  rw [hNM] at b0 b1 b2 b3 b4 b5 b6 b7 ⊢
  clear hM hev et hA0 hRC hNM hR hC ha hga hoa hv hr A
  obtain ⟨v, c, wd⟩ := a
  simp only at SZ HD ⊢
  have e0 := (HU0.out.cell g _ hg id).trans HD.out.1
  have e1 := (HU0.out.cell g _ hg id).trans HD.out.2.1
  have e2 := (HU0.out.cell g _ hg id).trans HD.out.2.2
  have gl0 := Nat.lt_of_lt_of_le hg HU0.out.size
  clear d0 d1 d2
  go_enter Tryz.func39, Tryz.ntmps39
  go_wp2_with fail
  refine Calls.mono (SZ _) ?_
  rintro e w1 ⟨rfl, u1⟩
  have HU1 := hide (HU0.out.then u1 (fun _ _ => id))
  have HV1 := hide (u1.get HV0.out id)
  clear u1 SZ
  clear e0 e1 e2 gl0
  go_wp2_with fail
  refine Calls.mono (NX _) ?_
  rintro e w2 ⟨rfl, u2⟩
  have HU2 := hide (HU1.out.then u2 (fun _ _ => id))
  have HV2 := hide (u2.get HV1.out id)
  have bV := HV2.out
  obtain ⟨v0, v1, v2, v3, v4⟩ := cells5 bV
  have vl := lt_at bV
  have fv0 := free_at bV 0
  have fv1 := free_at bV 1
  have fv2 := free_at bV 2
  have fv3 := free_at bV 3
  have fv4 := free_at bV 4
  have HB := hide bV
  clear bV u2 NX
  go_wp2_with fail
  (try simp only [Exit.inBlock, Exit.then])
  refine bodyPost_ret (ret_rv rfl _ _ w.heap.size ⟨k0, n0, t0, b0', e0'⟩ rfl (rblock5 (x := vZero) HB.out _ _ _ _ _)) rfl ?_
  exact ⟨rfl, upd5 HU2.out (Nat.le_refl _) _ _ _ _ _⟩
set_option maxHeartbeats 3200000 in
theorem Rtold_INDEX (w : World) (p : Option Addr) (pc : Nat) (aa : List Ar) (hr : RdA w p aa) (A : ArgsOk aa) (hcnt : 2 ≤ aa.length) :
    Calls Tryz.prog 39 #[enS nINDEX, .slice p aa.length pc] w fun e w' => e = .returned (toldR nINDEX aa).val ∧ Upd w w' (fun _ => False) := by
  obtain ⟨a, ha⟩ : ∃ a, aa[0]? = some a := ⟨_, List.getElem?_eq_getElem (by omega)⟩
  have hga := A.good a (List.mem_of_getElem? ha)
  have hoa := A.oks a (List.mem_of_getElem? ha)
  have hl9 := A.len
  obtain ⟨g, off, va, vc, rfl, hg, d0, d1, d2, hv⟩ := arg0 hr ha
  have SZ := fun w => Rsize_any w a va vc hga
  obtain ⟨R, C, hR, hC, hRC, hR1, hC1, hl, hR4, hC4⟩ := dims_le hga
  rw [hR, hC] at SZ
  have b0 : (nINDEX == [82, 79, 87, 83]) = false := by decide
  have b1 : (nINDEX == [67, 79, 76, 85, 77, 78, 83]) = false := by decide
  have b2 : (nINDEX == [77, 65, 84, 67, 72]) = false := by decide
  have b3 : (nINDEX == [73, 78, 68, 69, 88]) = true := by decide
  have b4 : (nINDEX == [76, 79, 79, 75, 85, 80]) = false := by decide
  have b5 : (nINDEX == [86, 76, 79, 79, 75, 85, 80]) = false := by decide
  have b6 : (nINDEX == [72, 76, 79, 79, 75, 85, 80]) = false := by decide
  have b7 : (nINDEX == [67, 72, 79, 79, 83, 69]) = false := by decide
  have HU0 : Hid (Upd w (w.alloc (.cells #[.int .i64 0, .int .i64 0, .string ⟨#[]⟩, .bool false, .int .i64 0] 30)) (fun _ => False)) := hide ((Upd.refl w _).alloc _)
  have HV0 := hide (Vnew1 w (.cells #[.int .i64 0, .int .i64 0, .string ⟨#[]⟩, .bool false, .int .i64 0] 30))
  have HRA := hide hr
  have hA0 := argA_at ha
  have hq0 : (0 : Int) < (aa.length : Int) := by omega
  have HD : Hid (w.cell? ⟨g, off, none⟩ = some (.slice va a.v.length vc) ∧ w.cell? ⟨g, off + 1, none⟩ = some (.int .i64 a.c) ∧ w.cell? ⟨g, off + 2, none⟩ = some (.bool a.w)) := hide ⟨d0, d1, d2⟩
  obtain ⟨NM, hNM⟩ : ∃ z, nINDEX = z := ⟨_, rfl⟩
  have W1 := fun W h => Rwhole_any W (some ⟨g, off, none⟩) pc aa 1 0 h A
  have W2 := fun W h => Rwhole_any W (some ⟨g, off, none⟩) pc aa 2 1 h A
  obtain ⟨row, hrow⟩ : ∃ z, wholeA aa 1 0 = z := ⟨_, rfl⟩
  obtain ⟨col, hcol⟩ : ∃ z, wholeA aa 2 1 = z := ⟨_, rfl⟩
  have hrr := hrow ▸ wholeA_rng aa 1 0 (by omega)
  have hcr := hcol ▸ wholeA_rng aa 2 1 (by omega)
  rw [hrow] at W1
  rw [hcol] at W2
  have et : toldR nINDEX aa = (if aa.length = 2 ∧ (R : Int) = 1 then atR a 1 row else atR a row col) := by rw [told_index, hA0, hrow, hcol, hR]
  rw [et]
  have A1 := fun W h => Rat_any W a va vc 1 row h hga hoa.1 (by omega) hrr
  have A2 := fun W h => Rat_any W a va vc row col h hga hoa.1 hrr hcr
  have HVV := hide hv
  rw [hNM] at b0 b1 b2 b3 b4 b5 b6 b7 ⊢
  by_cases hc : aa.length = 2 ∧ (R : Int) = 1
  · rw [if_pos hc]
    have c1 : ((aa.length : Int) == 2) = true := by simp; omega
    have c2 : ((R : Int) == 1) = true := by simpa using hc.2
    obtain ⟨⟨k0, n0, t0, b0', e0'⟩, hev⟩ : ∃ v, atR a 1 row = v := ⟨_, rfl⟩
    rw [hev] at A1 ⊢
    unfold Vl.val at A1 ⊢
    simp only at A1 ⊢
    have HA1 := hide A1
    clear hev et hA0 hRC hNM hR hC ha hga hoa hv hr A A1 A2 W2 hrow hcol hrr hcr hc
    obtain ⟨v, c, wd⟩ := a
    simp only at SZ HD HA1 HVV ⊢
    have e0 := (HU0.out.cell g _ hg id).trans HD.out.1
    have e1 := (HU0.out.cell g _ hg id).trans HD.out.2.1
    have e2 := (HU0.out.cell g _ hg id).trans HD.out.2.2
    have gl0 := Nat.lt_of_lt_of_le hg HU0.out.size
    clear d0 d1 d2
    go_enter Tryz.func39, Tryz.ntmps39
    go_wp2_with fail
    refine Calls.mono (SZ _) ?_
    rintro e w1 ⟨rfl, u1⟩
    have HU1 := hide (HU0.out.then u1 (fun _ _ => id))
    have HV1 := hide (u1.get HV0.out id)
    clear u1 SZ
    clear e0 e1 e2 gl0
    go_wp2_with fail
    refine Calls.mono (W1 _ (HRA.out.upd HU1.out)) ?_
    rintro e w2 ⟨rfl, u2⟩
    have HU2 := hide (HU1.out.then u2 (fun _ _ => id))
    have HV2 := hide (u2.get HV1.out id)
    clear u2 W1
    have e0 := (HU2.out.cell g _ hg id).trans HD.out.1
    have e1 := (HU2.out.cell g _ hg id).trans HD.out.2.1
    have e2 := (HU2.out.cell g _ hg id).trans HD.out.2.2
    have gl0 := Nat.lt_of_lt_of_le hg HU2.out.size
    go_wp2_with fail
    refine Calls.mono (HA1.out _ (HVV.out.upd HU2.out)) ?_
    rintro e w9 ⟨rfl, u9⟩
    have HU9 := hide (HU2.out.then u9 (fun _ _ => id))
    clear e0 e1 e2 gl0
    have bV := u9.get HV2.out id
    obtain ⟨v0, v1, v2, v3, v4⟩ := cells5 bV
    have vl := lt_at bV
    have fv0 := free_at bV 0
    have fv1 := free_at bV 1
    have fv2 := free_at bV 2
    have fv3 := free_at bV 3
    have fv4 := free_at bV 4
    have HB := hide bV
    clear bV u9
    go_wp2_with fail
    (try simp only [Exit.inBlock, Exit.then])
    refine bodyPost_ret (ret_rv rfl _ _ w.heap.size ⟨k0, n0, t0, b0', e0'⟩ rfl (rblock5 (x := vZero) HB.out _ _ _ _ _)) rfl ?_
    exact ⟨rfl, upd5 HU9.out (Nat.le_refl _) _ _ _ _ _⟩
  · rw [if_neg hc]
    have hcc : ((aa.length : Int) == 2) = false ∨ ((aa.length : Int) == 2) = true ∧ ((R : Int) == 1) = false := by
      by_cases q : aa.length = 2
      · exact .inr ⟨by simp; omega, by simpa using fun h => hc ⟨q, h⟩⟩
      · exact .inl (by simp; omega)
    obtain ⟨⟨k0, n0, t0, b0', e0'⟩, hev⟩ : ∃ v, atR a row col = v := ⟨_, rfl⟩
    rw [hev] at A2 ⊢
    unfold Vl.val at A2 ⊢
    simp only at A2 ⊢
    have HA2 := hide A2
    clear hev et hA0 hRC hNM hR hC ha hga hoa hv hr A A1 A2 hrow hcol hrr hcr hc
    rcases hcc with c1 | ⟨c1, c2⟩
    all_goals
      obtain ⟨v, c, wd⟩ := a
      simp only at SZ HD HA2 HVV ⊢
      have e0 := (HU0.out.cell g _ hg id).trans HD.out.1
      have e1 := (HU0.out.cell g _ hg id).trans HD.out.2.1
      have e2 := (HU0.out.cell g _ hg id).trans HD.out.2.2
      have gl0 := Nat.lt_of_lt_of_le hg HU0.out.size
      clear d0 d1 d2
      go_enter Tryz.func39, Tryz.ntmps39
      go_wp2_with fail
      refine Calls.mono (SZ _) ?_
      rintro e w1 ⟨rfl, u1⟩
      have HU1 := hide (HU0.out.then u1 (fun _ _ => id))
      have HV1 := hide (u1.get HV0.out id)
      clear u1 SZ
      clear e0 e1 e2 gl0
      go_wp2_with fail
      refine Calls.mono (W1 _ (HRA.out.upd HU1.out)) ?_
      rintro e w2 ⟨rfl, u2⟩
      have HU2 := hide (HU1.out.then u2 (fun _ _ => id))
      have HV2 := hide (u2.get HV1.out id)
      clear u2 W1
      go_wp2_with fail
      refine Calls.mono (W2 _ (HRA.out.upd HU2.out)) ?_
      rintro e w3 ⟨rfl, u3⟩
      have HU3 := hide (HU2.out.then u3 (fun _ _ => id))
      have HV3 := hide (u3.get HV2.out id)
      clear u3 W2
      have e0 := (HU3.out.cell g _ hg id).trans HD.out.1
      have e1 := (HU3.out.cell g _ hg id).trans HD.out.2.1
      have e2 := (HU3.out.cell g _ hg id).trans HD.out.2.2
      have gl0 := Nat.lt_of_lt_of_le hg HU3.out.size
      go_wp2_with fail
      refine Calls.mono (HA2.out _ (HVV.out.upd HU3.out)) ?_
      rintro e w9 ⟨rfl, u9⟩
      have HU9 := hide (HU3.out.then u9 (fun _ _ => id))
      clear e0 e1 e2 gl0
      have bV := u9.get HV3.out id
      obtain ⟨v0, v1, v2, v3, v4⟩ := cells5 bV
      have vl := lt_at bV
      have fv0 := free_at bV 0
      have fv1 := free_at bV 1
      have fv2 := free_at bV 2
      have fv3 := free_at bV 3
      have fv4 := free_at bV 4
      have HB := hide bV
      clear bV u9
      go_wp2_with fail
      (try simp only [Exit.inBlock, Exit.then])
      refine bodyPost_ret (ret_rv rfl _ _ w.heap.size ⟨k0, n0, t0, b0', e0'⟩ rfl (rblock5 (x := vZero) HB.out _ _ _ _ _)) rfl ?_
      exact ⟨rfl, upd5 HU9.out (Nat.le_refl _) _ _ _ _ _⟩
end Go.Proofs.YtdjpkkgcoainhaaGreatDoor
