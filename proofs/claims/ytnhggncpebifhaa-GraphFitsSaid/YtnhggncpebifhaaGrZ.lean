/- The walk of Order. -/
import Derived.Test.YtnhggncpebifhaaGrZ1
set_option maxRecDepth 100000
namespace Go.Proofs.Ytnhggncpebifhaa
open Go.RowKit Go.Lat Go.Tarjan Go.Heapl

theorem infoLs : (Try.prog.info? 68).map (fun i => (i.zero, i.size, i.bytes)) = some (some (.slice none 0 0), 1, 24) := by kernel_rfl
theorem beh_row {base : Nat} {w : World} {v : Value} {n m : Nat} {f : Nat → Value} {inn : Nat → Bool} {C : Nat → Nat → Bool} (h : BehAt base w v n f (fun k => rowE m (behP inn C k))) {k : Nat} (hk : k < n) : ∃ xa xc, f k = .slice xa (rowE m (behP inn C k)).length xc ∧ Rw w 3 1 (.slice xa (rowE m (behP inn C k)).length xc) (rowE m (behP inn C k)).length (natCells (rowE m (behP inn C k))) := by
  have hrow : Rw w 3 1 (f k) (natCells (rowE m (behP inn C k))).length (natCells (rowE m (behP inn C k))) := RwsAt.row h k hk
  rw [natCells_len] at hrow
  obtain ⟨xa, xc, hfx⟩ := slice_form hrow
  rw [hfx] at hrow
  exact ⟨xa, xc, hfx, hrow⟩
set_option maxHeartbeats 12800000 in
theorem Order_any {w : World} {gb n : Nat} {mg : Gm} {E D : Nat → Nat → Bool} (hg : GrAt w gb n mg E D) (fa : Option Addr) (fc : Nat) (fr : List Int) (hf : RdI w fa fr) (hl : fr.length ≤ 9223372036854775807) :
    Calls Try.prog 20 #[.pointer (some ⟨gb, 0, none⟩), .slice fa fr.length fc] w (NatRes w (ordF n (fun k => decide ((k : Int) ∈ fr) && !wrun E n k k) (wrun E n) (n + 1) [])) := by
  have h4 := hg.n4
  have NO := Nodes_any hg
  have MB := fun w => mkB n hg.n4 w
  have MI := fun w => mkI n hg.n4 w
  obtain ⟨i0, hi, hz0, hz1, hz2⟩ := info_parts infoI
  obtain ⟨N, hN⟩ : ∃ N, fr.length = N := ⟨_, rfl⟩
  rw [hN] at hl ⊢
  obtain ⟨C, hC⟩ : ∃ C, wrun E n = C := ⟨_, rfl⟩
  obtain ⟨cy, hcy⟩ : ∃ cy, (fun i => C i i) = cy := ⟨_, rfl⟩
  have hcy' : ∀ i, C i i = cy i := fun i => by rw [← hcy]
  obtain ⟨inn, hinn⟩ : ∃ p, (fun (k : Nat) => decide ((k : Int) ∈ fr) && !cy k) = p := ⟨_, rfl⟩
  have hgoal : (fun (k : Nat) => decide ((k : Int) ∈ fr) && !wrun E n k k) = inn := by rw [← hinn, hC]; funext k; rw [hcy']
  rw [hgoal, hC]
  have r0 := Rw.made1 w 4 n (.bool false)
  have u0 : Upd w (w.alloc (.cells (madeCells #[.bool false] n) 4)) (fun _ => False) := (Upd.refl w _).alloc _
  have CY := cyclic_any (hg.upd u0 (fun _ _ => id))
  rw [hC, hcy] at CY
  obtain ⟨ib, hib⟩ : ∃ b, w.heap.size = b := ⟨_, rfl⟩
  obtain ⟨W1, hW1⟩ : ∃ W, w.alloc (.cells (madeCells #[.bool false] n) 4) = W := ⟨_, rfl⟩
  rw [hW1] at r0 u0 CY
  rw [hib] at r0
  have HG := hide hg
  have HF := hide hf
  have HN := hide hN
  have HC := hide hC
  have HCY := hide hcy'
  have HINN := hide hinn
  have HR0 := hide r0
  have HU0 := hide u0
  have HIB := hide hib
  have HW1 := hide hW1
  have HCYC := hide CY
  clear hg hf hN hC hcy hcy' hinn hgoal r0 u0 hib hW1 CY
  go_enter Try.func20, Try.ntmps20
  go_upto_region 2 with (go_at_call 24; refine Calls.mono NO ?_; rintro e w9 ⟨rfl, hw⟩; obtain rfl := hw.symm; clear hw)
  rw [HW1.out, HIB.out]
  clear NO MB
  go_wp2_with (go_at_call 31; go_loud (refine Calls.mono HCYC.out ?_); rintro e w2 ⟨ca, cc, rfl, rc, oc, uc⟩)
  have hco : ∀ k, (Value.slice ca n cc).ownBlock = some k → k ≠ ib := fun k q e => by
    have := oc k q
    have := HR0.out.lt ib rfl
    omega
  have HRC := hide rc
  have HCO := hide hco
  have HU2 := hide (HU0.out.then uc (fun _ _ => id))
  have HR2 := hide (uc.rw HR0.out (fun _ _ => id))
  clear rc oc uc hco
  go_loopg [29] (N + 1) (fun q jv wr => ∃ j, j ≤ N ∧ N - j < q ∧ jv = .int .i64 (j : Nat) ∧ Rw wr 4 1 (.slice (some ⟨ib, 0, none⟩) n n) n (fRow n (boolR (inJ fr cy j))) ∧ Upd w2 wr (fun k => k = ib))
  case atStart => exact ⟨0, by omega, by omega, rfl, by rw [fRow_congr (g := fun _ => Value.bool false) (fun i hi => by simp [boolR, inJ])]; exact HR2.out, Upd.refl _ _⟩
  case round =>
    obtain ⟨j, hj, hq, rfl, rj, u3⟩ := hrel
    have uw : Upd w wr (fun _ => False) := HU2.out.then u3 (fun k hk e => by have := HIB.out; omega)
    by_cases hjN : j < N
    · obtain ⟨z, hz⟩ : ∃ z, fr[j]? = some z := ⟨_, List.getElem?_eq_getElem (by rw [HN.out]; exact hjN)⟩
      obtain ⟨g, off, rfl, hgl, e0⟩ := (HF.out.upd uw) j z hz
      have j0 : (0 : Int) ≤ (j : Int) := by omega
      have j1 : (j : Int) < (N : Int) := by omega
      have HA := has_any (HG.out.upd uw (fun _ _ => id)) z
      have HRJ := hide rj
      have HU3 := hide u3
      have HZ := hide hz
      by_cases hin : 0 ≤ z ∧ z < n
      · obtain ⟨t, rfl⟩ : ∃ t : Nat, z = t := ⟨z.toNat, by omega⟩
        have ht : t < n := by omega
        rw [decide_eq_true hin] at HA
        obtain ⟨cg, coff, rfl, cgl, c0⟩ := boolc_at (u3.rw HRC.out (fun k q => HCO.out k q)) ht
        obtain ⟨bo, o1, o2⟩ := bool_at rj ht
        have t0 : (0 : Int) ≤ (t : Int) := by omega
        have t1 : (t : Int) < (n : Int) := by omega
        obtain ⟨cb, hcb⟩ : ∃ b, cy t = b := ⟨_, rfl⟩
        rw [hcb] at c0
        have HCB := hide hcb
        have HHA := hide HA
        clear hz rj u3 uw hin HA hcb
        go_wp2_with (go_at_call 36; refine Calls.mono HHA.out ?_; rintro e w9 ⟨rfl, hw⟩; obtain rfl := hw.symm; clear hw)
        go_roundg (gk - 1)
        case measure => omega
        case rel => exact ⟨j + 1, by omega, by omega, by go_num, by
          have q := Rw.set1 HRJ.out t ht (.bool (!cb))
          rw [Nat.zero_add, boolR_upd, ← HCB.out, inJ_yes HZ.out] at q
          rw [← HCB.out]
          exact q, HU3.out.setCell _ _ (.inr rfl)⟩
      · rw [decide_eq_false hin] at HA
        have HHA := hide HA
        have HIN := hide hin
        clear hz rj u3 uw hin HA
        go_wp2_with (go_at_call 36; refine Calls.mono HHA.out ?_; rintro e w9 ⟨rfl, hw⟩; obtain rfl := hw.symm; clear hw)
        go_roundg (gk - 1)
        case measure => omega
        case rel => exact ⟨j + 1, by omega, by omega, by go_num, by
          rw [fRow_congr (g := boolR (inJ fr cy j)) (fun k hk => by simp [boolR, inJ_no HZ.out HIN.out hk])]
          exact HRJ.out, HU3.out⟩
    · have j1 : ¬ (j : Int) < (N : Int) := by omega
      have hjn : j = N := by omega
      have ri : Rw wr 4 1 (.slice (some ⟨ib, 0, none⟩) n n) n (fRow n (boolR inn)) := by
        have e : inJ fr cy j = inn := by
          rw [← HINN.out]
          funext k
          unfold inJ
          rw [hjn, ← HN.out, List.take_length]
        rw [← e]
        exact rj
      have WA := waits_any (HG.out.upd uw (fun _ _ => id)) (some ⟨ib, 0, none⟩) n inn ri
      rw [HC.out] at WA
      have HWA := hide WA
      have HRI := hide ri
      have HUW := hide uw
      clear rj u3 ri WA uw hjn
      go_upto_region 10 with (go_at_call 37; go_loud (refine Calls.mono HWA.out ?_); rintro e B ⟨ba, bc, f, rfl, hbe, ub⟩)
      have HUB := hide (HUW.out.then ub (fun _ _ => id))
      have HRI2 := hide (ub.rw HRI.out (fun _ _ => id))
      have HBE := hide hbe
      clear hbe ub
      have r5 := Rw.made1 B 3 n (.int .i64 0)
      have u5 : Upd B (B.alloc (.cells (madeCells #[.int .i64 0] n) 3)) (fun _ => False) := (Upd.refl B _).alloc _
      obtain ⟨lb, hlb⟩ : ∃ b, B.heap.size = b := ⟨_, rfl⟩
      obtain ⟨W5, hW5⟩ : ∃ W, B.alloc (.cells (madeCells #[.int .i64 0] n) 3) = W := ⟨_, rfl⟩
      rw [hW5] at r5 u5
      rw [hlb] at r5
      have HR5 := hide r5
      have HU5 := hide u5
      have HLB := hide hlb
      have HW5 := hide hW5
      clear r5 u5 hlb hW5
      go_wp2_with fail
      rw [HW5.out, HLB.out]
      clear MI
      go_loopg [53] (n + 1) (fun q kv wr => ∃ k, k ≤ n ∧ n - k < q ∧ kv = .int .i64 (k : Nat) ∧ Rw wr 3 1 (.slice (some ⟨lb, 0, none⟩) n n) n (fRow n (numR (cntK inn C k))) ∧ Upd B wr (fun _ => False))
      case atStart => exact ⟨0, by omega, by omega, rfl, by rw [fRow_congr (g := fun _ => Value.int .i64 0) (fun i hi => by simp [numR, cntK, rsum])]; exact HR5.out, HU5.out⟩
      case round =>
        obtain ⟨k, hk, hq2, rfl, rk, u6⟩ := hrel
        by_cases hkn : k < n
        · have k0 : (0 : Int) ≤ (k : Int) := by omega
          have k1 : (k : Int) < (n : Int) := by omega
          obtain ⟨sg, soff, rfl, sgl, s0, -⟩ := Rw.cell1 (u6.rw HBE.out.spine (fun _ _ => id)) hkn
          obtain ⟨xa, xc, hfx, hrow⟩ := beh_row HBE.out hkn
          rw [hfx] at s0
          obtain ⟨bl, hbl⟩ : ∃ l, rowE n (behP inn C k) = l := ⟨_, rfl⟩
          rw [hbl] at hrow s0
          obtain ⟨M, hM⟩ : ∃ M, bl.length = M := ⟨_, rfl⟩
          rw [hM] at hrow s0
          have hM4 : M ≤ 4096 := by rw [← hM, ← hbl]; have := rowE_len n (behP inn C k); omega
          have hrise : Rising bl := by rw [← hbl]; exact rowE_rising _ _
          have hmem : ∀ x ∈ bl, x < n := fun x hx => by rw [← hbl] at hx; exact (rowE_mem.1 hx).1
          have HRK := hide rk
          have HU6 := hide u6
          have HROW := hide hrow
          have HBL := hide hbl
          have HM := hide hM
          have HRIS := hide hrise
          have HMEM := hide hmem
          clear rk u6 hrow hbl hM hrise hmem hfx
          go_wp2_with fail
          obtain ⟨gko, hgko⟩ : ∃ x, x = gk := ⟨_, rfl⟩
          rw [← hgko] at hq2
          go_loopg [59] (M + 1) (fun q jv wr => ∃ j, j ≤ M ∧ M - j < q ∧ jv = .int .i64 (j : Nat) ∧ Rw wr 3 1 (.slice (some ⟨lb, 0, none⟩) n n) n (fRow n (numR (cntJ inn C k bl j))) ∧ Upd B wr (fun _ => False))
          case atStart => exact ⟨0, by omega, by omega, rfl, by rw [fRow_congr (g := numR (cntK inn C k)) (fun i hi => by simp [numR, cntJ])]; exact HRK.out, HU6.out⟩
          case round =>
            obtain ⟨j3, hj3, hq3, rfl, r7, u7⟩ := hrel
            by_cases hjM : j3 < M
            · obtain ⟨y, hy⟩ : ∃ y, bl[j3]? = some y := ⟨_, List.getElem?_eq_getElem (by rw [HM.out]; exact hjM)⟩
              have hyn := HMEM.out y (List.mem_of_getElem? hy)
              obtain ⟨yg, yoff, ycap, hyv, hygl, hycell⟩ := Rw.pos (u7.rw HROW.out (fun _ _ => id)) (by omega : 0 < M)
              simp only [Value.slice.injEq] at hyv
              obtain ⟨rfl, -, rfl⟩ := hyv
              have e0 := hycell j3 _ (natCells_get hy)
              obtain ⟨lbl, l1, l2⟩ := num_at r7 hyn
              obtain ⟨c, hc⟩ : ∃ c, cntJ inn C k bl j3 y = c := ⟨_, rfl⟩
              have hc4 : c ≤ 4097 := by
                rw [← hc]
                unfold cntJ
                have := cntK_le inn C k y
                split <;> omega
              rw [hc] at l1
              have wc : IntKind.i64.wrap ((c : Int) + 1) = (c : Int) + 1 := IntWalk.i64_in _ (by omega)
              have j30 : (0 : Int) ≤ (j3 : Int) := by omega
              have j31 : (j3 : Int) < (M : Int) := by omega
              have y0 : (0 : Int) ≤ (y : Int) := by omega
              have y1 : (y : Int) < (n : Int) := by omega
              have HY := hide hy
              have HR7 := hide r7
              have HU7 := hide u7
              have HCC := hide hc
              clear hy r7 u7 hc hycell
              go_wp2_with fail
              go_roundg (gk - 1)
              case measure => omega
              case rel => exact ⟨j3 + 1, by omega, by omega, by go_num, by
                have q := Rw.set1 HR7.out y hyn (.int .i64 ((c + 1 : Nat) : Int))
                rw [Nat.zero_add, numR_upd, ← HCC.out, cntJ_step HY.out (rising_notin HRIS.out HY.out), HCC.out] at q
                exact q, HU7.out.setCell _ _ (.inl (Nat.le_of_eq HLB.out))⟩
            · have j31 : ¬ (j3 : Int) < (M : Int) := by omega
              have hjM2 : j3 = M := by omega
              have HR7 := hide r7
              have HU7 := hide u7
              clear r7 u7
              go_wp2_with fail
              go_roundg (gko - 1)
              case measure => omega
              case rel => exact ⟨k + 1, by omega, by omega, by go_num, by
                rw [fRow_congr (g := numR (cntJ inn C k bl j3)) (fun i hi => by simp only [numR]; rw [hjM2, ← HM.out, ← HBL.out, cntJ_end hi])]
                exact HR7.out, HU7.out⟩
        · have k1 : ¬ (k : Int) < (n : Int) := by omega
          have hkn2 : k = n := by omega
          have rk2 : Rw wr 3 1 (.slice (some ⟨lb, 0, none⟩) n n) n (fRow n (numR (lef n inn C []))) := by
            rw [fRow_congr (g := numR (cntK inn C k)) (fun i hi => by simp only [numR]; rw [hkn2, cntK_lef])]
            exact rk
          have HRK := hide rk2
          have HU6 := hide u6
          clear rk rk2 u6 hkn2
          go_upto_region 21 with fail
          have hB6 : B.heap.size ≤ wr.heap.size := HU6.out.size
          have o6 := heap_alloc_new wr (.cells #[.slice none 0 0] 68)
          have u6 : Upd B (wr.alloc (.cells #[.slice none 0 0] 68)) (fun _ => False) := HU6.out.alloc _
          have hlb6 : wr.heap.size ≠ lb := fun e => by have := HRK.out.lt lb rfl; omega
          obtain ⟨b, hb⟩ : ∃ b, wr.heap.size = b := ⟨_, rfl⟩
          obtain ⟨W6, hW6⟩ : ∃ W, wr.alloc (.cells #[.slice none 0 0] 68) = W := ⟨_, rfl⟩
          have rk6 := HRK.out.alloc (.cells #[.slice none 0 0] 68)
          rw [hW6] at o6 u6 rk6
          rw [hb] at o6 hB6 hlb6
          have s6 : OrSt B W6 n lb b (lef n inn C []) none 0 [] none 0 [] := ⟨rk6, ⟨o6, NatAt.nil _ _, fun k q => by simp [Value.ownBlock] at q, hB6⟩, NatAt.nil _ _, fun k q => by
            rcases q with q | q
            · rw [q]; exact hlb6
            · simp [Value.ownBlock] at q, fun k q => by simp [Value.ownBlock] at q, Nat.le_of_eq HLB.out, u6⟩
          rw [hW6, hb]
          have S6 := hide s6
          clear o6 u6 rk6 s6 hB6 hlb6 hb hW6 HRK HU6
          go_wp2_with fail
          go_loopg [73] (n + 1) (fun q iv wr => ∃ i ha hc hl, i ≤ n ∧ n - i < q ∧ iv = .int .i64 (i : Nat) ∧ OrSt B wr n lb b (lef n inn C []) ha hc hl none 0 [] ∧ HpF (gf hl) hl.length ∧ QI n inn C i hl)
          case atStart => exact ⟨0, none, 0, [], by omega, by omega, rfl, S6.out, fun m m0 hm => by simp at hm, QI.nil⟩
          case round =>
            obtain ⟨i, ha, hc, hl, hin, hq4, rfl, st, hp, qi⟩ := hrel
            by_cases hlt : i < n
            · have hlt' : (i : Int) < (n : Int) := by omega
              have i0' : (0 : Int) ≤ (i : Int) := by omega
              obtain ⟨ibl, b1, -⟩ := bool_at (st.up.rw HRI2.out (fun _ _ => id)) hlt
              obtain ⟨lbl, l1, -⟩ := num_at st.lr hlt
              obtain ⟨x, hx⟩ : ∃ x, inn i = x := ⟨_, rfl⟩
              obtain ⟨c, hcn⟩ : ∃ c, lef n inn C [] i = c := ⟨_, rfl⟩
              rw [hx] at b1
              rw [hcn] at l1
              have HST := hide st
              have HP := hide hp
              have HQ := hide qi
              have HX := hide hx
              have HCN := hide hcn
              cases x with
              | false =>
                clear st hp qi hx hcn
                go_wp2_with fail
                go_roundg (gk - 1)
                case measure => omega
                case rel => exact ⟨i + 1, ha, hc, hl, by omega, by omega, by go_num, HST.out, HP.out, HQ.out.no (by
                  cases q : readyB n inn C [] i with
                  | false => rfl
                  | true => have := (ready_iff.1 q).1; rw [HX.out] at this; cases this)⟩
              | true =>
                by_cases hc0 : c = 0
                · subst hc0
                  have hr : readyB n inn C [] i = true := ready_iff.2 ⟨HX.out, by simp, HCN.out⟩
                  have PU := HPush_any st.hp i (by have := qi.len; omega) hp st.up.size
                  have HPU := hide PU
                  have HRR := hide hr
                  clear st hp qi hx hcn PU hr
                  go_wp2_with (go_at_call 38; go_loud (refine Calls.mono HPU.out ?_); rintro e w8 ⟨ha', hc', hl', rfl, h1, h2, h3, h4', h5⟩)
                  go_roundg (gk - 1)
                  case measure => omega
                  case rel => exact ⟨i + 1, ha', hc', hl', by omega, by omega, by go_num, HST.out.heap h1 h4' h5, h3, HQ.out.yes HRR.out h2⟩
                · have hcb : ((c : Int) == 0) = false := by simpa using hc0
                  have HC0 := hide hc0
                  clear st hp qi hx hcn hc0
                  go_wp2_with fail
                  go_roundg (gk - 1)
                  case measure => omega
                  case rel => exact ⟨i + 1, ha, hc, hl, by omega, by omega, by go_num, HST.out, HP.out, HQ.out.no (by
                    cases q : readyB n inn C [] i with
                    | false => rfl
                    | true => have := (ready_iff.1 q).2.2; rw [HCN.out] at this; exact (HC0.out this).elim)⟩
            · have hge : ¬ (i : Int) < (n : Int) := by omega
              have hin2 : i = n := by omega
              rw [hin2] at qi
              have HST := hide st
              have HP := hide hp
              have HQ := hide qi.fin
              clear st hp qi hin2
              obtain ⟨R, hR⟩ : ∃ R, ordF n inn C (n + 1) [] = R := ⟨_, rfl⟩
              rw [hR]
              have HRR := hide hR
              clear hR
              go_wp2_with fail
              obtain ⟨wq, hwq⟩ : ∃ W, W = wr := ⟨_, rfl⟩
              rw [← hwq] at HST ⊢
              clear hwq
              go_loopg [18] (n + 1) (fun q ov wr => ∃ ha hc hl oa oc out, n - out.length < q ∧ ov = .slice oa out.length oc ∧ OrSt B wr n lb b (lef n inn C out) ha hc hl oa oc out ∧ HpF (gf hl) hl.length ∧ QOk n inn C out hl ∧ OrdOk n inn C out ∧ ordF n inn C (n + 1 - out.length) out = R)
              case atStart => exact ⟨ha, hc, hl, none, 0, [], by simp, rfl, HST.out, HP.out, HQ.out, OrdOk.nil, HRR.out⟩
              case round =>
                obtain ⟨ha, hc, hl, oa, oc, out, hq5, rfl, st, hp, qo, oo, ho⟩ := hrel
                have d0 := cells1 st.hp.h
                have hol := oo.len
                have hll := qo.len
                have hfu : n + 1 - out.length = (n - out.length) + 1 := by omega
                rw [hfu] at ho
                cases hl with
                | nil =>
                  have hn := qo.none
                  have ho2 : out = R := by rw [← ho]; show out = (match nextB n inn C out with | none => out | some i => _); rw [hn]
                  subst ho2
                  have HST2 := hide st
                  clear st hp qo oo ho hn hq5
                  go_wp2_with (go_at_call 39; refine Calls.mono (Len_any _ _ _ _) ?_; rintro e w8 ⟨rfl, hw8⟩; obtain rfl := hw8.symm; clear hw8)
                  go_ret
                  have hb0 : w.heap.size ≤ B.heap.size := HUB.out.size
                  rw [HRR.out]
                  exact ⟨oa, oc, rfl, HST2.out.na.r, fun k q => Nat.le_trans hb0 (HST2.out.na.o k ((own_slice oa _ _ _ _).trans q)), HUB.out.then HST2.out.up (fun _ _ => id)⟩
                | cons y0 hl0 =>
                  obtain ⟨m, hm⟩ : ∃ m, (y0 :: hl0).length = m + 1 := ⟨hl0.length, rfl⟩
                  rw [hm] at d0 hll hp
                  have PO := HPop_any st.hp hm (by omega) hp
                  obtain ⟨k, hk⟩ : ∃ k, out.length = k := ⟨_, rfl⟩
                  rw [hk] at hq5 hol hfu ho ⊢
                  have c0 : (0 : Int) < (m : Int) + 1 := by omega
                  have TA : ∀ (x : Nat) (W : World), (Instr.typeAssert (.iface 3 (.int .i64 (x : Int))) 20 3 false).run Try.prog W = .ok (.int .i64 (x : Int)) W := fun x W => by kernel_rfl
                  have hk4 : k ≤ 4096 := by omega
                  have HST2 := hide st
                  have HQO := hide qo
                  have HOO := hide oo
                  have HO := hide ho
                  have HPO := hide PO
                  have HK := hide hk
                  clear st hp qo oo ho PO hk hm hfu hll
                  go_upto_region 31 with (first
                    | (go_at_call 39; refine Calls.mono (Len_any _ _ _ _) ?_; rintro e w8 ⟨rfl, hw8⟩; obtain rfl := hw8.symm; clear hw8)
                    | (go_at_call 40; go_loud (refine Calls.mono HPO.out ?_); rintro e w8 ⟨ha8, hc8, x, L, rfl, h1, h2, h3, h4', h5, h6⟩; have st8 := HST2.out.heap h1 (fun k q => .inl (h5 k q)) h6; have nr8 := st8.na.r; rw [HK.out] at nr8; have HN8 := hide nr8; have HST8 := hide st8; have HP8 := hide h2; have HPM := hide h3; have HMN := hide h4'; clear h1 h2 h3 h4' h5 h6 st8 nr8)
                    | (at_builtin; go_loud (refine wpList_append_rw _ rfl _ _ 29 29 rfl 3 _ i0 _ 1 8 Try.underlying29 Try.underlying29 (by simp) hi hz0 hz1 hz2 rfl _ k _ rfl (HN8.out.alloc _) _ 1 [.int .i64 (x : Int)] rfl (Rw.made w8 #[.int .i64 (x : Int)] 3 1 1 rfl).src rfl (by simp [Value.oneCell']) (by omega) (by omega) ?_); intro ga gc w9 hv' hg9 hob'; have st9 := HST8.out.put HK.out _ hv' hg9 hob'; have HST9 := hide st9; clear hv' hg9 hob' st9))
                  have hnx := HQO.out.next HPM.out HMN.out
                  obtain ⟨hxn, hxr, -⟩ := find_min hnx
                  obtain ⟨x1, x2, -⟩ := ready_iff.1 hxr
                  have hxx : C x x = false := by
                    rw [← HINN.out] at x1
                    simp only [Bool.and_eq_true, Bool.not_eq_true'] at x1
                    rw [HCY.out]
                    exact x1.2
                  have ho2 : ordF n inn C (n - k) (out ++ [x]) = R := by
                    rw [← HO.out]
                    show _ = (match nextB n inn C out with | none => out | some i => ordF n inn C (n - k) (out ++ [i]))
                    rw [hnx]
                  have oo2 := HOO.out.snoc hnx
                  have hlen2 : (out ++ [x]).length = k + 1 := by simp [HK.out]
                  have hkn : k + 1 ≤ n := by have := oo2.len; omega
                  obtain ⟨sg, soff, rfl, sgl, s0, -⟩ := Rw.cell1 (HST9.out.up.rw HBE.out.spine (fun _ _ => id)) hxn
                  obtain ⟨xa, xc, hfx, hrow⟩ := beh_row HBE.out hxn
                  rw [hfx] at s0
                  obtain ⟨bl, hbl⟩ : ∃ l, rowE n (behP inn C x) = l := ⟨_, rfl⟩
                  have hbm : ∀ u, u ∈ bl ↔ u < n ∧ waitP inn C u x = true := fun u => by rw [← hbl, rowE_mem]; exact Iff.rfl
                  have hrise : Rising bl := by rw [← hbl]; exact rowE_rising _ _
                  rw [hbl] at hrow s0
                  have qj0 := HQO.out.pop (bl := bl) HPM.out
                  obtain ⟨M, hM⟩ : ∃ M, bl.length = M := ⟨_, rfl⟩
                  rw [hM] at hrow s0
                  have hM4 : M ≤ 4096 := by rw [← hM, ← hbl]; have := rowE_len n (behP inn C x); omega
                  have xi0 : (0 : Int) ≤ (x : Int) := by omega
                  have xi1 : (x : Int) < (n : Int) := by omega
                  have HXR := hide hxr
                  have HXO := hide x2
                  have HXX := hide hxx
                  have HO2 := hide ho2
                  have HOO2 := hide oo2
                  have HLEN2 := hide hlen2
                  have HROW := hide hrow
                  have HBL := hide hbl
                  have HBM := hide hbm
                  have HRIS := hide hrise
                  have HQJ := hide qj0
                  have HM := hide hM
                  clear hnx hxr x1 x2 hxx ho2 oo2 hlen2 hrow hbl hbm hrise qj0 hM hfx d0 c0 TA
                  go_wp2_with fail
                  obtain ⟨gko, hgko⟩ : ∃ x, x = gk := ⟨_, rfl⟩
                  rw [← hgko] at hq5
                  go_loopg [106] (M + 1) (fun q jv wr => ∃ j ha hc hl, j ≤ M ∧ M - j < q ∧ jv = .int .i64 (j : Nat) ∧ OrSt B wr n lb b (lefJ n inn C out x bl j) ha hc hl ga gc (out ++ [x]) ∧ HpF (gf hl) hl.length ∧ QJ n inn C out x bl j hl)
                  case atStart => exact ⟨0, ha8, hc8, L, by omega, by omega, rfl, HST9.out.congr (fun i _ => by simp [lefJ]), HP8.out, HQJ.out⟩
                  case round =>
                    obtain ⟨j, ha, hc, hl, hj, hq6, rfl, st, hp, qj⟩ := hrel
                    by_cases hjM : j < M
                    · obtain ⟨y, hy⟩ : ∃ y, bl[j]? = some y := ⟨_, List.getElem?_eq_getElem (by rw [HM.out]; exact hjM)⟩
                      have hym := (HBM.out y).1 (List.mem_of_getElem? hy)
                      have hyn := hym.1
                      obtain ⟨yg, yoff, ycap, hyv, hygl, hycell⟩ := Rw.pos (st.up.rw HROW.out (fun _ _ => id)) (by omega : 0 < M)
                      simp only [Value.slice.injEq] at hyv
                      obtain ⟨rfl, -, rfl⟩ := hyv
                      have e0 := hycell j _ (natCells_get hy)
                      obtain ⟨lbl, l1, l2⟩ := num_at st.lr hyn
                      have hnt := rising_notin HRIS.out hy
                      have els := lef_snoc (c := C) (inn := inn) (i := y) hxn HXO.out
                      rw [if_pos hym.2] at els
                      obtain ⟨c, hcc⟩ : ∃ c, lef n inn C (out ++ [x]) y = c := ⟨_, rfl⟩
                      have hlj : lefJ n inn C out x bl j y = c + 1 := by
                        unfold lefJ
                        rw [if_neg hnt]
                        omega
                      rw [hlj] at l1
                      have hc4 : c ≤ 4096 := by have := lef_le (n := n) (inn := inn) (c := C) (out ++ [x]) y; omega
                      have el1 : (((c + 1 : Nat) : Nat) : Int) = (c : Int) + 1 := by omega
                      rw [el1] at l1
                      have j30 : (0 : Int) ≤ (j : Int) := by omega
                      have j31 : (j : Int) < (M : Int) := by omega
                      have y0' : (0 : Int) ≤ (y : Int) := by omega
                      have y1 : (y : Int) < (n : Int) := by omega
                      have st10 := st.setL hyn c
                      rw [← hcc, lefJ_step hy, hcc] at st10
                      have hlq := qj.len (fun u hu => ((HBM.out u).1 hu).1)
                      have d10 : (wr.setCell ⟨lb, y, none⟩ (.int .i64 (c : Int))).cell? ⟨lb, y, none⟩ = some (.int .i64 (c : Int)) := by
                        have := (num_at st10.lr hyn).2.1
                        rw [this]
                        unfold lefJ
                        rw [if_pos ((takeN_mem hy y).2 (.inr rfl)), hcc]
                      have wc : wrap64 (c : Int) = (c : Int) := IntWalk.wrap64_in _ (by omega)
                      have HY := hide hy
                      have HST10 := hide st10
                      have HPP := hide hp
                      have HQ := hide qj
                      have HCC := hide hcc
                      have HNT := hide hnt
                      clear hycell hlj els el1 hnt hym
                      by_cases hc0 : c = 0
                      · subst hc0
                        have PU := HPush_any st10.hp y (by omega) hp st10.up.size
                        have HPU := hide PU
                        clear hy st hp qj st10 hcc PU
                        go_wp2_with (go_at_call 38; go_loud (refine Calls.mono HPU.out ?_); rintro e w8 ⟨ha', hc', hl', rfl, h1, h2, h3, h4', h5⟩)
                        go_roundg (gk - 1)
                        case measure => omega
                        case rel => exact ⟨j + 1, ha', hc', hl', by omega, by omega, by go_num, HST10.out.heap h1 h4' h5, h3, HQ.out.yes HY.out HCC.out (fun u hu => ((HBM.out u).1 hu).2) HNT.out hxn HXO.out h2⟩
                      · have hcb : ((c : Int) == 0) = false := by simpa using hc0
                        have HC0 := hide hc0
                        clear hy st hp qj st10 hcc hc0
                        go_wp2_with fail
                        go_roundg (gk - 1)
                        case measure => omega
                        case rel => exact ⟨j + 1, ha, hc, hl, by omega, by omega, by go_num, HST10.out, HPP.out, HQ.out.no HY.out (by rw [HCC.out]; exact HC0.out)⟩
                    · have j31 : ¬ (j : Int) < (M : Int) := by omega
                      have hjM2 : j = M := by omega
                      have HST11 := hide (st.congr (lf2 := lef n inn C (out ++ [x])) (fun i hi => by rw [hjM2, ← HM.out, ← HBL.out, lefJ_end hxn HXO.out hi]))
                      have HPP := hide hp
                      have hqf : QOk n inn C (out ++ [x]) hl := by
                        refine QJ.fin (bl := bl) ?_ HOO.out hxn HXR.out HBM.out HXX.out
                        rw [HM.out, ← hjM2]
                        exact qj
                      have HQF := hide hqf
                      clear st hp qj hqf hjM2
                      go_wp2_with fail
                      go_roundg (gko - 1)
                      case measure => omega
                      case rel => exact ⟨ha, hc, hl, ga, gc, out ++ [x], by rw [HLEN2.out]; omega, by rw [HLEN2.out], HST11.out, HPP.out, HQF.out, HOO2.out, by rw [HLEN2.out, show n + 1 - (k + 1) = n - k by omega]; exact HO2.out⟩
end Go.Proofs.Ytnhggncpebifhaa
