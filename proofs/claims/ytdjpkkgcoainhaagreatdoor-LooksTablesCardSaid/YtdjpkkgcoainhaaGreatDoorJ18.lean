/- The walk of a table's turned. -/
import Derived.Test.YtdjpkkgcoainhaaGreatDoorJ17
import Derived.Laws.MakeOwn
/- The walk of a table's turned. -/
set_option maxRecDepth 100000
namespace Go.Proofs.YtdjpkkgcoainhaaGreatDoor
open Go.RowKit Go.Lat Go.Lib

def zV : Value := .agg #[.int .i64 0, .int .i64 0, .string ⟨#[]⟩, .bool false, .int .i64 0]
theorem mkV (n : Nat) (hn : n ≤ 4096) (w : World) : (Instr.makeSlice 33 (.int .i64 0) (.int .i64 (n : Int))).run Tryz.prog w = .ok (.slice (some ⟨w.heap.size, 0, none⟩) 0 n) (w.alloc (.cells (madeCells zV.cells (n * 5)) 29)) := by
  obtain ⟨i0, hi, hz0, hz1, hz2⟩ := info_p Tryz.infoVl
  have h := run_make (P := Tryz.prog) w 33 29 i0 _ Tryz.underlying33 hi hz0 .i64 .i64 0 (n : Int) (by omega) (by omega) (by rw [hz2]; omega) (by omega)
  simp only [Int.toNat_natCast, hz1] at h
  exact h
theorem madeCells_size (z : Array Value) (n : Nat) : (madeCells z n).size = n := by simp [madeCells]
theorem Rw.made0 (w : World) (cur : Array Value) (e size n : Nat) (hs : cur.size = n * size) : Rw (w.alloc (.cells cur e)) e size (.slice (some ⟨w.heap.size, 0, none⟩) 0 n) 0 [] :=
  ⟨by simp, .inr ⟨w.heap.size, 0, n, cur, rfl, heap_alloc_new w _, Nat.zero_le _, by omega, by simp⟩⟩
/-- The table that is being made. -/
def TbAt (W w : World) (tb : Nat) (_ : Nat) (c1 c2 : Int) (l : List Vl) : Prop :=
  ∃ sa sc, w.heap[tb]? = some (.cells #[.slice sa l.length sc, .int .i64 c1, .int .i64 c2] 110 (0, 0)) ∧ Rw w 29 5 (.slice sa l.length sc) l.length (vlCells l) ∧ (∀ k, (Value.slice sa l.length sc).ownBlock = some k → W.heap.size ≤ k ∧ k ≠ tb) ∧ W.heap.size ≤ tb
theorem tb_A (W : World) (cs : Array Value) (n : Nat) (c1 c2 : Int) : TbAt W (((W.alloc (.cells (madeCells cs (n * 5)) 29)).alloc (.cells #[.slice (some ⟨W.heap.size, 0, none⟩) 0 n, .int .i64 c1, .int .i64 c2] 110)).drew) (W.heap.size + 1) n c1 c2 [] :=
  ⟨_, _, Vnew2 W _ _, ((Rw.made0 W (madeCells cs (n * 5)) _ 5 n (madeCells_size _ _)).alloc _).drew, fun k hk => by simp [Value.ownBlock] at hk; omega, by omega⟩
theorem tb_B (W : World) (cs : Array Value) (n : Nat) (c1 c2 : Int) : TbAt W (((W.alloc (.cells #[.slice (some ⟨W.heap.size + 1, 0, none⟩) 0 n, .int .i64 c1, .int .i64 c2] 110)).alloc (.cells (madeCells cs (n * 5)) 29)).drew) W.heap.size n c1 c2 [] :=
  ⟨_, _, block_alloc (Vnew1 W _) _, by
    have h := Rw.made0 (W.alloc (.cells #[.slice (some ⟨W.heap.size + 1, 0, none⟩) 0 n, .int .i64 c1, .int .i64 c2] 110)) (madeCells cs (n * 5)) 29 5 n (madeCells_size _ _)
    have e : (W.alloc (.cells #[.slice (some ⟨W.heap.size + 1, 0, none⟩) 0 n, .int .i64 c1, .int .i64 c2] 110)).heap.size = W.heap.size + 1 := by simp
    rw [e] at h
    exact h.drew, fun k hk => by simp [Value.ownBlock] at hk; omega, Nat.le_refl _⟩
set_option maxHeartbeats 3200000 in
theorem turned_any (w : World) (l : List Vl) (va : Option Addr) (vc R C : Nat) (hv : RdV w va l) (hRC : R * C = l.length) (hl : l.length ≤ 4096) (hR : R ≤ 4096) (hC : C ≤ 4096) :
    Calls Tryz.prog 80 #[.agg #[.slice va l.length vc, .int .i64 (R : Int), .int .i64 (C : Int)]] w fun e w' => ∃ a c, e = .returned (.agg #[.slice a l.length c, .int .i64 (C : Int), .int .i64 (R : Int)]) ∧ Rw w' 29 5 (.slice a l.length c) l.length (vlCells (turnL R C l)) ∧ (∀ k, (Value.slice a l.length c).ownBlock = some k → w.heap.size ≤ k) ∧ Upd w w' (fun _ => False) := by
  have bT := block_alloc (Vnew1 w (.cells #[.slice va l.length vc, .int .i64 (R : Int), .int .i64 (C : Int)] 110)) (.cells #[.slice none 0 0, .int .i64 0, .int .i64 0] 110)
  have bV := Vnew2 w (.cells #[.slice va l.length vc, .int .i64 (R : Int), .int .i64 (C : Int)] 110) (.cells #[.slice none 0 0, .int .i64 0, .int .i64 0] 110)
  have HU : Hid (Upd w ((w.alloc (.cells #[.slice va l.length vc, .int .i64 (R : Int), .int .i64 (C : Int)] 110)).alloc (.cells #[.slice none 0 0, .int .i64 0, .int .i64 0] 110)) (fun _ => False)) := hide (((Upd.refl w _).alloc _).alloc _)
  have MV := fun w => mkV l.length hl w
  have HT := hide bT
  have HB := hide bV
  obtain ⟨tc0, tc1, tc2⟩ := cells3 bT
  have tcl := lt_at bT
  have HL := hide hRC
  have HV := hide hv
  clear bT bV hRC hv
  go_enter Tryz.func80, Tryz.ntmps80
  go_wp2_with fail
  obtain ⟨W, hW⟩ : ∃ W, (w.alloc (.cells #[.slice va l.length vc, .int .i64 (R : Int), .int .i64 (C : Int)] 110)).alloc (.cells #[.slice none 0 0, .int .i64 0, .int .i64 0] 110) = W := ⟨_, rfl⟩
  rw [hW] at HU HT HB tc0 tc1 tc2 tcl ⊢
  have hWs : W.heap.size = w.heap.size + 2 := by rw [← hW]; simp
  clear hW
  go_cut [3] (fun pv wx => ∃ tb, pv = .pointer (some ⟨tb, 0, none⟩) ∧ TbAt W wx tb l.length (C : Int) (R : Int) [] ∧ Upd W wx (fun _ => False))
  case first =>
    go_region
    all_goals go_wp2_with fail
    all_goals go_meet
    all_goals rw [← hWs]
    · exact ⟨_, rfl, tb_A W _ _ _ _, (((Upd.refl W _).alloc _).alloc _).drew⟩
    · exact ⟨_, rfl, tb_B W _ _ _ _, (((Upd.refl W _).alloc _).alloc _).drew⟩
  case rest =>
    obtain ⟨tb, rfl, hta, hu⟩ := hcut
    have HTA := hide hta
    have HUC := hide hu
    have hT1 := hu.get HT.out id
    clear tc0 tc1 tc2 tcl hta hu MV
    obtain ⟨tc0, tc1, tc2⟩ := cells3 hT1
    have tcl := lt_at hT1
    clear hT1
    go_wp2_with fail
    go_loopg [17] C (fun q iv wr => ∃ c : Nat, c + q = C ∧ iv = .int .i64 c ∧ TbAt W wr tb l.length (C : Int) (R : Int) ((turnL R C l).take (c * R)) ∧ Upd W wr (fun _ => False))
    case atStart => exact ⟨0, by omega, rfl, by simpa using HTA.out, HUC.out⟩
    case round =>
      obtain ⟨c, hc, rfl, hta, hu⟩ := hrel
      obtain ⟨og, hog⟩ : ∃ o, gk = o := ⟨_, rfl⟩
      rw [hog] at hc
      clear tc0 tc1 tc2 tcl
      have hT1 := hu.get HT.out id
      obtain ⟨tc0, tc1, tc2⟩ := cells3 hT1
      have tcl := lt_at hT1
      clear hT1
      have hogk := hide hog
      clear hog
      by_cases hcC : c < C
      · have hc1 : (c : Int) < (C : Int) := by omega
        have hc0 : (0 : Int) ≤ (c : Int) := by omega
        have HTA1 := hide hta
        have HU1 := hide hu
        clear hta hu
        go_wp2_with fail
        go_loopg [22] R (fun q iv wi => ∃ r : Nat, r + q = R ∧ iv = .int .i64 r ∧ TbAt W wi tb l.length (C : Int) (R : Int) ((turnL R C l).take (c * R + r)) ∧ Upd W wi (fun _ => False))
        case atStart => exact ⟨0, by omega, rfl, by simpa using HTA1.out, HU1.out⟩
        case round =>
          obtain ⟨r, hr, rfl, hta, hu⟩ := hrel
          by_cases hrR : r < R
          · have hr1 : (r : Int) < (R : Int) := by omega
            have hr0 : (0 : Int) ≤ (r : Int) := by omega
            obtain ⟨sa, sc, ht, hrw, hown, htb⟩ := hta
            have hJl : r * C + c < l.length := by
              have : (r + 1) * C ≤ R * C := Nat.mul_le_mul_right _ hrR
              rw [Nat.add_mul, HL.out] at this
              omega
            obtain ⟨x, hx⟩ : ∃ x, l[r * C + c]? = some x := ⟨_, List.getElem?_eq_getElem hJl⟩
            have HTK := hide (turnL_take (l := l) hrR hcC hx)
            obtain ⟨g, off, rfl, hg, x0, x1, x2, x3, x4⟩ := rdV_at HV.out hx
            obtain ⟨L, hLK⟩ : ∃ L, (turnL R C l).take (c * R + r) = L := ⟨_, rfl⟩
            rw [hLK] at ht hrw hown HTK
            obtain ⟨M, hM⟩ : ∃ M, L.length = M := ⟨_, rfl⟩
            rw [hM] at ht hrw hown
            have hMl : M ≤ 4096 := by
              rw [← hM, ← hLK, List.length_take]
              have := HL.out
              have := turnL_len R C l
              omega
            obtain ⟨M2, hM2⟩ : ∃ M2, r * C = M2 := ⟨_, rfl⟩
            rw [hM2] at x0 x1 x2 x3 x4 hJl
            obtain ⟨J, hJ⟩ : ∃ J, M2 + c = J := ⟨_, rfl⟩
            rw [hJ] at x0 x1 x2 x3 x4 hJl
            have u0 := HU.out.then hu (fun _ _ => id)
            have hgW : g < W.heap.size := Nat.lt_of_lt_of_le hg HU.out.size
            have y0 := (u0.cell g _ hg id).trans x0
            have y1 := (u0.cell g _ hg id).trans x1
            have y2 := (u0.cell g _ hg id).trans x2
            have y3 := (u0.cell g _ hg id).trans x3
            have y4 := (u0.cell g _ hg id).trans x4
            have gl : g < wr.heap.size := Nat.lt_of_lt_of_le hg u0.size
            have hT1 := hu.get HT.out id
            obtain ⟨tc0, tc1, tc2⟩ := cells3 hT1
            have tcl := lt_at hT1
            obtain ⟨b0, b1, b2⟩ := cells3 ht
            have bf := free_at ht 0
            have bl := lt_at ht
            have ntb : (Value.slice sa M sc).ownBlock ≠ some tb := fun e => (hown _ e).2 rfl
            have ng : (Value.slice sa M sc).ownBlock ≠ some g := fun e => by have := (hown _ e).1; omega
            have nt : (Value.slice sa M sc).ownBlock ≠ some w.heap.size := fun e => by have := (hown _ e).1; omega
            have HUI := hide hu
            have HTB := hide ht
            have HRW := hide hrw
            have HOWN := hide hown
            have HLK := hide hLK
            have HM := hide hM
            have HT1 := hide hT1
            obtain ⟨i0, hi, hz0, hz1, hz2⟩ := info_p Tryz.infoVl
            have wa : IntKind.i64.wrap ((r : Int) * (C : Int)) = (M2 : Int) := by
              have : (r : Int) * (C : Int) = (M2 : Int) := by rw [← hM2]; simp
              rw [this]; exact IntWalk.i64_in _ (by omega)
            have wb : IntKind.i64.wrap ((M2 : Int) + (c : Int)) = (J : Int) := by
              have : (M2 : Int) + (c : Int) = (J : Int) := by omega
              rw [this]; exact IntWalk.i64_in _ (by omega)
            have hJ0 : (0 : Int) ≤ (J : Int) := by omega
            have hJ1 : (J : Int) < (l.length : Int) := by omega
            clear hu ht hrw hown hLK hM u0 x0 x1 x2 x3 x4 hM2 hJ hx hT1
            obtain ⟨xk, xn, xt, xb, xf⟩ := x
            simp only at y0 y1 y2 y3 y4
            go_wp2_with fail
            go_region_law (first
                | (refine step_append_rw _ (by rfl) _ _ 33 33 (by rfl) 29 _ i0 _ 5 48 Tryz.underlying33 Tryz.underlying33 (by simp) hi hz0 hz1 hz2 rfl _ M _ (by rfl) ((HRW.out.alloc _).drew) _ 1 _ (by rfl) (Rw.made _ _ _ 5 1 rfl).drew.src rfl (by simp [Value.oneCell']) (by omega) (by omega) ?_; intro ga gc w1 hv' hg1 hob'; have bt := block_grown hg1 (block_alloc HTB.out _) ntb; have bt0 := cell_at bt 0 _ rfl; have bfr := free_at bt 0; have btl := lt_at bt; have HG1 := hide hg1; have HBT := hide bt; clear bt))
            all_goals go_wp2_with fail
            all_goals
              have hWr := HUI.out.size
              have hown2 : ∀ k, (Value.slice ga (M + 1) gc).ownBlock = some k → W.heap.size ≤ k ∧ k ≠ tb := fun k hk => by
                rcases hob' with e | e
                · exact HOWN.out k (by rw [← e]; exact hk)
                · rw [e] at hk
                  simp at hk
                  omega
              have nt2 : (Value.slice ga (M + 1) gc).ownBlock ≠ some tb := fun e => (hown2 _ e).2 rfl
              have uu := ((((Upd.refl wr (fun k => W.heap.size ≤ k)).alloc _).drew.grown HG1.out (fun k hk => .inr (HOWN.out k hk).1)).setCell ⟨tb, 0, none⟩ (.slice ga (M + 1) gc) (.inr htb))
              have eL : (L ++ [(⟨xk, xn, xt, xb, xf⟩ : Vl)]).length = M + 1 := by simp [HM.out]
              have hA : TbAt W (w1.setCell ⟨tb, 0, none⟩ (.slice ga (M + 1) gc)) tb l.length (C : Int) (R : Int) ((turnL R C l).take (c * R + (r + 1))) := by
                have e1 : c * R + (r + 1) = c * R + r + 1 := rfl
                rw [e1, HTK.out]
                refine ⟨ga, gc, ?_, ?_, ?_, htb⟩
                · rw [eL]; exact block_setCell HBT.out 0 _
                · rw [eL, vlCells_app, vlCells_one]; exact hv'.setCell _ _ nt2
                · rw [eL]; exact hown2
              have HA := hide hA
              have HUU := hide (HUI.out.then uu (fun i hi h => by omega))
              clear hA uu hv' hob'
              go_roundg (gk - 1)
            all_goals first
              | omega
              | exact ⟨r + 1, by omega, by go_num, HA.out, HUU.out⟩
          · have hrR' : r = R := by omega
            subst hrR'
            go_wp2_with fail
            go_roundg (og - 1)
            case measure => have := hogk.out; omega
            case rel => exact ⟨c + 1, by omega, by go_num, by rw [Nat.add_mul, Nat.one_mul]; exact hta, hu⟩
      · have hcC' : c = C := by omega
        subst hcC'
        obtain ⟨sa, sc, ht, hrw, hown, htb⟩ := hta
        have e : (turnL R c l).take (c * R) = turnL R c l := List.take_of_length_le (by rw [turnL_len, Nat.mul_comm]; exact Nat.le_refl _)
        rw [e] at ht hrw hown
        have e2 : (turnL R c l).length = l.length := by rw [turnL_len, HL.out]
        rw [e2] at ht hrw hown
        have hB := hu.get HB.out id
        obtain ⟨b0, b1, b2⟩ := cells3 ht
        have bl := lt_at ht
        obtain ⟨v0, v1, v2⟩ := cells3 hB
        have vl := lt_at hB
        have fv0 := free_at hB 0
        have fv1 := free_at hB 1
        have fv2 := free_at hB 2
        have HUI := hide hu
        have HRW := hide hrw
        have HOWN := hide hown
        have HBB := hide hB
        clear e e2 ht hrw hown hB hu
        go_wp2_with fail
        (try simp only [Exit.inBlock, Exit.then])
        refine bodyPost_ret (ret_tab rfl _ _ (w.heap.size + 1) _ _ _ rfl (block3 HBB.out _ _ _)) rfl ?_
        refine ⟨sa, sc, rfl, ?_, fun k hk => by have := (HOWN.out k hk).1; omega, upd3 (HU.out.then HUI.out (fun _ _ => id)) (by omega) _ _ _⟩
        have hne : ∀ k, (Value.slice sa l.length sc).ownBlock = some k → k ≠ w.heap.size + 1 := fun k hk => by have := (HOWN.out k hk).1; omega
        have hn1 : (Value.slice sa l.length sc).ownBlock ≠ some (w.heap.size + 1) := fun e => hne _ e rfl
        exact ((HRW.out.setCell _ _ hn1).setCell _ _ hn1).setCell _ _ hn1
end Go.Proofs.YtdjpkkgcoainhaaGreatDoor
/- The walks of first, match, index. -/
set_option maxRecDepth 100000
namespace Go.Proofs.YtdjpkkgcoainhaaGreatDoor
open Go.RowKit Go.Lat Go.Lib

theorem thg_1 {aa : List Ar} {k : Nat} {f : Int} {a : Ar} (h : aa[k]? = some a) : ∃ f1, thgS aa (k, f) = (k + 1, f1) := ⟨_, thg_at h⟩
theorem lst_1 {aa : List Ar} {k : Nat} {f : Int} : ∃ f1, lstS aa (k, f) = (k + 1, f1) := ⟨_, rfl⟩
theorem argA_at {aa : List Ar} {k : Nat} {a : Ar} (h : aa[k]? = some a) : argA aa k = a := by unfold argA; rw [List.getD_eq_getElem?_getD, h]; rfl
theorem upd_a {w W : World} {o : Obj} {r : Nat} (u : Upd (w.alloc o) W (fun j => j = r)) : Upd w W (fun j => j = r) := ((Upd.refl w _).alloc o).then u (fun _ _ h => h)
/-- What a function of the reader leaves. -/
abbrev RdPost (w0 w : World) (r : Nat) (p : Option Addr) (pc : Nat) (aa : List Ar) (v : Vl) (f : Int) : Ending → World → Prop :=
  fun e w' => e = .returned v.val ∧ (∃ k, RrAt w0 w' r p pc aa (k, f)) ∧ Upd w w' (fun j => j = r)
set_option maxHeartbeats 3200000 in
theorem match_any (w0 w : World) (r : Nat) (p : Option Addr) (pc : Nat) (aa : List Ar) (H : RrAt w0 w r p pc aa (0, 0)) (A : ArgsOk aa) (a b : Ar) (ha : aa[0]? = some a) (hb : aa[1]? = some b) :
    Calls Tryz.prog 56 #[.pointer (some ⟨r, 0, none⟩)] w (RdPost w0 w r p pc aa (matchP aa).1 (matchP aa).2) := by
  have hrl := lt_at H.blk
  have hle := H.le
  obtain ⟨f1, hs1⟩ := thg_1 (f := 0) ha
  obtain ⟨f2, hs2⟩ := lst_1 (aa := aa) (k := 1) (f := f1)
  obtain ⟨⟨k3, f3⟩, hs3⟩ : ∃ s, cntS aa (2, f2) = s := ⟨_, rfl⟩
  obtain ⟨m, hm⟩ : ∃ m, cntV aa (2, f2) 0 = m := ⟨_, rfl⟩
  obtain ⟨m2, hm2⟩ : ∃ z, wayI m = z := ⟨_, rfl⟩
  have hob := A.oks b (List.mem_of_getElem? hb)
  have hok := sgl_ok A (0, 0)
  obtain ⟨x, hx⟩ : ∃ x, sglV aa (0, 0) = x := ⟨_, rfl⟩
  obtain ⟨N, hN⟩ : ∃ N, placeV m2 x b.v = N := ⟨_, rfl⟩
  have e0 : matchP aa = (if N = 0 then mkE 6 else mkN ((N : Int) * 10000), f3) := by
    unfold matchP
    simp only [hs1, hs2, hs3, hm, hm2, hx, argA_at hb, hN]
  obtain ⟨⟨k0, n0, t0, b0, e0'⟩, hres⟩ : ∃ v, (if N = 0 then mkE 6 else mkN ((N : Int) * 10000)) = v := ⟨_, rfl⟩
  rw [hres] at e0
  rw [e0]
  have HRES := hide hres
  have hNl : N ≤ b.v.length := hN ▸ placeV_le _ _ _
  have hNl2 : (N : Int) ≤ 1000000 := by have := hob.2.1; omega
  have TH := thing_any w0 _ r p pc aa (0, 0) (H.alloc (.cells #[.int .i64 0, .int .i64 0, .string ⟨#[]⟩, .bool false, .int .i64 0] 29)) A
  have LI := fun W h => list_any w0 W r p pc aa (1, f1) h A b hb
  have CN := fun W h => count_any w0 W r p pc aa (2, f2) 0 h A
  have WY := fun W => way_any W m
  rw [hx] at TH hok
  rw [hs1] at TH
  rw [hs2] at LI
  rw [hs3, hm] at CN
  rw [hm2] at WY
  have PL := fun W va vc h => Place_any W x b.v va vc m2 hok.1 hok.2 hob.1 hob.2.1 h
  rw [hN] at PL
  have EA := fun w => E_any w 6
  have WH := fun w => whole_any w N (by omega) hNl2
  have HA0 : Hid (Upd (w.alloc (.cells #[.int .i64 0, .int .i64 0, .string ⟨#[]⟩, .bool false, .int .i64 0] 29)) (w.alloc (.cells #[.int .i64 0, .int .i64 0, .string ⟨#[]⟩, .bool false, .int .i64 0] 29)) (fun j => j = r)) := hide (Upd.refl _ _)
  clear hs1 hs2 hs3 hm hm2 hob hok hx hN e0 hNl hNl2 H hres
  obtain ⟨xk, xn, xt, xb, xf⟩ := x
  unfold Vl.val at TH PL
  simp only at TH PL
  have HPL := hide PL
  clear PL
  go_enter Tryz.func56, Tryz.ntmps56
  go_wp2_with fail
  refine Calls.mono TH ?_
  rintro e w1 ⟨rfl, h1, u1⟩
  have HA1 := hide (HA0.out.then u1 (fun _ _ h => h))
  clear u1 TH HA0
  go_wp2_with fail
  refine Calls.mono (LI _ h1) ?_
  rintro e w2 ⟨va, vc, rfl, hv, h2, u2⟩
  have HA2 := hide ((HA1.out.then u2 (fun _ _ h => h)).alloc (.cells (Vl.mk xk xn xt xb xf).cs 29))
  have HX := hide (Vnew1 w2 (.cells (Vl.mk xk xn xt xb xf).cs 29))
  have h2' := h2.alloc (.cells (Vl.mk xk xn xt xb xf).cs 29)
  have hx2 : r < w2.heap.size := lt_at h2.blk
  have HVV := hide hv
  clear u2 LI HA1 h1 h2 hv
  go_wp2_with fail
  refine Calls.mono (CN _ h2') ?_
  rintro e w3 ⟨rfl, h3, u3⟩
  have bX := u3.get HX.out (show ¬ w2.heap.size = r by omega)
  have HA3 := hide (HA2.out.then u3 (fun _ _ h => h))
  obtain ⟨x0, x1, x2, x3, x4⟩ := cells5 bX
  have xl := lt_at bX
  have HR3 := hide h3
  have hx3 : w2.heap.size < w3.heap.size := xl
  clear u3 CN HA2 h2' h3 bX
  go_wp2_with fail
  go_region_held3 (fun w' => w'.cell? ⟨w2.heap.size, 0, none⟩ = some (.int .i64 xk) ∧ w'.cell? ⟨w2.heap.size, 1, none⟩ = some (.int .i64 xn) ∧ w'.cell? ⟨w2.heap.size, 2, none⟩ = some (enS xt) ∧ w'.cell? ⟨w2.heap.size, 3, none⟩ = some (.bool xb) ∧ w'.cell? ⟨w2.heap.size, 4, none⟩ = some (.int .i64 xf))
    (first | (go_keep; done) | exact ⟨x0, x1, x2, x3, x4⟩ | (exact ⟨(u6.cell w2.heap.size _ hx3 id).trans x0, (u6.cell w2.heap.size _ hx3 id).trans x1, (u6.cell w2.heap.size _ hx3 id).trans x2, (u6.cell w2.heap.size _ hx3 id).trans x3, (u6.cell w2.heap.size _ hx3 id).trans x4⟩))
    (first
      | (go_at_call 78; with_reducible refine Calls.mono (WY _) ?_; rintro e w5 ⟨rfl, hw⟩; obtain rfl := hw.symm; clear hw)
      | (go_at_call 10; refine Calls.mono (HPL.out _ va vc (HVV.out.upd HR3.out.upd.drew)) ?_; rintro e w6 ⟨rfl, u6⟩))
  have HA6 := hide (HA3.out.drew.then u6 (fun _ _ h => h.elim))
  have HR6 := hide (HR3.out.keep ((Upd.refl w3 _).drew.then u6 (fun _ _ h => h)))
  clear u6 HPL WY HA3 HR3 x0 x1 x2 x3 x4 xl
  by_cases hN0 : N = 0
  · have bN : ((N : Int) == 0) = true := by simp; omega
    have hev : mkE 6 = ⟨k0, n0, t0, b0, e0'⟩ := by have := HRES.out; rwa [if_pos hN0] at this
    rw [hev] at EA
    unfold Vl.val at EA
    simp only at EA
    clear hev hN0
    go_wp2_with fail
    refine Calls.mono (EA _) ?_
    rintro e w7 ⟨rfl, u7⟩
    have HA7 := hide (HA6.out.then u7 (fun _ _ h => h.elim))
    have bV := HA7.out.get (Vnew1 w _) (show ¬ w.heap.size = r by omega)
    obtain ⟨v0, v1, v2, v3, v4⟩ := cells5 bV
    have vl := lt_at bV
    have fv0 := free_at bV 0
    have fv1 := free_at bV 1
    have fv2 := free_at bV 2
    have fv3 := free_at bV 3
    have fv4 := free_at bV 4
    have HBV := hide bV
    have HR7 := hide (HR6.out.keep u7)
    clear bV u7 EA
    go_wp2_with fail
    (try simp only [Exit.inBlock, Exit.then])
    refine bodyPost_ret (ret_vl rfl _ _ w.heap.size ⟨k0, n0, t0, b0, e0'⟩ rfl (block5 (x := vZero) HBV.out _ _ _ _ _)) rfl ?_
    have uu := upd5 (upd_a HA7.out) (Nat.le_refl _) (.int .i64 k0) (.int .i64 n0) (enS t0) (.bool b0) (.int .i64 e0')
    exact ⟨rfl, ⟨k3, set5_get HR7.out.blk (by omega) _ _ _ _ _, hle, (upd5 HR7.out.upd (by have := HR7.out.upd.size; omega) _ _ _ _ _), HR7.out.rd, HR7.out.pos⟩, uu⟩
  · have bN : ((N : Int) == 0) = false := by simp; omega
    have hev : mkN ((N : Int) * 10000) = ⟨k0, n0, t0, b0, e0'⟩ := by have := HRES.out; rwa [if_neg hN0] at this
    rw [hev] at WH
    unfold Vl.val at WH
    simp only at WH
    clear hev hN0
    go_wp2_with fail
    refine Calls.mono (WH _) ?_
    rintro e w7 ⟨rfl, u7⟩
    have HA7 := hide (HA6.out.then u7 (fun _ _ h => h.elim))
    have bV := HA7.out.get (Vnew1 w _) (show ¬ w.heap.size = r by omega)
    obtain ⟨v0, v1, v2, v3, v4⟩ := cells5 bV
    have vl := lt_at bV
    have fv0 := free_at bV 0
    have fv1 := free_at bV 1
    have fv2 := free_at bV 2
    have fv3 := free_at bV 3
    have fv4 := free_at bV 4
    have HBV := hide bV
    have HR7 := hide (HR6.out.keep u7)
    clear bV u7 WH
    go_wp2_with fail
    (try simp only [Exit.inBlock, Exit.then])
    refine bodyPost_ret (ret_vl rfl _ _ w.heap.size ⟨k0, n0, t0, b0, e0'⟩ rfl (block5 (x := vZero) HBV.out _ _ _ _ _)) rfl ?_
    have uu := upd5 (upd_a HA7.out) (Nat.le_refl _) (.int .i64 k0) (.int .i64 n0) (enS t0) (.bool b0) (.int .i64 e0')
    exact ⟨rfl, ⟨k3, set5_get HR7.out.blk (by omega) _ _ _ _ _, hle, (upd5 HR7.out.upd (by omega) _ _ _ _ _), HR7.out.rd, HR7.out.pos⟩, uu⟩
end Go.Proofs.YtdjpkkgcoainhaaGreatDoor
/- The walks of index, beside. -/
set_option maxRecDepth 100000
namespace Go.Proofs.YtdjpkkgcoainhaaGreatDoor
open Go.RowKit Go.Lat Go.Lib

theorem sglS_1 {aa : List Ar} {k : Nat} {f : Int} {a : Ar} (h : aa[k]? = some a) : ∃ f1, cntS aa (k, f) = (k + 1, f1) := ⟨_, cnt_at h⟩
theorem dims_le {a : Ar} (hg : goodA a = true) : ∃ R C : Nat, rowsA a = R ∧ colsA a = C ∧ R * C = a.v.length ∧ 1 ≤ R ∧ 1 ≤ C ∧ a.v.length ≤ 4096 ∧ R ≤ 4096 ∧ C ≤ 4096 := by
  obtain ⟨R, C, h1, h2, h3, h4, h5, h6⟩ := goodA_dims hg
  have := Nat.le_mul_of_pos_right R h5
  have := Nat.le_mul_of_pos_left C h4
  exact ⟨R, C, h1, h2, h3, h4, h5, h6, by omega, by omega⟩
theorem cntV_rng (aa : List Ar) (s : Nat × Int) (o : Int) (h : -1000000 ≤ o ∧ o ≤ 1000000) : -1000000000000000 ≤ cntV aa s o ∧ cntV aa s o ≤ 1000000000000000 := by
  unfold cntV
  split
  · have := wholeF_rng (numF (sglV aa s)).1
    omega
  · omega
set_option maxHeartbeats 3200000 in
theorem index_any (w0 w : World) (r : Nat) (p : Option Addr) (pc : Nat) (aa : List Ar) (H : RrAt w0 w r p pc aa (0, 0)) (A : ArgsOk aa) (a : Ar) (ha : aa[0]? = some a) :
    Calls Tryz.prog 57 #[.pointer (some ⟨r, 0, none⟩)] w (RdPost w0 w r p pc aa (indexP aa).1 (indexP aa).2) := by
  have hrl := lt_at H.blk
  have hle := H.le
  obtain ⟨R, C, hR, hC, hRC, hR1, hC1, hl, hR4, hC4⟩ := dims_le (A.good a (List.mem_of_getElem? ha))
  have TB := table_any w0 _ r p pc aa (0, 0) (H.alloc (.cells #[.int .i64 0, .int .i64 0, .string ⟨#[]⟩, .bool false, .int .i64 0] 29)) A a ha
  have C1 := fun W h => count_any w0 W r p pc aa (1, 0) 0 h A
  obtain ⟨s2, hs2⟩ : ∃ s, cntS aa (1, 0) = s := ⟨_, rfl⟩
  obtain ⟨row, hrow⟩ : ∃ m, cntV aa (1, 0) 0 = m := ⟨_, rfl⟩
  have C2 := fun W h => count_any w0 W r p pc aa s2 1 h A
  obtain ⟨⟨k3, f3⟩, hs3⟩ : ∃ s, cntS aa s2 = s := ⟨_, rfl⟩
  obtain ⟨col, hcol⟩ : ∃ m, cntV aa s2 1 = m := ⟨_, rfl⟩
  obtain ⟨g, hgv⟩ : ∃ m, sglB aa s2 = m := ⟨_, rfl⟩
  obtain ⟨g0, hg0⟩ : ∃ m, sglB aa (1, 0) = m := ⟨_, rfl⟩
  have hrr := hrow ▸ cntV_rng aa (1, 0) 0 (by omega)
  have hcr := hcol ▸ cntV_rng aa s2 1 (by omega)
  obtain ⟨⟨k0, n0, t0, b0, e0'⟩, hres⟩ : ∃ v, (if g = false ∧ (R : Int) = 1 then atV a.v (R : Int) (C : Int) 1 row else atV a.v (R : Int) (C : Int) row col) = v := ⟨_, rfl⟩
  have e0 : indexP aa = (⟨k0, n0, t0, b0, e0'⟩, f3) := by
    rw [← hres]
    unfold indexP
    simp only [hs2, hs3, hrow, hcol, hgv, argA_at ha, hR, hC]
  rw [e0]
  have AT1 := fun W va vc h => tat_any W a.v va vc R C 1 row h hRC hl hR4 hC4 (by omega) hrr
  have AT2 := fun W va vc h => tat_any W a.v va vc R C row col h hRC hl hR4 hC4 hrr hcr
  rw [hR, hC] at TB
  rw [hs2, hrow, hg0] at C1
  rw [hs3, hcol, hgv] at C2
  have HRES := hide hres
  have HA0 : Hid (Upd (w.alloc (.cells #[.int .i64 0, .int .i64 0, .string ⟨#[]⟩, .bool false, .int .i64 0] 29)) (w.alloc (.cells #[.int .i64 0, .int .i64 0, .string ⟨#[]⟩, .bool false, .int .i64 0] 29)) (fun j => j = r)) := hide (Upd.refl _ _)
  have HAT1 := hide AT1
  have HAT2 := hide AT2
  clear hs2 hrow hs3 hcol hgv hg0 hres e0 AT1 AT2 hrr hcr H hR hC hRC hl
  go_enter Tryz.func57, Tryz.ntmps57
  go_wp2_with fail
  refine Calls.mono TB ?_
  rintro e w1 ⟨va, vc, rfl, hv, h1, u1⟩
  have HA1 := hide ((HA0.out.then u1 (fun _ _ h => h)).alloc (.cells #[.slice va a.v.length vc, .int .i64 (R : Int), .int .i64 (C : Int)] 110))
  have HX := hide (Vnew1 w1 (.cells #[.slice va a.v.length vc, .int .i64 (R : Int), .int .i64 (C : Int)] 110))
  have h1' := h1.alloc (.cells #[.slice va a.v.length vc, .int .i64 (R : Int), .int .i64 (C : Int)] 110)
  have hx1 : r < w1.heap.size := lt_at h1.blk
  have HVV := hide hv
  clear u1 TB HA0 h1 hv
  go_wp2_with fail
  refine Calls.mono (C1 _ h1') ?_
  rintro e w2 ⟨rfl, h2, u2⟩
  have HX2 := hide (u2.get HX.out (show ¬ w1.heap.size = r by omega))
  have HA2 := hide (HA1.out.then u2 (fun _ _ h => h))
  clear u2 C1 HA1 HX h1'
  go_wp2_with fail
  refine Calls.mono (C2 _ h2) ?_
  rintro e w3 ⟨rfl, h3, u3⟩
  have bX := u3.get HX2.out (show ¬ w1.heap.size = r by omega)
  have HA3 := hide (HA2.out.then u3 (fun _ _ h => h))
  obtain ⟨x0, x1, x2⟩ := cells3 bX
  have xl := lt_at bX
  have HR3 := hide h3
  clear u3 C2 HA2 h2 h3 bX HX2
  by_cases hc : g = false ∧ (R : Int) = 1
  · have hev : atV a.v (R : Int) (C : Int) 1 row = ⟨k0, n0, t0, b0, e0'⟩ := by have := HRES.out; rwa [if_pos hc] at this
    have AT := HAT1.out
    rw [hev] at AT
    obtain ⟨hc1, hc2⟩ := hc
    have bR : ((R : Int) == 1) = true := by simpa using hc2
    subst hc1
    unfold Vl.val at AT
    simp only at AT
    clear hev hc2
    go_wp2_with fail
    refine Calls.mono (AT _ va vc (HVV.out.upd HR3.out.upd)) ?_
    rintro e w7 ⟨rfl, u7⟩
    have HA7 := hide (HA3.out.then u7 (fun _ _ h => h.elim))
    have bV := HA7.out.get (Vnew1 w _) (show ¬ w.heap.size = r by omega)
    obtain ⟨v0, v1, v2, v3, v4⟩ := cells5 bV
    have vl := lt_at bV
    have fv0 := free_at bV 0
    have fv1 := free_at bV 1
    have fv2 := free_at bV 2
    have fv3 := free_at bV 3
    have fv4 := free_at bV 4
    have HBV := hide bV
    have HR7 := hide (HR3.out.keep u7)
    clear bV u7 AT
    go_wp2_with fail
    (try simp only [Exit.inBlock, Exit.then])
    refine bodyPost_ret (ret_vl rfl _ _ w.heap.size ⟨k0, n0, t0, b0, e0'⟩ rfl (block5 (x := vZero) HBV.out _ _ _ _ _)) rfl ?_
    have uu := upd5 (upd_a HA7.out) (Nat.le_refl _) (.int .i64 k0) (.int .i64 n0) (enS t0) (.bool b0) (.int .i64 e0')
    exact ⟨rfl, ⟨k3, set5_get HR7.out.blk (by omega) _ _ _ _ _, hle, (upd5 HR7.out.upd (by omega) _ _ _ _ _), HR7.out.rd, HR7.out.pos⟩, uu⟩
  · have hev : atV a.v (R : Int) (C : Int) row col = ⟨k0, n0, t0, b0, e0'⟩ := by have := HRES.out; rwa [if_neg hc] at this
    have AT := HAT2.out
    rw [hev] at AT
    have hcc : g = true ∨ g = false ∧ ((R : Int) == 1) = false := by
      cases g with
      | true => exact .inl rfl
      | false => exact .inr ⟨rfl, by simpa using fun h => hc ⟨rfl, h⟩⟩
    unfold Vl.val at AT
    simp only at AT
    clear hev hc
    rcases hcc with rfl | ⟨rfl, bR⟩
    · go_wp2_with fail
      refine Calls.mono (AT _ va vc (HVV.out.upd HR3.out.upd)) ?_
      rintro e w7 ⟨rfl, u7⟩
      have HA7 := hide (HA3.out.then u7 (fun _ _ h => h.elim))
      have bV := HA7.out.get (Vnew1 w _) (show ¬ w.heap.size = r by omega)
      obtain ⟨v0, v1, v2, v3, v4⟩ := cells5 bV
      have vl := lt_at bV
      have fv0 := free_at bV 0
      have fv1 := free_at bV 1
      have fv2 := free_at bV 2
      have fv3 := free_at bV 3
      have fv4 := free_at bV 4
      have HBV := hide bV
      have HR7 := hide (HR3.out.keep u7)
      clear bV u7 AT
      go_wp2_with fail
      (try simp only [Exit.inBlock, Exit.then])
      refine bodyPost_ret (ret_vl rfl _ _ w.heap.size ⟨k0, n0, t0, b0, e0'⟩ rfl (block5 (x := vZero) HBV.out _ _ _ _ _)) rfl ?_
      have uu := upd5 (upd_a HA7.out) (Nat.le_refl _) (.int .i64 k0) (.int .i64 n0) (enS t0) (.bool b0) (.int .i64 e0')
      exact ⟨rfl, ⟨k3, set5_get HR7.out.blk (by omega) _ _ _ _ _, hle, (upd5 HR7.out.upd (by omega) _ _ _ _ _), HR7.out.rd, HR7.out.pos⟩, uu⟩
    · go_wp2_with fail
      refine Calls.mono (AT _ va vc (HVV.out.upd HR3.out.upd)) ?_
      rintro e w7 ⟨rfl, u7⟩
      have HA7 := hide (HA3.out.then u7 (fun _ _ h => h.elim))
      have bV := HA7.out.get (Vnew1 w _) (show ¬ w.heap.size = r by omega)
      obtain ⟨v0, v1, v2, v3, v4⟩ := cells5 bV
      have vl := lt_at bV
      have fv0 := free_at bV 0
      have fv1 := free_at bV 1
      have fv2 := free_at bV 2
      have fv3 := free_at bV 3
      have fv4 := free_at bV 4
      have HBV := hide bV
      have HR7 := hide (HR3.out.keep u7)
      clear bV u7 AT
      go_wp2_with fail
      (try simp only [Exit.inBlock, Exit.then])
      refine bodyPost_ret (ret_vl rfl _ _ w.heap.size ⟨k0, n0, t0, b0, e0'⟩ rfl (block5 (x := vZero) HBV.out _ _ _ _ _)) rfl ?_
      have uu := upd5 (upd_a HA7.out) (Nat.le_refl _) (.int .i64 k0) (.int .i64 n0) (enS t0) (.bool b0) (.int .i64 e0')
      exact ⟨rfl, ⟨k3, set5_get HR7.out.blk (by omega) _ _ _ _ _, hle, (upd5 HR7.out.upd (by omega) _ _ _ _ _), HR7.out.rd, HR7.out.pos⟩, uu⟩
set_option maxHeartbeats 3200000 in
theorem besideL_any (w0 w : World) (r : Nat) (p : Option Addr) (pc : Nat) (aa : List Ar) (H : RrAt w0 w r p pc aa (0, 0)) (A : ArgsOk aa) (a b c : Ar) (ha : aa[0]? = some a) (hb : aa[1]? = some b) (hc : aa[2]? = some c) :
    Calls Tryz.prog 59 #[.pointer (some ⟨r, 0, none⟩)] w (RdPost w0 w r p pc aa (besideP aa).1 (besideP aa).2) := by
  have hrl := lt_at H.blk
  have hle := H.le
  obtain ⟨f1, hs1⟩ := thg_1 (f := 0) ha
  obtain ⟨f2, hs2⟩ := lst_1 (aa := aa) (k := 1) (f := f1)
  obtain ⟨f3, hs3⟩ := lst_1 (aa := aa) (k := 2) (f := f2)
  have hob := A.oks b (List.mem_of_getElem? hb)
  have hoc := A.oks c (List.mem_of_getElem? hc)
  have hok := sgl_ok A (0, 0)
  obtain ⟨x, hx⟩ : ∃ x, sglV aa (0, 0) = x := ⟨_, rfl⟩
  obtain ⟨N, hN⟩ : ∃ N, placeV 1 x b.v = N := ⟨_, rfl⟩
  obtain ⟨⟨k0, n0, t0, b0, e0'⟩, hres⟩ : ∃ v, (if N = 0 ∨ c.v.length < N then mkE 6 else c.v.getD (N - 1) vZero) = v := ⟨_, rfl⟩
  have e0 : besideP aa = (⟨k0, n0, t0, b0, e0'⟩, f3) := by
    rw [← hres]
    unfold besideP
    simp only [hs1, hs2, hs3, hx, argA_at hb, argA_at hc, hN]
  rw [e0]
  have TH := thing_any w0 _ r p pc aa (0, 0) (H.alloc (.cells #[.int .i64 0, .int .i64 0, .string ⟨#[]⟩, .bool false, .int .i64 0] 29)) A
  have L1 := fun W h => list_any w0 W r p pc aa (1, f1) h A b hb
  have L2 := fun W h => list_any w0 W r p pc aa (2, f2) h A c hc
  rw [hx] at TH hok
  rw [hs1] at TH
  rw [hs2] at L1
  rw [hs3] at L2
  have PL := fun W va vc h => Place_any W x b.v va vc 1 hok.1 hok.2 hob.1 hob.2.1 h
  rw [hN] at PL
  have EA := fun w => E_any w 6
  have HRES := hide hres
  have HA0 : Hid (Upd (w.alloc (.cells #[.int .i64 0, .int .i64 0, .string ⟨#[]⟩, .bool false, .int .i64 0] 29)) (w.alloc (.cells #[.int .i64 0, .int .i64 0, .string ⟨#[]⟩, .bool false, .int .i64 0] 29)) (fun j => j = r)) := hide (Upd.refl _ _)
  have hlc := hoc.2.1
  clear hs1 hs2 hs3 hob hok hx hN e0 H hres hoc
  obtain ⟨xk, xn, xt, xb, xf⟩ := x
  unfold Vl.val at TH PL
  simp only at TH PL
  have HPL := hide PL
  clear PL
  go_enter Tryz.func59, Tryz.ntmps59
  go_wp2_with fail
  refine Calls.mono TH ?_
  rintro e w1 ⟨rfl, h1, u1⟩
  have HA1 := hide (HA0.out.then u1 (fun _ _ h => h))
  clear u1 TH HA0
  go_wp2_with fail
  refine Calls.mono (L1 _ h1) ?_
  rintro e w2 ⟨va, vc, rfl, hv, h2, u2⟩
  have HA2 := hide (HA1.out.then u2 (fun _ _ h => h))
  have HVV := hide hv
  clear u2 L1 HA1 h1 hv
  go_wp2_with fail
  refine Calls.mono (L2 _ h2) ?_
  rintro e w3 ⟨va2, vc2, rfl, hv2, h3, u3⟩
  have HA3 := hide ((HA2.out.then u3 (fun _ _ h => h)).alloc (.cells (Vl.mk xk xn xt xb xf).cs 29))
  have bX := Vnew1 w3 (.cells (Vl.mk xk xn xt xb xf).cs 29)
  have HR3 := hide (h3.alloc (.cells (Vl.mk xk xn xt xb xf).cs 29))
  have hx3 : r < w3.heap.size := lt_at h3.blk
  have HV2 := hide hv2
  obtain ⟨x0, x1, x2, x3, x4⟩ := cells5 bX
  have xl := lt_at bX
  clear u3 L2 HA2 h2 h3 hv2 bX
  go_wp2_with fail
  refine Calls.mono (HPL.out _ va vc (HVV.out.upd HR3.out.upd)) ?_
  rintro e w6 ⟨rfl, u6⟩
  have HA6 := hide (HA3.out.then u6 (fun _ _ h => h.elim))
  have HR6 := hide (HR3.out.keep u6)
  clear u6 HPL HA3 HR3 x0 x1 x2 x3 x4 xl
  by_cases hcd : N = 0 ∨ c.v.length < N
  · have hev : mkE 6 = ⟨k0, n0, t0, b0, e0'⟩ := by have := HRES.out; rwa [if_pos hcd] at this
    rw [hev] at EA
    unfold Vl.val at EA
    simp only at EA
    have hcc : ((N : Int) == 0) = true ∨ ((N : Int) == 0) = false ∧ (c.v.length : Int) < (N : Int) := by
      rcases hcd with h | h
      · exact .inl (by simp; omega)
      · exact .inr ⟨by simp; omega, by omega⟩
    clear hev hcd
    rcases hcc with bN | ⟨bN, hlN⟩
    all_goals
      go_wp2_with fail
      refine Calls.mono (EA _) ?_
      rintro e w7 ⟨rfl, u7⟩
      have HA7 := hide (HA6.out.then u7 (fun _ _ h => h.elim))
      have bV := HA7.out.get (Vnew1 w _) (show ¬ w.heap.size = r by omega)
      obtain ⟨v0, v1, v2, v3, v4⟩ := cells5 bV
      have vl := lt_at bV
      have fv0 := free_at bV 0
      have fv1 := free_at bV 1
      have fv2 := free_at bV 2
      have fv3 := free_at bV 3
      have fv4 := free_at bV 4
      have HBV := hide bV
      have HR7 := hide (HR6.out.keep u7)
      clear bV u7 EA
      go_wp2_with fail
      (try simp only [Exit.inBlock, Exit.then])
      refine bodyPost_ret (ret_vl rfl _ _ w.heap.size ⟨k0, n0, t0, b0, e0'⟩ rfl (block5 (x := vZero) HBV.out _ _ _ _ _)) rfl ?_
      have uu := upd5 (upd_a HA7.out) (Nat.le_refl _) (.int .i64 k0) (.int .i64 n0) (enS t0) (.bool b0) (.int .i64 e0')
      exact ⟨rfl, ⟨3, set5_get HR7.out.blk (by omega) _ _ _ _ _, hle, (upd5 HR7.out.upd (by omega) _ _ _ _ _), HR7.out.rd, HR7.out.pos⟩, uu⟩
  · have hev : c.v.getD (N - 1) vZero = ⟨k0, n0, t0, b0, e0'⟩ := by have := HRES.out; rwa [if_neg hcd] at this
    obtain ⟨J, hJ⟩ : ∃ J, N = J + 1 := ⟨N - 1, by omega⟩
    subst hJ
    have hJl : J < c.v.length := by omega
    have hget : c.v[J]? = some ⟨k0, n0, t0, b0, e0'⟩ := by
      rw [List.getElem?_eq_getElem hJl]
      rw [List.getD_eq_getElem?_getD, Nat.add_sub_cancel, List.getElem?_eq_getElem hJl] at hev
      simpa using hev
    obtain ⟨g, off, rfl, hg, q0, q1, q2, q3, q4⟩ := rdV_at HV2.out hget
    have bN : (((J + 1 : Nat) : Int) == 0) = false := by simp; omega
    have hlN : ¬ (c.v.length : Int) < ((J + 1 : Nat) : Int) := by omega
    have y0 := (HR6.out.upd.cell g _ hg id).trans q0
    have y1 := (HR6.out.upd.cell g _ hg id).trans q1
    have y2 := (HR6.out.upd.cell g _ hg id).trans q2
    have y3 := (HR6.out.upd.cell g _ hg id).trans q3
    have y4 := (HR6.out.upd.cell g _ hg id).trans q4
    have gl := Nat.lt_of_lt_of_le hg HR6.out.upd.size
    obtain ⟨z, hz⟩ : ∃ z : Int, ((J + 1 : Nat) : Int) = z := ⟨_, rfl⟩
    have wJ : IntKind.i64.wrap (z - 1) = (J : Int) := by
      have : z - 1 = (J : Int) := by omega
      rw [this]; exact IntWalk.i64_in _ (by omega)
    have hJ0 : (0 : Int) ≤ (J : Int) := by omega
    have hJ1 : (J : Int) < (c.v.length : Int) := by omega
    rw [hz] at bN hlN ⊢
    have bV := HA6.out.get (Vnew1 w _) (show ¬ w.heap.size = r by omega)
    obtain ⟨v0, v1, v2, v3, v4⟩ := cells5 bV
    have vl := lt_at bV
    have fv0 := free_at bV 0
    have fv1 := free_at bV 1
    have fv2 := free_at bV 2
    have fv3 := free_at bV 3
    have fv4 := free_at bV 4
    have HBV := hide bV
    clear bV hev hcd q0 q1 q2 q3 q4 hget EA hz
    simp only at y0 y1 y2 y3 y4
    go_wp2_with fail
    (try simp only [Exit.inBlock, Exit.then])
    refine bodyPost_ret (ret_vl rfl _ _ w.heap.size ⟨k0, n0, t0, b0, e0'⟩ rfl (block5 (x := vZero) HBV.out _ _ _ _ _)) rfl ?_
    have uu := upd5 (upd_a HA6.out) (Nat.le_refl _) (.int .i64 k0) (.int .i64 n0) (enS t0) (.bool b0) (.int .i64 e0')
    exact ⟨rfl, ⟨3, set5_get HR6.out.blk (by omega) _ _ _ _ _, hle, (upd5 HR6.out.upd (by omega) _ _ _ _ _), HR6.out.rd, HR6.out.pos⟩, uu⟩
end Go.Proofs.YtdjpkkgcoainhaaGreatDoor
/- The walk of a table's first column. -/
set_option maxRecDepth 100000
namespace Go.Proofs.YtdjpkkgcoainhaaGreatDoor
open Go.RowKit Go.Lat Go.Lib

theorem field0 (w : World) (a : Option Addr) (n c : Nat) (p q : Int) : (Instr.field 110 (.agg #[.slice a n c, .int .i64 p, .int .i64 q]) 0).run Tryz.prog w = .ok (.slice a n c) w := by kernel_rfl
theorem vlCells_take (l : List Vl) (k : Nat) : (vlCells l).take (k * 5) = vlCells (l.take k) := by
  induction l generalizing k with
  | nil => simp [vlCells]
  | cons x l ih =>
    cases k with
    | zero => simp [vlCells]
    | succ k =>
      have e1 : vlCells (x :: l) = x.cells ++ vlCells l := by simp [vlCells]
      have e2 : vlCells ((x :: l).take (k + 1)) = x.cells ++ vlCells (l.take k) := by simp [vlCells]
      have e3 : x.cells.length = 5 := rfl
      rw [e1, e2, List.take_append, e3, List.take_of_length_le (by omega), ← ih k]
      congr 1
      congr 1
      omega
theorem rdV_of {w : World} {T : TypeId} {a : Option Addr} {n c : Nat} {l : List Vl} (hn : l.length = n) (h : Rw w T 5 (.slice a n c) n (vlCells l)) : RdV w a l := by
  subst hn
  exact rdV_of_rw h
set_option maxHeartbeats 1600000 in
theorem first_any (w : World) (l : List Vl) (va : Option Addr) (vc R C : Nat) (hv : RdV w va l) (hRC : R * C = l.length) (hl : l.length ≤ 4096) (hR : R ≤ 4096) (hC : C ≤ 4096) (hC1 : 1 ≤ C) :
    Calls Tryz.prog 81 #[.agg #[.slice va l.length vc, .int .i64 (R : Int), .int .i64 (C : Int)]] w fun e w' => ∃ a c, e = .returned (.slice a R c) ∧ RdV w' a ((turnL R C l).take R) ∧ Upd w w' (fun _ => False) := by
  have TU := fun W h => turned_any W l va vc R C h hRC hl hR hC
  have FI := field0
  have hRn : R ≤ l.length := by rw [← hRC]; exact Nat.le_mul_of_pos_right R hC1
  have hlen : (turnL R C l).length = l.length := by rw [turnL_len, hRC]
  have bT := Vnew1 w (.cells #[.slice va l.length vc, .int .i64 (R : Int), .int .i64 (C : Int)] 110)
  have uT : Upd w (w.alloc (.cells #[.slice va l.length vc, .int .i64 (R : Int), .int .i64 (C : Int)] 110)) (fun _ => False) := (Upd.refl w _).alloc _
  have HV := hide (hv.upd uT)
  have HUT := hide uT
  obtain ⟨t0, t1, t2⟩ := cells3 bT
  have tl := lt_at bT
  have hR0 : (0 : Int) ≤ (R : Int) := by omega
  have hRl : (R : Int) ≤ (l.length : Int) := by omega
  obtain ⟨i0, hi, hz0, hz1, hz2⟩ := info_p Tryz.infoVl
  have HL := hide hlen
  clear bT uT hv hRC hlen
  go_enter Tryz.func81, Tryz.ntmps81
  go_wp2_with fail
  obtain ⟨W, hW⟩ : ∃ W, w.alloc (.cells #[.slice va l.length vc, .int .i64 (R : Int), .int .i64 (C : Int)] 110) = W := ⟨_, rfl⟩
  rw [hW] at HV HUT t0 t1 t2 tl ⊢
  clear hW
  go_region_held3 (fun w' => w'.cell? ⟨w.heap.size, 0, none⟩ = some (.slice va l.length vc) ∧ w'.cell? ⟨w.heap.size, 1, none⟩ = some (.int .i64 (R : Int)) ∧ w'.cell? ⟨w.heap.size, 2, none⟩ = some (.int .i64 (C : Int)))
    (first | (go_keep; done) | exact ⟨t0, t1, t2⟩ | (exact ⟨(u6.cell w.heap.size _ tl id).trans t0, (u6.cell w.heap.size _ tl id).trans t1, (u6.cell w.heap.size _ tl id).trans t2⟩))
    (first
      | (go_at_call 80; refine Calls.mono (TU _ HV.out) ?_; rintro e w6 ⟨a, c, rfl, hrw, -, u6⟩; obtain ⟨a2, c2, hs, hrw2, -⟩ := Rw.slice_to (P := Tryz.prog) hrw 33 i0 Tryz.underlying33 hi hz1 R hRn))
  all_goals go_wp2_with fail
  all_goals go_ret
  all_goals exact ⟨a2, c2, rfl, rdV_of (n := R) (by rw [List.length_take, HL.out]; omega) (by rw [← vlCells_take]; exact hrw2), (HUT.out.drew).then u6 (fun _ _ h => h)⟩
end Go.Proofs.YtdjpkkgcoainhaaGreatDoor
