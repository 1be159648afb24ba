/- The reader of arguments: the walks of thing, count, table, list. -/
import Derived.Test.YtdjpkkgcoainhaaGreatDoorJ16
/- The reader of arguments: the walks of thing, count, table, list. -/
set_option maxRecDepth 100000
namespace Go.Proofs.YtdjpkkgcoainhaaGreatDoor
open Go.RowKit Go.Lat Go.Lib

theorem sgl_ok {aa : List Ar} (A : ArgsOk aa) (s : Nat × Int) : (sglV aa s).ok ∧ (sglV aa s).t.length ≤ 1000000 := by
  unfold sglV
  split
  · exact ⟨vZero_ok, by decide⟩
  · rename_i a ha
    split
    · exact ⟨vZero_ok, by decide⟩
    · have ho := (A.oks a (List.mem_of_getElem? ha)).1
      rw [List.getD_eq_getElem?_getD]
      cases h : a.v[0]? with
      | none => exact ⟨vZero_ok, by decide⟩
      | some x => exact ho x (List.mem_of_getElem? h)
set_option maxHeartbeats 1600000 in
theorem thing_any (w0 w : World) (r : Nat) (p : Option Addr) (pc : Nat) (aa : List Ar) (s : Nat × Int) (H : RrAt w0 w r p pc aa s) (A : ArgsOk aa) :
    Calls Tryz.prog 75 #[.pointer (some ⟨r, 0, none⟩)] w fun e w' => e = .returned (sglV aa s).val ∧ RrAt w0 w' r p pc aa (thgS aa s) ∧ Upd w w' (fun j => j = r) := by
  have hrl := lt_at H.blk
  have hle := H.le
  have HV := hide (Vnew1 w (.cells vZero.cs 29))
  have HUV : Hid (Upd w (w.alloc (.cells vZero.cs 29)) (fun j => j = r)) := hide ((Upd.refl w _).alloc _)
  have HS := hide H
  have SX := single_any w0 _ r p pc aa s (H.alloc (.cells vZero.cs 29)) A
  have hok := sgl_ok A s
  have GX := fun w => Good_any w (sglV aa s) hok.1
  have e0 : thgS aa s = ((sglS aa s).1, if goodV (sglV aa s) then (if (sglV aa s).k = 4 then badF (sglS aa s).2 (sglV aa s).f else (sglS aa s).2) else badF (sglS aa s).2 3) := rfl
  rw [e0]
  obtain ⟨x, hx⟩ : ∃ x, sglV aa s = x := ⟨_, rfl⟩
  rw [hx] at SX GX ⊢
  obtain ⟨⟨k1, f1⟩, hS⟩ : ∃ S, sglS aa s = S := ⟨_, rfl⟩
  rw [hS] at SX ⊢
  simp only at SX ⊢
  obtain ⟨q, hq⟩ : ∃ q, goodV x = q := ⟨_, rfl⟩
  rw [hq] at GX ⊢
  clear hx hS hok e0 H hq A
  obtain ⟨xk, xn, xt, xb, xf⟩ := x
  unfold Vl.val at SX GX ⊢
  simp only at SX GX ⊢
  cases q with
  | false =>
    simp only [Bool.false_eq_true, if_false]
    go_enter Tryz.func75, Tryz.ntmps75
    go_wp2_with fail
    refine Calls.mono SX ?_
    rintro e w1 ⟨rfl, h1, u1⟩
    have HR1 := hide (h1.alloc (.cells (Vl.mk xk xn xt xb xf).cs 29))
    have bX := Vnew1 w1 (.cells (Vl.mk xk xn xt xb xf).cs 29)
    have HV1 := hide (block_alloc (u1.get HV.out (show ¬ w.heap.size = r by omega)) (.cells (Vl.mk xk xn xt xb xf).cs 29))
    have HU1 := hide ((HUV.out.then u1 (fun _ _ h => h)).alloc (.cells (Vl.mk xk xn xt xb xf).cs 29))
    have hsz : w.heap.size + 1 ≤ w1.heap.size := by have := u1.size; simpa using this
    obtain ⟨x0, x1, x2, x3, x4⟩ := cells5 bX
    have xl := lt_at bX
    have HBX := hide bX
    clear h1 bX u1 SX
    go_wp2_with fail
    refine Calls.mono (GX _) ?_
    rintro e w2 ⟨rfl, u2⟩
    have HR2 := hide (HR1.out.keep u2)
    have HV2 := hide (u2.get HV1.out id)
    have HBX2 := hide (u2.get HBX.out id)
    have HU2 := hide (HU1.out.then u2 (fun _ _ h => h.elim))
    have BD := bad_any w2 r _ _ _ _ f1 3 (HR1.out.keep u2).blk
    clear x0 x1 x2 x3 x4 xl u2 GX
    go_wp2_with fail
    refine Calls.mono BD ?_
    rintro e w3 ⟨rfl, h3, u3⟩
    have bV := u3.get HV2.out (show ¬ w.heap.size = r by omega)
    have bX := u3.get HBX2.out (show ¬ w1.heap.size = r by omega)
    have HR3 := hide h3
    have HU3 := hide (HU2.out.then u3 (fun _ _ h => h))
    obtain ⟨x0, x1, x2, x3, x4⟩ := cells5 bX
    have xl := lt_at bX
    obtain ⟨v0, v1, v2, v3, v4⟩ := cells5 bV
    have vl := lt_at bV
    have fv0 := free_at bV 0
    have fv1 := free_at bV 1
    have fv2 := free_at bV 2
    have fv3 := free_at bV 3
    have fv4 := free_at bV 4
    have HBV := hide bV
    clear BD h3 u3 bX bV
    go_wp2_with fail
    (try simp only [Exit.inBlock, Exit.then])
    refine bodyPost_ret (ret_vl rfl _ _ w.heap.size ⟨xk, xn, xt, xb, xf⟩ rfl (block5 HBV.out _ _ _ _ _)) rfl ?_
    have uu := upd5 HU3.out (Nat.le_refl _) (.int .i64 xk) (.int .i64 xn) (enS xt) (.bool xb) (.int .i64 xf)
    exact ⟨rfl, ⟨set5_get HR3.out (by omega) _ _ _ _ _, hle, upd_r HS.out.upd hle uu, HS.out.rd, HR2.out.pos⟩, uu⟩
  | true =>
    simp only [if_true]
    by_cases h4 : xk = 4
    · rw [if_pos h4]
      subst h4
      go_enter Tryz.func75, Tryz.ntmps75
      go_wp2_with fail
      refine Calls.mono SX ?_
      rintro e w1 ⟨rfl, h1, u1⟩
      have HR1 := hide (h1.alloc (.cells (Vl.mk 4 xn xt xb xf).cs 29))
      have bX := Vnew1 w1 (.cells (Vl.mk 4 xn xt xb xf).cs 29)
      have HV1 := hide (block_alloc (u1.get HV.out (show ¬ w.heap.size = r by omega)) (.cells (Vl.mk 4 xn xt xb xf).cs 29))
      have HU1 := hide ((HUV.out.then u1 (fun _ _ h => h)).alloc (.cells (Vl.mk 4 xn xt xb xf).cs 29))
      have hsz : w.heap.size + 1 ≤ w1.heap.size := by have := u1.size; simpa using this
      obtain ⟨x0, x1, x2, x3, x4⟩ := cells5 bX
      have xl := lt_at bX
      have HBX := hide bX
      clear h1 bX u1 SX
      go_wp2_with fail
      refine Calls.mono (GX _) ?_
      rintro e w2 ⟨rfl, u2⟩
      have HR2 := hide (HR1.out.keep u2)
      have HV2 := hide (u2.get HV1.out id)
      have HBX2 := hide (u2.get HBX.out id)
      have HU2 := hide (HU1.out.then u2 (fun _ _ h => h.elim))
      have BD := bad_any w2 r _ _ _ _ f1 xf (HR1.out.keep u2).blk
      clear x0 x1 x2 x3 x4 xl
      have bX := u2.get HBX.out id
      obtain ⟨x0, x1, x2, x3, x4⟩ := cells5 bX
      have xl := lt_at bX
      clear u2 GX bX
      go_wp2_with fail
      refine Calls.mono BD ?_
      rintro e w3 ⟨rfl, h3, u3⟩
      clear x0 x1 x2 x3 x4 xl
      have bV := u3.get HV2.out (show ¬ w.heap.size = r by omega)
      have bX := u3.get HBX2.out (show ¬ w1.heap.size = r by omega)
      have HR3 := hide h3
      have HU3 := hide (HU2.out.then u3 (fun _ _ h => h))
      obtain ⟨x0, x1, x2, x3, x4⟩ := cells5 bX
      have xl := lt_at bX
      obtain ⟨v0, v1, v2, v3, v4⟩ := cells5 bV
      have vl := lt_at bV
      have fv0 := free_at bV 0
      have fv1 := free_at bV 1
      have fv2 := free_at bV 2
      have fv3 := free_at bV 3
      have fv4 := free_at bV 4
      have HBV := hide bV
      clear BD h3 u3 bX bV
      go_wp2_with fail
      (try simp only [Exit.inBlock, Exit.then])
      refine bodyPost_ret (ret_vl rfl _ _ w.heap.size ⟨4, xn, xt, xb, xf⟩ rfl (block5 HBV.out _ _ _ _ _)) rfl ?_
      have uu := upd5 HU3.out (Nat.le_refl _) (.int .i64 4) (.int .i64 xn) (enS xt) (.bool xb) (.int .i64 xf)
      exact ⟨rfl, ⟨set5_get HR3.out (by omega) _ _ _ _ _, hle, upd_r HS.out.upd hle uu, HS.out.rd, HR2.out.pos⟩, uu⟩
    · rw [if_neg h4]
      have b4 : (xk == 4) = false := by simpa using h4
      clear h4
      go_enter Tryz.func75, Tryz.ntmps75
      go_wp2_with fail
      refine Calls.mono SX ?_
      rintro e w1 ⟨rfl, h1, u1⟩
      have HR1 := hide (h1.alloc (.cells (Vl.mk xk xn xt xb xf).cs 29))
      have bX := Vnew1 w1 (.cells (Vl.mk xk xn xt xb xf).cs 29)
      have HV1 := hide (block_alloc (u1.get HV.out (show ¬ w.heap.size = r by omega)) (.cells (Vl.mk xk xn xt xb xf).cs 29))
      have HU1 := hide ((HUV.out.then u1 (fun _ _ h => h)).alloc (.cells (Vl.mk xk xn xt xb xf).cs 29))
      have hsz : w.heap.size + 1 ≤ w1.heap.size := by have := u1.size; simpa using this
      obtain ⟨x0, x1, x2, x3, x4⟩ := cells5 bX
      have xl := lt_at bX
      have HBX := hide bX
      clear h1 bX u1 SX
      go_wp2_with fail
      refine Calls.mono (GX _) ?_
      rintro e w2 ⟨rfl, u2⟩
      have HR2 := hide (HR1.out.keep u2)
      have bV := u2.get HV1.out id
      have bX := u2.get HBX.out id
      have HU2 := hide (HU1.out.then u2 (fun _ _ h => h.elim))
      clear x0 x1 x2 x3 x4 xl u2 GX
      obtain ⟨x0, x1, x2, x3, x4⟩ := cells5 bX
      have xl := lt_at bX
      obtain ⟨v0, v1, v2, v3, v4⟩ := cells5 bV
      have vl := lt_at bV
      have fv0 := free_at bV 0
      have fv1 := free_at bV 1
      have fv2 := free_at bV 2
      have fv3 := free_at bV 3
      have fv4 := free_at bV 4
      have HBV := hide bV
      clear bX bV
      go_wp2_with fail
      (try simp only [Exit.inBlock, Exit.then])
      refine bodyPost_ret (ret_vl rfl _ _ w.heap.size ⟨xk, xn, xt, xb, xf⟩ rfl (block5 HBV.out _ _ _ _ _)) rfl ?_
      have uu := upd5 HU2.out (Nat.le_refl _) (.int .i64 xk) (.int .i64 xn) (enS xt) (.bool xb) (.int .i64 xf)
      exact ⟨rfl, ⟨set5_get HR2.out.blk (by omega) _ _ _ _ _, hle, upd_r HS.out.upd hle uu, HS.out.rd, HR2.out.pos⟩, uu⟩
set_option maxHeartbeats 1600000 in
theorem count_any (w0 w : World) (r : Nat) (p : Option Addr) (pc : Nat) (aa : List Ar) (s : Nat × Int) (o : Int) (H : RrAt w0 w r p pc aa s) (A : ArgsOk aa) :
    Calls Tryz.prog 77 #[.pointer (some ⟨r, 0, none⟩), .int .i64 o] w fun e w' => e = .returned (.tuple #[.int .i64 (cntV aa s o), .bool (sglB aa s)]) ∧ RrAt w0 w' r p pc aa (cntS aa s) ∧ Upd w w' (fun j => j = r) := by
  have hrl := lt_at H.blk
  have hle := H.le
  have HS := hide H
  have SX := single_any w0 w r p pc aa s H A
  have hok := sgl_ok A s
  have NX := fun w => numP_any w (sglV aa s) hok.1 hok.2
  unfold cntV cntS
  obtain ⟨x, hx⟩ : ∃ x, sglV aa s = x := ⟨_, rfl⟩
  rw [hx] at SX NX ⊢
  obtain ⟨⟨k1, f1⟩, hS⟩ : ∃ S, sglS aa s = S := ⟨_, rfl⟩
  rw [hS] at SX ⊢
  simp only at SX ⊢
  obtain ⟨q, hq⟩ : ∃ q, sglB aa s = q := ⟨_, rfl⟩
  rw [hq] at SX ⊢
  obtain ⟨⟨n, fn⟩, hn⟩ : ∃ z, numF x = z := ⟨_, rfl⟩
  rw [hn] at NX ⊢
  have WX := fun w => wholeP_any w n
  simp only at NX ⊢
  obtain ⟨wn, hwn⟩ : ∃ z, wholeF n = z := ⟨_, rfl⟩
  rw [hwn] at WX ⊢
  clear hx hS hok H hq A hn hwn
  obtain ⟨xk, xn, xt, xb, xf⟩ := x
  unfold Vl.val at SX NX
  simp only at SX NX
  cases q with
  | false =>
    simp only [Bool.false_eq_true, if_false]
    go_enter Tryz.func77, Tryz.ntmps77
    go_wp2_with fail
    refine Calls.mono SX ?_
    rintro e w1 ⟨rfl, h1, u1⟩
    have HR1 := hide (h1.alloc (.cells (Vl.mk xk xn xt xb xf).cs 29))
    have HU1 := hide (u1.alloc (.cells (Vl.mk xk xn xt xb xf).cs 29))
    clear h1 u1 SX
    go_wp2_with fail
    go_ret2
    exact ⟨rfl, HR1.out, HU1.out⟩
  | true =>
    simp only [if_true]
    by_cases h0 : fn = 0
    · subst h0
      rw [badF_0]
      go_enter Tryz.func77, Tryz.ntmps77
      go_wp2_with fail
      refine Calls.mono SX ?_
      rintro e w1 ⟨rfl, h1, u1⟩
      have HR1 := hide (h1.alloc (.cells (Vl.mk xk xn xt xb xf).cs 29))
      have HU1 := hide (u1.alloc (.cells (Vl.mk xk xn xt xb xf).cs 29))
      have bX := Vnew1 w1 (.cells (Vl.mk xk xn xt xb xf).cs 29)
      obtain ⟨x0, x1, x2, x3, x4⟩ := cells5 bX
      have xl := lt_at bX
      clear h1 u1 SX bX
      go_wp2_with fail
      refine Calls.mono (NX _) ?_
      rintro e w2 ⟨rfl, u2⟩
      have HR2 := hide (HR1.out.keep u2)
      have HU2 := hide (HU1.out.then u2 (fun _ _ h => h.elim))
      clear x0 x1 x2 x3 x4 xl u2 NX
      go_wp2_with fail
      refine Calls.mono (WX _) ?_
      rintro e w3 ⟨rfl, u3⟩
      have HR3 := hide (HR2.out.keep u3)
      have HU3 := hide (HU2.out.then u3 (fun _ _ h => h.elim))
      clear u3 WX
      go_wp2_with fail
      go_ret2
      exact ⟨rfl, HR3.out, HU3.out⟩
    · have b0 : (fn != 0) = true := by simpa using h0
      clear h0
      go_enter Tryz.func77, Tryz.ntmps77
      go_wp2_with fail
      refine Calls.mono SX ?_
      rintro e w1 ⟨rfl, h1, u1⟩
      have HR1 := hide (h1.alloc (.cells (Vl.mk xk xn xt xb xf).cs 29))
      have HU1 := hide (u1.alloc (.cells (Vl.mk xk xn xt xb xf).cs 29))
      have bX := Vnew1 w1 (.cells (Vl.mk xk xn xt xb xf).cs 29)
      obtain ⟨x0, x1, x2, x3, x4⟩ := cells5 bX
      have xl := lt_at bX
      clear h1 u1 SX bX
      go_wp2_with fail
      refine Calls.mono (NX _) ?_
      rintro e w2 ⟨rfl, u2⟩
      have HR2 := hide (HR1.out.keep u2)
      have BD := bad_any w2 r _ _ _ _ f1 fn (HR1.out.keep u2).blk
      have HU2 := hide (HU1.out.then u2 (fun _ _ h => h.elim))
      clear x0 x1 x2 x3 x4 xl u2 NX
      go_wp2_with fail
      refine Calls.mono BD ?_
      rintro e w3 ⟨rfl, h3, u3⟩
      have HR3 : Hid (RrAt w0 w3 r p pc aa (k1, badF f1 fn)) := hide ⟨h3, hle, upd_r HR2.out.upd hle u3, HS.out.rd, HR2.out.pos⟩
      have HU3 := hide (HU2.out.then u3 (fun _ _ h => h))
      clear u3 h3 BD
      go_wp2_with fail
      refine Calls.mono (WX _) ?_
      rintro e w4 ⟨rfl, u4⟩
      have HR4 := hide (HR3.out.keep u4)
      have HU4 := hide (HU3.out.then u4 (fun _ _ h => h.elim))
      clear u4 WX
      go_wp2_with fail
      go_ret2
      exact ⟨rfl, HR4.out, HU4.out⟩
end Go.Proofs.YtdjpkkgcoainhaaGreatDoor
/- The reader of arguments: the walks of table, list; a table's at. -/
set_option maxRecDepth 100000
namespace Go.Proofs.YtdjpkkgcoainhaaGreatDoor
open Go.RowKit Go.Lat Go.Lib

theorem set3_get {W : World} {r g : Nat} {o : Obj} (h : W.heap[r]? = some o) (hne : r ≠ g) (v0 v1 v2 : Value) : (((W.setCell ⟨g, 0, none⟩ v0).setCell ⟨g, 1, none⟩ v1).setCell ⟨g, 2, none⟩ v2).heap[r]? = some o :=
  ((((Upd.refl W (fun j => j = g)).setCell ⟨g, 0, none⟩ v0 (.inr rfl)).setCell ⟨g, 1, none⟩ v1 (.inr rfl)).setCell ⟨g, 2, none⟩ v2 (.inr rfl)).get h hne
set_option maxHeartbeats 1600000 in
theorem table_any (w0 w : World) (r : Nat) (p : Option Addr) (pc : Nat) (aa : List Ar) (s : Nat × Int) (H : RrAt w0 w r p pc aa s) (A : ArgsOk aa) (a : Ar) (ha : aa[s.1]? = some a) :
    Calls Tryz.prog 62 #[.pointer (some ⟨r, 0, none⟩)] w fun e w' => ∃ va vc, e = .returned (.agg #[.slice va a.v.length vc, .int .i64 (rowsA a), .int .i64 (colsA a)]) ∧ RdV w0 va a.v ∧ RrAt w0 w' r p pc aa (s.1 + 1, s.2) ∧ Upd w w' (fun j => j = r) := by
  have hrl := lt_at H.blk
  have hle := H.le
  have hV := Vnew1 w (.cells #[.slice none 0 0, .int .i64 0, .int .i64 0] 110)
  have hR := block_alloc H.blk (.cells #[.slice none 0 0, .int .i64 0, .int .i64 0] 110)
  have uV : Upd w (w.alloc (.cells #[.slice none 0 0, .int .i64 0, .int .i64 0] 110)) (fun j => j = r) := (Upd.refl w _).alloc _
  have HV := hide hV
  have HUV := hide uV
  have HS := hide H
  obtain ⟨k, f⟩ := s
  simp only at hR ha
  have ham := List.mem_of_getElem? ha
  have hga := A.good a ham
  have hkl := (List.getElem?_eq_some_iff.1 ha).1
  have hpos : k + 1 ≤ aa.length := hkl
  obtain ⟨g, off, va, vc, rfl, hg0, q0, q1, q2, hv⟩ := H.rd k a ha
  have hg : g < w.heap.size := Nat.lt_of_lt_of_le hg0 H.upd.size
  have uV0 : Upd w (w.alloc (.cells #[.slice none 0 0, .int .i64 0, .int .i64 0] 110)) (fun _ => False) := (Upd.refl w _).alloc _
  have NX := next_at _ r g off aa.length pc k f a va vc hR hkl A.len (by omega) ((uV0.cell g _ hg id).trans ((H.upd.cell g _ hg0 id).trans q0)) ((uV0.cell g _ hg id).trans ((H.upd.cell g _ hg0 id).trans q1)) ((uV0.cell g _ hg id).trans ((H.upd.cell g _ hg0 id).trans q2))
  have TX := fun w => tabled_any w a va vc hga
  have HRV := hide hv
  obtain ⟨R, hR'⟩ : ∃ R, rowsA a = R := ⟨_, rfl⟩
  obtain ⟨C, hC'⟩ : ∃ C, colsA a = C := ⟨_, rfl⟩
  rw [hR', hC'] at TX ⊢
  obtain ⟨v, c, wd⟩ := a
  simp only at NX TX HRV ⊢
  clear H hR uV hV q0 q1 q2 hv uV0 hga ham ha hR' hC' A
  go_enter Tryz.func62, Tryz.ntmps62
  go_wp2_with fail
  refine Calls.mono NX ?_
  rintro e w1 ⟨rfl, h1, u1⟩
  have bA := Vnew1 w1 (.cells #[.slice va v.length vc, .int .i64 c, .bool wd] 67)
  have HV1 := hide (block_alloc (u1.get HV.out (show ¬ w.heap.size = r by omega)) (.cells #[.slice va v.length vc, .int .i64 c, .bool wd] 67))
  have HU1 := hide ((HUV.out.then u1 (fun _ _ h => h)).alloc (.cells #[.slice va v.length vc, .int .i64 c, .bool wd] 67))
  have HR1 := hide (block_alloc h1 (.cells #[.slice va v.length vc, .int .i64 c, .bool wd] 67))
  obtain ⟨a0, a1, a2⟩ := cells3 bA
  have al := lt_at bA
  clear bA u1 NX h1
  go_wp2_with fail
  refine Calls.mono (TX _) ?_
  rintro e w2 ⟨rfl, u2⟩
  have bV := u2.get HV1.out id
  obtain ⟨v0, v1, v2⟩ := cells3 bV
  have vl := lt_at bV
  have fv0 := free_at bV 0
  have fv1 := free_at bV 1
  have fv2 := free_at bV 2
  have HBV := hide bV
  have HU2 := hide (HU1.out.then u2 (fun _ _ h => h.elim))
  have HR2 := hide (u2.get HR1.out id)
  clear bV u2 TX a0 a1 a2 al
  go_wp2_with fail
  (try simp only [Exit.inBlock, Exit.then])
  refine bodyPost_ret (ret_tab rfl _ _ w.heap.size _ _ _ rfl (block3 HBV.out _ _ _)) rfl ?_
  have uu := upd3 HU2.out (Nat.le_refl _) (.slice va v.length vc) (.int .i64 R) (.int .i64 C)
  exact ⟨va, vc, rfl, HRV.out, ⟨set3_get HR2.out (by omega) _ _ _, hle, upd_r HS.out.upd hle uu, HS.out.rd, hpos⟩, uu⟩
set_option maxHeartbeats 1600000 in
theorem list_any (w0 w : World) (r : Nat) (p : Option Addr) (pc : Nat) (aa : List Ar) (s : Nat × Int) (H : RrAt w0 w r p pc aa s) (A : ArgsOk aa) (a : Ar) (ha : aa[s.1]? = some a) :
    Calls Tryz.prog 76 #[.pointer (some ⟨r, 0, none⟩)] w fun e w' => ∃ va vc, e = .returned (.slice va a.v.length vc) ∧ RdV w0 va a.v ∧ RrAt w0 w' r p pc aa (lstS aa s) ∧ Upd w w' (fun j => j = r) := by
  have TX := table_any w0 w r p pc aa s H A a ha
  have hle := H.le
  have HS := hide H
  have e0 : lstS aa s = (s.1 + 1, if rowsA a ≠ 1 ∧ colsA a ≠ 1 then badF s.2 6 else s.2) := by
    unfold lstS argA
    have e : aa.getD s.1 ⟨[], 0, false⟩ = a := by rw [List.getD_eq_getElem?_getD, ha]; rfl
    rw [e]
  rw [e0]
  obtain ⟨R, hR'⟩ : ∃ R, rowsA a = R := ⟨_, rfl⟩
  obtain ⟨C, hC'⟩ : ∃ C, colsA a = C := ⟨_, rfl⟩
  rw [hR', hC'] at TX ⊢
  obtain ⟨v, c, wd⟩ := a
  obtain ⟨k, f⟩ := s
  simp only at TX ⊢
  clear H e0 ha hR' hC' A
  by_cases h1 : R ≠ 1
  · have b1 : (R != 1) = true := by simpa using h1
    by_cases h2 : C ≠ 1
    · have b2 : (C != 1) = true := by simpa using h2
      rw [if_pos ⟨h1, h2⟩]
      clear h1 h2
      go_enter Tryz.func76, Tryz.ntmps76
      go_wp2_with fail
      refine Calls.mono TX ?_
      rintro e w1 ⟨va, vc, rfl, hv, h1, u1⟩
      have bT := Vnew1 w1 (.cells #[.slice va v.length vc, .int .i64 R, .int .i64 C] 110)
      have HT := hide bT
      have HRV := hide hv
      have HR1 := hide (h1.alloc (.cells #[.slice va v.length vc, .int .i64 R, .int .i64 C] 110))
      have HU1 := hide (u1.alloc (.cells #[.slice va v.length vc, .int .i64 R, .int .i64 C] 110))
      have BD := bad_any _ r _ _ _ _ f 6 (h1.alloc (.cells #[.slice va v.length vc, .int .i64 R, .int .i64 C] 110)).blk
      have hrw : r < w1.heap.size := lt_at h1.blk
      obtain ⟨t0, t1, t2⟩ := cells3 bT
      have tl := lt_at bT
      clear hv h1 u1 TX bT
      go_wp2_with fail
      refine Calls.mono BD ?_
      rintro e w2 ⟨rfl, h2, u2⟩
      have bT := u2.get HT.out (show ¬ w1.heap.size = r by omega)
      clear t0 t1 t2 tl
      obtain ⟨t0, t1, t2⟩ := cells3 bT
      have tl := lt_at bT
      have HR2 := hide h2
      have HU2 := hide (HU1.out.then u2 (fun _ _ h => h))
      have HUU := hide (upd_r HR1.out.upd hle u2)
      clear h2 u2 BD bT
      go_wp2_with fail
      go_ret
      exact ⟨va, vc, rfl, HRV.out, ⟨HR2.out, hle, HUU.out, HS.out.rd, HR1.out.pos⟩, HU2.out⟩
    · have b2 : (C != 1) = false := by simpa using h2
      rw [if_neg (fun h => h2 h.2)]
      clear h1 h2
      go_enter Tryz.func76, Tryz.ntmps76
      go_wp2_with fail
      refine Calls.mono TX ?_
      rintro e w1 ⟨va, vc, rfl, hv, h1, u1⟩
      have bT := Vnew1 w1 (.cells #[.slice va v.length vc, .int .i64 R, .int .i64 C] 110)
      have HRV := hide hv
      have HR1 := hide (h1.alloc (.cells #[.slice va v.length vc, .int .i64 R, .int .i64 C] 110))
      have HU1 := hide (u1.alloc (.cells #[.slice va v.length vc, .int .i64 R, .int .i64 C] 110))
      obtain ⟨t0, t1, t2⟩ := cells3 bT
      have tl := lt_at bT
      clear hv h1 u1 TX bT
      go_wp2_with fail
      go_ret
      exact ⟨va, vc, rfl, HRV.out, HR1.out, HU1.out⟩
  · have b1 : (R != 1) = false := by simpa using h1
    rw [if_neg (fun h => h1 h.1)]
    clear h1
    go_enter Tryz.func76, Tryz.ntmps76
    go_wp2_with fail
    refine Calls.mono TX ?_
    rintro e w1 ⟨va, vc, rfl, hv, h1, u1⟩
    have bT := Vnew1 w1 (.cells #[.slice va v.length vc, .int .i64 R, .int .i64 C] 110)
    have HRV := hide hv
    have HR1 := hide (h1.alloc (.cells #[.slice va v.length vc, .int .i64 R, .int .i64 C] 110))
    have HU1 := hide (u1.alloc (.cells #[.slice va v.length vc, .int .i64 R, .int .i64 C] 110))
    obtain ⟨t0, t1, t2⟩ := cells3 bT
    have tl := lt_at bT
    clear hv h1 u1 TX bT
    go_wp2_with fail
    go_ret
    exact ⟨va, vc, rfl, HRV.out, HR1.out, HU1.out⟩
set_option maxHeartbeats 1600000 in
theorem tat_any (w : World) (l : List Vl) (va : Option Addr) (vc R C : Nat) (row col : Int) (hv : RdV w va l) (hRC : R * C = l.length) (hl : l.length ≤ 4096) (_ : R ≤ 4096) (hC : C ≤ 4096) (hr : -1000000000000000 ≤ row ∧ row ≤ 1000000000000000) (hc : -1000000000000000 ≤ col ∧ col ≤ 1000000000000000) :
    Calls Tryz.prog 79 #[.agg #[.slice va l.length vc, .int .i64 (R : Int), .int .i64 (C : Int)], .int .i64 row, .int .i64 col] w fun e w' => e = .returned (atV l R C row col).val ∧ Upd w w' (fun _ => False) := by
  obtain ⟨hr1, hr2⟩ := hr
  obtain ⟨hc1, hc2⟩ := hc
  have bT := block_alloc (Vnew1 w (.cells #[.slice va l.length vc, .int .i64 (R : Int), .int .i64 (C : Int)] 110)) (.cells #[.int .i64 0, .int .i64 0, .string ⟨#[]⟩, .bool false, .int .i64 0] 29)
  have bV := Vnew2 w (.cells #[.slice va l.length vc, .int .i64 (R : Int), .int .i64 (C : Int)] 110) (.cells #[.int .i64 0, .int .i64 0, .string ⟨#[]⟩, .bool false, .int .i64 0] 29)
  unfold atV
  by_cases hb : row < 1 ∨ (R : Int) < row ∨ col < 1 ∨ (C : Int) < col
  · rw [if_pos hb]
    have EA := fun w => E_any w 4
    obtain ⟨ev, hev⟩ : ∃ v, mkE 4 = v := ⟨_, rfl⟩
    rw [hev] at EA ⊢
    obtain ⟨k0, n0, t0, b0, e0⟩ := ev
    unfold Vl.val at EA ⊢
    simp only at EA ⊢
    have HBV := hide bV
    obtain ⟨tc0, tc1, tc2⟩ := cells3 bT
    have tcl := lt_at bT
    clear bT bV hev hv hRC hl
    by_cases g1 : row < 1
    · clear hb
      go_enter Tryz.func79, Tryz.ntmps79
      go_wp2_with fail
      refine Calls.mono (EA _) ?_
      rintro e w1 ⟨rfl, u1⟩
      have bV := u1.get HBV.out id
      obtain ⟨v0, v1, v2, v3, v4⟩ := cells5 bV
      have vl := lt_at bV
      have fv0 := free_at bV 0
      have fv1 := free_at bV 1
      have fv2 := free_at bV 2
      have fv3 := free_at bV 3
      have fv4 := free_at bV 4
      have HB := hide bV
      have HU := hide ((((Upd.refl w (fun _ => False)).alloc _).alloc _).then u1 (fun _ _ => id))
      clear bV u1 EA
      go_wp2_with fail
      (try simp only [Exit.inBlock, Exit.then])
      refine bodyPost_ret (ret_vl rfl _ _ (w.heap.size + 1) ⟨k0, n0, t0, b0, e0⟩ rfl (block5 (x := vZero) HB.out _ _ _ _ _)) rfl ?_
      exact ⟨rfl, upd5 HU.out (by omega) _ _ _ _ _⟩
    · by_cases g2 : (R : Int) < row
      · clear hb
        go_enter Tryz.func79, Tryz.ntmps79
        go_wp2_with fail
        refine Calls.mono (EA _) ?_
        rintro e w1 ⟨rfl, u1⟩
        have bV := u1.get HBV.out id
        obtain ⟨v0, v1, v2, v3, v4⟩ := cells5 bV
        have vl := lt_at bV
        have fv0 := free_at bV 0
        have fv1 := free_at bV 1
        have fv2 := free_at bV 2
        have fv3 := free_at bV 3
        have fv4 := free_at bV 4
        have HB := hide bV
        have HU := hide ((((Upd.refl w (fun _ => False)).alloc _).alloc _).then u1 (fun _ _ => id))
        clear bV u1 EA
        go_wp2_with fail
        (try simp only [Exit.inBlock, Exit.then])
        refine bodyPost_ret (ret_vl rfl _ _ (w.heap.size + 1) ⟨k0, n0, t0, b0, e0⟩ rfl (block5 (x := vZero) HB.out _ _ _ _ _)) rfl ?_
        exact ⟨rfl, upd5 HU.out (by omega) _ _ _ _ _⟩
      · by_cases g3 : col < 1
        · clear hb
          go_enter Tryz.func79, Tryz.ntmps79
          go_wp2_with fail
          refine Calls.mono (EA _) ?_
          rintro e w1 ⟨rfl, u1⟩
          have bV := u1.get HBV.out id
          obtain ⟨v0, v1, v2, v3, v4⟩ := cells5 bV
          have vl := lt_at bV
          have fv0 := free_at bV 0
          have fv1 := free_at bV 1
          have fv2 := free_at bV 2
          have fv3 := free_at bV 3
          have fv4 := free_at bV 4
          have HB := hide bV
          have HU := hide ((((Upd.refl w (fun _ => False)).alloc _).alloc _).then u1 (fun _ _ => id))
          clear bV u1 EA
          go_wp2_with fail
          (try simp only [Exit.inBlock, Exit.then])
          refine bodyPost_ret (ret_vl rfl _ _ (w.heap.size + 1) ⟨k0, n0, t0, b0, e0⟩ rfl (block5 (x := vZero) HB.out _ _ _ _ _)) rfl ?_
          exact ⟨rfl, upd5 HU.out (by omega) _ _ _ _ _⟩
        · have g4 : (C : Int) < col := by omega
          clear hb
          go_enter Tryz.func79, Tryz.ntmps79
          go_wp2_with fail
          refine Calls.mono (EA _) ?_
          rintro e w1 ⟨rfl, u1⟩
          have bV := u1.get HBV.out id
          obtain ⟨v0, v1, v2, v3, v4⟩ := cells5 bV
          have vl := lt_at bV
          have fv0 := free_at bV 0
          have fv1 := free_at bV 1
          have fv2 := free_at bV 2
          have fv3 := free_at bV 3
          have fv4 := free_at bV 4
          have HB := hide bV
          have HU := hide ((((Upd.refl w (fun _ => False)).alloc _).alloc _).then u1 (fun _ _ => id))
          clear bV u1 EA
          go_wp2_with fail
          (try simp only [Exit.inBlock, Exit.then])
          refine bodyPost_ret (ret_vl rfl _ _ (w.heap.size + 1) ⟨k0, n0, t0, b0, e0⟩ rfl (block5 (x := vZero) HB.out _ _ _ _ _)) rfl ?_
          exact ⟨rfl, upd5 HU.out (by omega) _ _ _ _ _⟩
  · rw [if_neg hb]
    obtain ⟨q, rfl⟩ : ∃ q : Nat, row = q + 1 := ⟨(row - 1).toNat, by omega⟩
    obtain ⟨z, rfl⟩ : ∃ z : Nat, col = z + 1 := ⟨(col - 1).toNat, by omega⟩
    have hqR : q < R := by omega
    have hzC : z < C := by omega
    have hj : q * C + z < l.length := by
      have : (q + 1) * C ≤ R * C := Nat.mul_le_mul_right _ hqR
      rw [Nat.add_mul] at this
      omega
    have ej : (((q : Int) + 1 - 1) * (C : Int) + ((z : Int) + 1) - 1).toNat = q * C + z := by
      have : ((q : Int) + 1 - 1) * (C : Int) + ((z : Int) + 1) - 1 = ((q * C + z : Nat) : Int) := by simp; omega
      rw [this]; rfl
    rw [ej]
    obtain ⟨x, hx⟩ : ∃ x, l[q * C + z]? = some x := ⟨_, List.getElem?_eq_getElem hj⟩
    have ex : l.getD (q * C + z) vZero = x := by rw [List.getD_eq_getElem?_getD, hx]; rfl
    rw [ex]
    obtain ⟨g, off, rfl, hg, x0, x1, x2, x3, x4⟩ := rdV_at hv hx
    obtain ⟨rw', hrw⟩ : ∃ t : Int, (q : Int) + 1 = t := ⟨_, rfl⟩
    obtain ⟨cl, hcl⟩ : ∃ t : Int, (z : Int) + 1 = t := ⟨_, rfl⟩
    obtain ⟨M, hM⟩ : ∃ M : Nat, q * C = M := ⟨_, rfl⟩
    obtain ⟨J, hJ⟩ : ∃ J : Nat, q * C + z = J := ⟨_, rfl⟩
    obtain ⟨S, hS⟩ : ∃ S : Int, (M : Int) + cl = S := ⟨_, rfl⟩
    rw [hJ] at x0 x1 x2 x3 x4 hj
    rw [hM] at hJ
    have w1 : IntKind.i64.wrap (rw' - 1) = (q : Int) := by rw [← hrw, Int.add_sub_cancel]; exact IntWalk.i64_in _ (by omega)
    have w2 : IntKind.i64.wrap ((q : Int) * (C : Int)) = (M : Int) := by
      have : (q : Int) * (C : Int) = (M : Int) := by rw [← hM]; simp
      rw [this]; exact IntWalk.i64_in _ (by omega)
    have w3 : IntKind.i64.wrap ((M : Int) + cl) = S := by rw [hS]; exact IntWalk.i64_in _ (by omega)
    have w4 : IntKind.i64.wrap (S - 1) = (J : Int) := by
      have : S - 1 = (J : Int) := by omega
      rw [this]; exact IntWalk.i64_in _ (by omega)
    have g1 : ¬ rw' < 1 := by omega
    have g2 : ¬ (R : Int) < rw' := by omega
    have g3 : ¬ cl < 1 := by omega
    have g4 : ¬ (C : Int) < cl := by omega
    have hJ0 : (0 : Int) ≤ (J : Int) := by omega
    have hJ1 : (J : Int) < (l.length : Int) := by omega
    rw [hrw, hcl]
    have uA : Upd w ((w.alloc (.cells #[.slice (some ⟨g, off, none⟩) l.length vc, .int .i64 (R : Int), .int .i64 (C : Int)] 110)).alloc (.cells #[.int .i64 0, .int .i64 0, .string ⟨#[]⟩, .bool false, .int .i64 0] 29)) (fun _ => False) := ((Upd.refl w _).alloc _).alloc _
    have y0 := (uA.cell g _ hg id).trans x0
    have y1 := (uA.cell g _ hg id).trans x1
    have y2 := (uA.cell g _ hg id).trans x2
    have y3 := (uA.cell g _ hg id).trans x3
    have y4 := (uA.cell g _ hg id).trans x4
    have gl := Nat.lt_of_lt_of_le hg uA.size
    have HU := hide uA
    obtain ⟨tc0, tc1, tc2⟩ := cells3 bT
    have tcl := lt_at bT
    obtain ⟨v0, v1, v2, v3, v4⟩ := cells5 bV
    have vl := lt_at bV
    have fv0 := free_at bV 0
    have fv1 := free_at bV 1
    have fv2 := free_at bV 2
    have fv3 := free_at bV 3
    have fv4 := free_at bV 4
    have HB := hide bV
    clear bT bV uA hb hx ex ej hv x0 x1 x2 x3 x4 hrw hcl hM hJ hS hRC hr1 hr2 hc1 hc2 hqR hzC
    obtain ⟨xk, xn, xt, xb, xf⟩ := x
    unfold Vl.val
    simp only at y0 y1 y2 y3 y4 ⊢
    go_enter Tryz.func79, Tryz.ntmps79
    go_wp2_with fail
    (try simp only [Exit.inBlock, Exit.then])
    refine bodyPost_ret (ret_vl rfl _ _ (w.heap.size + 1) ⟨xk, xn, xt, xb, xf⟩ rfl (Vnew2 w _ _)) rfl ?_
    exact ⟨rfl, ((Upd.refl w _).alloc _).alloc _⟩
end Go.Proofs.YtdjpkkgcoainhaaGreatDoor
/- Rows of values that are owned: their cells; make, append (plain). -/
set_option maxRecDepth 100000
namespace Go.Proofs.YtdjpkkgcoainhaaGreatDoor
open Go.RowKit Go.Lat Go.Lib

def Vl.cells (x : Vl) : List Value := [.int .i64 x.k, .int .i64 x.n, enS x.t, .bool x.b, .int .i64 x.f]
def vlCells (l : List Vl) : List Value := l.flatMap Vl.cells
theorem vlCells_app (a b : List Vl) : vlCells (a ++ b) = vlCells a ++ vlCells b := by simp [vlCells]
theorem vlCells_one (x : Vl) : vlCells [x] = x.cells := by simp [vlCells]
theorem vlCells_len (a : List Vl) : (vlCells a).length = a.length * 5 := by
  induction a with
  | nil => rfl
  | cons x l ih => simp [vlCells, Vl.cells] at *; omega
theorem vlCells_get (l : List Vl) (j : Nat) (x : Vl) (h : l[j]? = some x) (t : Nat) (ht : t < 5) : (vlCells l)[j * 5 + t]? = x.cells[t]? := by
  induction l generalizing j with
  | nil => simp at h
  | cons y l ih =>
    have e1 : vlCells (y :: l) = y.cells ++ vlCells l := by simp [vlCells]
    have e2 : y.cells.length = 5 := rfl
    cases j with
    | zero =>
      simp at h; subst h
      rw [e1, Nat.zero_mul, Nat.zero_add, List.getElem?_append_left (by omega)]
    | succ j =>
      rw [e1, List.getElem?_append_right (by omega)]
      have := ih j (by simpa using h)
      rw [← this]
      congr 1
      omega
theorem vl_one (x : Vl) : ∀ u ∈ x.cells, u.oneCell' = true := by simp [Vl.cells, Value.oneCell']
theorem rdV_of_rw {w : World} {T : TypeId} {a : Option Addr} {c : Nat} {l : List Vl} (h : Rw w T 5 (.slice a l.length c) l.length (vlCells l)) : RdV w a l := fun i x hx => by
  have hi := (List.getElem?_eq_some_iff.1 hx).1
  obtain ⟨g, off, cap, hv, hg, hc⟩ := Rw.pos h (by omega)
  simp at hv
  have k := fun t ht => vlCells_get l i x hx t ht
  exact ⟨g, off, hv.1, hg, by simpa using hc _ _ (k 0 (by omega)), hc _ _ (k 1 (by omega)), hc _ _ (k 2 (by omega)), hc _ _ (k 3 (by omega)), hc _ _ (k 4 (by omega))⟩
theorem Tryz.infoVl : (Tryz.prog.info? 29).map (fun i => (i.zero, i.size, i.bytes)) = some (some (.agg #[.int .i64 0, .int .i64 0, .string ⟨#[]⟩, .bool false, .int .i64 0]), 5, 48) := by kernel_rfl
theorem info_p {P : Program} {t : TypeId} {z : Option Value} {s b : Nat} (h : (P.info? t).map (fun i => (i.zero, i.size, i.bytes)) = some (z, s, b)) : ∃ i, P.info? t = some i ∧ i.zero = z ∧ i.size = s ∧ i.bytes = b := by
  cases hi : P.info? t with
  | none => rw [hi] at h; simp at h
  | some i =>
    rw [hi] at h
    simp at h
    exact ⟨i, rfl, h.1, h.2.1, h.2.2⟩
theorem turnL_take {R C : Nat} {l : List Vl} {r c : Nat} {x : Vl} (hr : r < R) (hc : c < C) (hx : l[r * C + c]? = some x) : (turnL R C l).take (c * R + r + 1) = (turnL R C l).take (c * R + r) ++ [x] := by
  have h1 : c * R + r < R * C := by
    have : (c + 1) * R ≤ C * R := Nat.mul_le_mul_right _ hc
    rw [Nat.add_mul, Nat.mul_comm C R] at this
    omega
  have h2 := turnL_get (l := l) hr hc
  rw [List.getD_eq_getElem?_getD, List.getElem?_eq_getElem (by rw [turnL_len]; exact h1), List.getD_eq_getElem?_getD, hx] at h2
  rw [List.take_add_one, List.getElem?_eq_getElem (by rw [turnL_len]; exact h1)]
  simp only [Option.getD_some] at h2
  rw [h2]
  rfl
end Go.Proofs.YtdjpkkgcoainhaaGreatDoor
