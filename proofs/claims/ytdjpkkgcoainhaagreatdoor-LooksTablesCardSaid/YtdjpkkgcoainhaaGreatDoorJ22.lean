/- The law's n, table, ask; sums.One. -/
import Derived.Test.YtdjpkkgcoainhaaGreatDoorJ21
/- The law's n, table, ask; sums.One. -/
set_option maxRecDepth 100000
namespace Go.Proofs.YtdjpkkgcoainhaaGreatDoor
open Go.RowKit Go.Lat Go.Lib

theorem lawn_any (w : World) (k : Int) (h1 : -1000000 ≤ k) (h2 : k ≤ 1000000) : Calls Tryz.prog 23 #[.int .i64 k] w fun e w' => e = .returned (mkN (k * 10000)).val ∧ Upd w w' (fun _ => False) := by
  obtain ⟨M, hM⟩ : ∃ M, k * 10000 = M := ⟨_, rfl⟩
  have wM : IntKind.i64.wrap (k * 10000) = M := by rw [hM]; exact IntWalk.i64_in _ (by omega)
  have NA := fun w => N_any w M
  rw [hM]
  obtain ⟨v, hv⟩ : ∃ v, mkN M = v := ⟨_, rfl⟩
  rw [hv] at NA ⊢
  obtain ⟨k0, n0, t0, b0, e0⟩ := v
  unfold Vl.val at NA ⊢
  simp only at NA ⊢
  clear hM hv h1 h2
  go_enter Tryz.func23, Tryz.ntmps23
  go_wp2_with fail
  refine Calls.mono (NA _) ?_
  rintro e w2 ⟨rfl, u2⟩
  have bX2 := u2.get (Vnew1 w (.cells vZero.cs 29)) id
  obtain ⟨c0, c1, c2, c3, c4⟩ := cells5 bX2
  have cl := lt_at bX2
  have fc0 := free_at bX2 0
  have fc1 := free_at bX2 1
  have fc2 := free_at bX2 2
  have fc3 := free_at bX2 3
  have fc4 := free_at bX2 4
  have HX2 := hide bX2
  have HU2 := hide u2
  clear bX2 u2
  go_wp2_with fail
  (try simp only [Exit.inBlock, Exit.then])
  refine bodyPost_ret (ret_vl rfl _ _ w.heap.size ⟨k0, n0, t0, b0, e0⟩ rfl (block5 HX2.out _ _ _ _ _)) rfl ?_
  exact ⟨rfl, upd5 (((Upd.refl w _).alloc _).then HU2.out (fun _ _ => id)) (Nat.le_refl _) _ _ _ _ _⟩
theorem ret_ar {fn : Func} {p : Tmp} (h : fn.results = #[.cell p 67]) (tmps : Array Value) (W : World) (g : Nat) (v0 v1 v2 : Value) (hp : tmps.getD p undef = .pointer (some ⟨g, 0, none⟩)) (hg : W.heap[g]? = some (.cells #[v0, v1, v2] 67 (0, 0))) :
    (results fn tmps).run Tryz.prog W = .ok (.agg #[v0, v1, v2]) W :=
  results_cell_row h tmps W g 67 #[v0, v1, v2] (0, 0) _ hp hg Tryz.underlying67 rfl Tryz.infoArg
theorem lawtable_any (w : World) (c : Int) (va : Option Addr) (n vc : Nat) : Calls Tryz.prog 21 #[.int .i64 c, .slice va n vc] w fun e w' => e = .returned (.agg #[.slice va n vc, .int .i64 c, .bool true]) ∧ Upd w w' (fun _ => False) := by
  go_enter Tryz.func21, Tryz.ntmps21
  go_wp2_with fail
  (try simp only [Exit.inBlock, Exit.then])
  refine bodyPost_ret (ret_ar rfl _ _ w.heap.size _ _ _ rfl (Vnew1 w _)) rfl ?_
  exact ⟨rfl, (Upd.refl w _).alloc _⟩
theorem rdV_one {w : World} {g : Nat} {x : Vl} {T : TypeId} (h : w.heap[g]? = some (.cells #[.int .i64 x.k, .int .i64 x.n, enS x.t, .bool x.b, .int .i64 x.f] T (0, 0))) : RdV w (some ⟨g, 0, none⟩) [x] := fun i y hy => by
  cases i with
  | zero =>
    simp at hy
    subst hy
    obtain ⟨c0, c1, c2, c3, c4⟩ := cells5 h
    exact ⟨g, 0, rfl, lt_at h, by simpa using c0, by simpa using c1, by simpa using c2, by simpa using c3, by simpa using c4⟩
  | succ i => simp at hy
theorem LVnew3 (w : World) (A B C : Obj) : (((w.alloc A).alloc B).alloc C).heap[w.heap.size + 2]? = some C := by
  have := Vnew2 (w.alloc A) B C
  simpa using this
theorem One_any (w : World) (x : Vl) : Calls Tryz.prog 22 #[x.val] w fun e w' => ∃ g, e = .returned (.agg #[.slice (some ⟨g, 0, none⟩) 1 1, .int .i64 0, .bool false]) ∧ RdV w' (some ⟨g, 0, none⟩) [x] ∧ Upd w w' (fun _ => False) := by
  obtain ⟨xk, xn, xt, xb, xf⟩ := x
  unfold Vl.val
  simp only
  go_enter Tryz.func22, Tryz.ntmps22
  go_wp2_with fail
  (try simp only [Exit.inBlock, Exit.then])
  refine bodyPost_ret (ret_ar rfl _ _ (w.heap.size + 1) _ _ _ rfl (block_alloc (Vnew2 w _ _) _)) rfl ?_
  exact ⟨w.heap.size + 2, rfl, rdV_one (x := ⟨xk, xn, xt, xb, xf⟩) (LVnew3 w _ _ _), (((Upd.refl w _).alloc _).alloc _).alloc _⟩
set_option maxHeartbeats 1600000 in
theorem ask_any (w : World) (n : List UInt8) (p : Option Addr) (pc : Nat) (aa : List Ar) (hr : RdA w p aa) (ho : oksA aa) (hl : aa.length ≤ 1000) (hpc : aa.length ≤ pc) :
    Calls Tryz.prog 20 #[enS n, .slice p aa.length pc] w fun e w' => e = .returned (if (callP n aa).2 then (callP n aa).1 else mkE 5).val ∧ Upd w w' (fun _ => False) := by
  have CA := fun W h => Call_any W n p pc aa h ho hl hpc
  obtain ⟨⟨⟨yk, yn, yt, yb, yf⟩, ok⟩, hy⟩ : ∃ y, callP n aa = y := ⟨_, rfl⟩
  rw [hy] at CA ⊢
  have HU0 : Hid (Upd w (w.alloc (.cells #[.int .i64 0, .int .i64 0, .string ⟨#[]⟩, .bool false, .int .i64 0] 29)) (fun _ => False)) := hide ((Upd.refl w _).alloc _)
  have HV0 := hide (Vnew1 w (.cells #[.int .i64 0, .int .i64 0, .string ⟨#[]⟩, .bool false, .int .i64 0] 29))
  have CX := CA _ (hr.upd HU0.out)
  unfold Vl.val at CX
  simp only at CX ⊢
  clear hy CA hr ho
  cases ok with
  | true =>
    simp only [if_true]
    unfold Vl.val
    simp only
    go_enter Tryz.func20, Tryz.ntmps20
    go_wp2_with fail
    refine Calls.mono CX ?_
    rintro e w1 ⟨rfl, u1⟩
    have bV := block_alloc (u1.get HV0.out id) (.cells #[.int .i64 yk, .int .i64 yn, enS yt, .bool yb, .int .i64 yf] 29)
    have bY := Vnew1 w1 (.cells #[.int .i64 yk, .int .i64 yn, enS yt, .bool yb, .int .i64 yf] 29)
    have HU1 := hide ((HU0.out.then u1 (fun _ _ => id)).alloc (.cells #[.int .i64 yk, .int .i64 yn, enS yt, .bool yb, .int .i64 yf] 29))
    obtain ⟨y0, y1, y2, y3, y4⟩ := cells5 bY
    have yl := lt_at bY
    obtain ⟨v0, v1, v2, v3, v4⟩ := cells5 bV
    have vl := lt_at bV
    have fv0 := free_at bV 0
    have fv1 := free_at bV 1
    have fv2 := free_at bV 2
    have fv3 := free_at bV 3
    have fv4 := free_at bV 4
    have HBV := hide bV
    clear bV bY u1 CX
    go_wp2_with fail
    (try simp only [Exit.inBlock, Exit.then])
    refine bodyPost_ret (ret_vl rfl _ _ w.heap.size ⟨yk, yn, yt, yb, yf⟩ rfl (block5 (x := vZero) HBV.out _ _ _ _ _)) rfl ?_
    exact ⟨rfl, upd5 HU1.out (Nat.le_refl _) _ _ _ _ _⟩
  | false =>
    simp only [Bool.false_eq_true, if_false]
    have EA := fun w => E_any w 5
    obtain ⟨⟨k0, n0, t0, b0, e0'⟩, hev⟩ : ∃ v, mkE 5 = v := ⟨_, rfl⟩
    rw [hev] at EA ⊢
    unfold Vl.val at EA ⊢
    simp only at EA ⊢
    clear hev
    go_enter Tryz.func20, Tryz.ntmps20
    go_wp2_with fail
    refine Calls.mono CX ?_
    rintro e w1 ⟨rfl, u1⟩
    have HV1 := hide (block_alloc (u1.get HV0.out id) (.cells #[.int .i64 yk, .int .i64 yn, enS yt, .bool yb, .int .i64 yf] 29))
    have HU1 := hide ((HU0.out.then u1 (fun _ _ => id)).alloc (.cells #[.int .i64 yk, .int .i64 yn, enS yt, .bool yb, .int .i64 yf] 29))
    clear u1 CX
    go_wp2_with fail
    refine Calls.mono (EA _) ?_
    rintro e w7 ⟨rfl, u7⟩
    have bV := u7.get HV1.out id
    have HU7 := hide (HU1.out.then u7 (fun _ _ => id))
    obtain ⟨v0, v1, v2, v3, v4⟩ := cells5 bV
    have vl := lt_at bV
    have fv0 := free_at bV 0
    have fv1 := free_at bV 1
    have fv2 := free_at bV 2
    have fv3 := free_at bV 3
    have fv4 := free_at bV 4
    have HBV := hide bV
    clear bV u7 EA
    go_wp2_with fail
    (try simp only [Exit.inBlock, Exit.then])
    refine bodyPost_ret (ret_vl rfl _ _ w.heap.size ⟨k0, n0, t0, b0, e0'⟩ rfl (block5 (x := vZero) HBV.out _ _ _ _ _)) rfl ?_
    exact ⟨rfl, upd5 HU7.out (Nat.le_refl _) _ _ _ _ _⟩
end Go.Proofs.YtdjpkkgcoainhaaGreatDoor
/- What looks.Call tells of counts, of what the document fixes (plain). -/
set_option maxRecDepth 100000
namespace Go.Proofs.YtdjpkkgcoainhaaGreatDoor
open Go.RowKit Go.Lat Go.Lib

def oneA (x : Vl) : Ar := ⟨[x], 0, false⟩
def cntW (k : Int) : Vl := ⟨1, k * 10000, [], false, 0⟩
theorem mkN_num {k : Int} (h1 : -1000000 ≤ k) (h2 : k ≤ 1000000) : mkN (k * 10000) = cntW k := by
  unfold mkN cntW
  rw [if_pos (okNum_small (by omega) (by omega))]
theorem good_num {k : Int} (h1 : -1000000 ≤ k) (h2 : k ≤ 1000000) : goodV (cntW k) = true := by rw [← mkN_num h1 h2]; exact good_mkN _
theorem good_one (x : Vl) : goodA (oneA x) = true := by unfold goodA oneA; simp
theorem fault_num {k : Int} (h1 : -1000000 ≤ k) (h2 : k ≤ 1000000) : faultA (oneA (cntW k)) 110 = 0 := by
  unfold faultA oneA
  simp only [Bool.false_eq_true, if_false, List.getD_cons_zero]
  have e : numF (cntW k) = (k * 10000, 0) := numF_n (okNum_small (by omega) (by omega))
  rw [e]
  simp
theorem num_whole {k : Int} (h1 : -1000000 ≤ k) (h2 : k ≤ 1000000) : wholeF (numF (cntW k)).1 = k := by
  have e : numF (cntW k) = (k * 10000, 0) := numF_n (okNum_small (by omega) (by omega))
  rw [e]
  exact wholeF_mul (by omega) (by omega)
/-- INDEX of a table and two counts. -/
theorem call_index {t : Ar} (hg : goodA t = true) {r c : Int} (hr1 : -1000000 ≤ r) (hr2 : r ≤ 1000000) (hc1 : -1000000 ≤ c) (hc2 : c ≤ 1000000) :
    callP nINDEX [t, oneA (cntW r), oneA (cntW c)] = (soundV (atV t.v (rowsA t) (colsA t) r c), true) := by
  have et : takesF nINDEX = (2, 3) := by decide
  rw [callP_fin (by rw [et]; decide) (by rw [et]; simp) (by simp [hg, good_one])]
  have e : toldP nINDEX [t, oneA (cntW r), oneA (cntW c)] = indexP [t, oneA (cntW r), oneA (cntW c)] := rfl
  rw [e]
  have t3 : ∀ f o, cntV [t, oneA (cntW r), oneA (cntW c)] (1, f) o = r := fun f o => by
    rw [cntV_at (a := oneA (cntW r)) rfl]
    simp only [oneA, Bool.false_eq_true, if_false, List.getD_cons_zero]
    exact num_whole hr1 hr2
  have t4 : ∀ f, cntS [t, oneA (cntW r), oneA (cntW c)] (1, f) = (2, badF f 0) := fun f => by rw [cnt_at (a := oneA (cntW r)) rfl, fault_num hr1 hr2]
  have t5 : ∀ f o, cntV [t, oneA (cntW r), oneA (cntW c)] (2, f) o = c := fun f o => by
    rw [cntV_at (a := oneA (cntW c)) rfl]
    simp only [oneA, Bool.false_eq_true, if_false, List.getD_cons_zero]
    exact num_whole hc1 hc2
  have t6 : ∀ f, cntS [t, oneA (cntW r), oneA (cntW c)] (2, f) = (3, badF f 0) := fun f => by rw [cnt_at (a := oneA (cntW c)) rfl, fault_num hc1 hc2]
  have t7 : ∀ f, sglB [t, oneA (cntW r), oneA (cntW c)] (2, f) = true := fun f => by rw [sglB_at (a := oneA (cntW c)) rfl]; rfl
  unfold finP indexP
  simp only [t3, t4, t5, t6, t7, badF0, argA, List.getD_cons_zero]
  rfl
/-- ROWS, COLUMNS of a table. -/
theorem call_rows {t : Ar} (hg : goodA t = true) : callP nROWS [t] = (mkN (rowsA t * 10000), true) := by
  have et : takesF nROWS = (1, 1) := by decide
  rw [callP_fin (by rw [et]; decide) (by rw [et]; simp) (by simp [hg])]
  have e : toldP nROWS [t] = (mkN (rowsA t * 10000), 0) := rfl
  rw [e]
  unfold finP
  rw [if_neg (by simp)]
  simp only [sound_mkN]
theorem call_cols {t : Ar} (hg : goodA t = true) : callP nCOLUMNS [t] = (mkN (colsA t * 10000), true) := by
  have et : takesF nCOLUMNS = (1, 1) := by decide
  rw [callP_fin (by rw [et]; decide) (by rw [et]; simp) (by simp [hg])]
  have e : toldP nCOLUMNS [t] = (mkN (colsA t * 10000), 0) := rfl
  rw [e]
  unfold finP
  rw [if_neg (by simp)]
  simp only [sound_mkN]
/-- MATCH. -/
theorem call_match2 {x : Vl} {l : Ar} (hg : goodA l = true) (hx : goodV x = true) (h4 : x.k ≠ 4) (hf : faultA l 108 = 0) : callP nMATCH [oneA x, l] = (if placeV 0 x l.v = 0 then mkE 6 else mkN ((placeV 0 x l.v : Nat) * 10000), true) := by
  have et : takesF nMATCH = (2, 3) := by decide
  rw [callP_fin (by rw [et]; decide) (by rw [et]; simp) (by simp [hg, good_one])]
  have e : toldP nMATCH [oneA x, l] = matchP [oneA x, l] := rfl
  have hfx : faultA (oneA x) 120 = 0 := by
    unfold faultA oneA
    simp only [if_true, Bool.false_eq_true, if_false, List.getD_cons_zero]
    rw [sound_good hx, good_f0 hx h4]
  have t1 : ∀ f, thgS [oneA x, l] (0, f) = (1, badF f 0) := fun f => by rw [thg_at (a := oneA x) rfl, hfx]
  have t2 : ∀ f, lstS [oneA x, l] (1, f) = (2, badF f 0) := fun f => by rw [lst_at (a := l) rfl, hf]
  have t3 : ∀ f o, cntV [oneA x, l] (2, f) o = o := fun f o => cntV_no rfl
  have t4 : ∀ f, cntS [oneA x, l] (2, f) = (2, f) := fun f => cnt_no rfl
  have t5 : sglV [oneA x, l] (0, 0) = x := by rw [sglV_at (a := oneA x) rfl]; rfl
  rw [e]
  unfold finP matchP
  simp only [t1, t2, t3, t4, t5, badF0]
  have e2 : argA [oneA x, l] 1 = l := rfl
  have e3 : wayI 0 = 0 := by decide
  rw [e2, e3]
  simp only [ne_eq, not_true_eq_false, if_false]
  split
  · rw [sound_mkE]
  · rw [sound_mkN]
theorem call_match3 {x : Vl} {l : Ar} (hg : goodA l = true) (hx : goodV x = true) (h4 : x.k ≠ 4) (hf : faultA l 108 = 0) {m : Int} (hm1 : -1000000 ≤ m) (hm2 : m ≤ 1000000) : callP nMATCH [oneA x, l, oneA (cntW m)] = (if placeV (wayI m) x l.v = 0 then mkE 6 else mkN ((placeV (wayI m) x l.v : Nat) * 10000), true) := by
  have et : takesF nMATCH = (2, 3) := by decide
  rw [callP_fin (by rw [et]; decide) (by rw [et]; simp) (by simp [hg, good_one])]
  have e : toldP nMATCH [oneA x, l, oneA (cntW m)] = matchP [oneA x, l, oneA (cntW m)] := rfl
  have hfx : faultA (oneA x) 120 = 0 := by
    unfold faultA oneA
    simp only [if_true, Bool.false_eq_true, if_false, List.getD_cons_zero]
    rw [sound_good hx, good_f0 hx h4]
  have t1 : ∀ f, thgS [oneA x, l, oneA (cntW m)] (0, f) = (1, badF f 0) := fun f => by rw [thg_at (a := oneA x) rfl, hfx]
  have t2 : ∀ f, lstS [oneA x, l, oneA (cntW m)] (1, f) = (2, badF f 0) := fun f => by rw [lst_at (a := l) rfl, hf]
  have t3 : ∀ f o, cntV [oneA x, l, oneA (cntW m)] (2, f) o = m := fun f o => by
    rw [cntV_at (a := oneA (cntW m)) rfl]
    simp only [oneA, Bool.false_eq_true, if_false, List.getD_cons_zero]
    exact num_whole hm1 hm2
  have t4 : ∀ f, cntS [oneA x, l, oneA (cntW m)] (2, f) = (3, badF f 0) := fun f => by rw [cnt_at (a := oneA (cntW m)) rfl, fault_num hm1 hm2]
  have t5 : sglV [oneA x, l, oneA (cntW m)] (0, 0) = x := by rw [sglV_at (a := oneA x) rfl]; rfl
  rw [e]
  unfold finP matchP
  simp only [t1, t2, t3, t4, t5, badF0]
  have e2 : argA [oneA x, l, oneA (cntW m)] 1 = l := rfl
  rw [e2]
  simp only [ne_eq, not_true_eq_false, if_false]
  split
  · rw [sound_mkE]
  · rw [sound_mkN]
/-- VLOOKUP, HLOOKUP of counts. -/
theorem call_vh (ac : Bool) {x u : Ar} (hg : goodA u = true) (hgx : goodA x = true) {k m : Int} (hk1 : -1000000 ≤ k) (hk2 : k ≤ 1000000) (hm1 : -1000000 ≤ m) (hm2 : m ≤ 1000000) :
    callP (nVH ac) [x, u, oneA (cntW k), oneA (cntW m)] = (if faultA x 120 ≠ 0 then mkE (faultA x 120) else
      (if k < 1 ∨ (if ac = true then rowsA u else colsA u) < k then mkE 4 else if placeV (wayI m) (x.v.getD 0 vZero) (firstL ac (colsA u).toNat u.v) = 0 then mkE 6 else if ac = true then atR u k (placeV (wayI m) (x.v.getD 0 vZero) (firstL ac (colsA u).toNat u.v)) else atR u (placeV (wayI m) (x.v.getD 0 vZero) (firstL ac (colsA u).toNat u.v)) k), true) := by
  have et : takesF (nVH ac) = (3, 4) := by cases ac <;> decide
  rw [callP_fin (by rw [et]; decide) (by rw [et]; simp) (by simp [hg, good_one, hgx])]
  have tp : toldP (nVH ac) [x, u, oneA (cntW k), oneA (cntW m)] = lookupP [x, u, oneA (cntW k), oneA (cntW m)] ac := by cases ac <;> rfl
  rw [tp, lookup4 _ _ _ _ hg]
  unfold finR
  have f1 : faultA (oneA (cntW k)) 110 = 0 := fault_num hk1 hk2
  have f2 : faultA (oneA (cntW m)) 78 = 0 := by rw [fault_N]; exact fault_num hm1 hm2
  have w1 : wholeA [x, u, oneA (cntW k), oneA (cntW m)] 2 0 = k := by
    show wholeF (numF (cntW k)).1 = k
    exact num_whole hk1 hk2
  have w2 : wholeA [x, u, oneA (cntW k), oneA (cntW m)] 3 0 = m := by
    show wholeF (numF (cntW m)).1 = m
    exact num_whole hm1 hm2
  have a0 : argA [x, u, oneA (cntW k), oneA (cntW m)] 0 = x := rfl
  have a1 : argA [x, u, oneA (cntW k), oneA (cntW m)] 1 = u := rfl
  rw [told_vh, sh_vh, w1, w2, a0, a1]
  simp only [faultL, fault_t, f1, f2]
  by_cases hx : faultA x 120 = 0
  · simp only [hx, ne_eq, not_true_eq_false, if_false]
  · simp only [hx, ne_eq, not_false_eq_true, if_true]
theorem call_v3 {x u : Ar} (hg : goodA u = true) (hgx : goodA x = true) {k : Int} (hk1 : -1000000 ≤ k) (hk2 : k ≤ 1000000) :
    callP nVLOOKUP [x, u, oneA (cntW k)] = (if faultA x 120 ≠ 0 then mkE (faultA x 120) else
      (if k < 1 ∨ colsA u < k then mkE 4 else if placeV 0 (x.v.getD 0 vZero) (firstL false (colsA u).toNat u.v) = 0 then mkE 6 else atR u (placeV 0 (x.v.getD 0 vZero) (firstL false (colsA u).toNat u.v)) k), true) := by
  have et : takesF nVLOOKUP = (3, 4) := by decide
  rw [callP_fin (by rw [et]; decide) (by rw [et]; simp) (by simp [hg, good_one, hgx])]
  have tp : toldP nVLOOKUP [x, u, oneA (cntW k)] = lookupP [x, u, oneA (cntW k)] false := rfl
  have en : nVLOOKUP = nVH false := rfl
  rw [tp, lookup3 _ _ _ hg, ← en]
  unfold finR
  have f1 : faultA (oneA (cntW k)) 110 = 0 := fault_num hk1 hk2
  have w1 : wholeA [x, u, oneA (cntW k)] 2 0 = k := by
    show wholeF (numF (cntW k)).1 = k
    exact num_whole hk1 hk2
  have w2 : wholeA [x, u, oneA (cntW k)] 3 0 = 0 := rfl
  have a0 : argA [x, u, oneA (cntW k)] 0 = x := rfl
  have a1 : argA [x, u, oneA (cntW k)] 1 = u := rfl
  have e3 : wayI 0 = 0 := by decide
  rw [told_v, sh_v, w1, w2, a0, a1, e3]
  simp only [faultL, fault_t, f1, Bool.false_eq_true, if_false]
  by_cases hx : faultA x 120 = 0
  · simp only [hx, ne_eq, not_true_eq_false, if_false]
  · simp only [hx, ne_eq, not_false_eq_true, if_true]
def vA : Vl := ⟨2, 0, [97], false, 0⟩
def vB : Vl := ⟨2, 0, [98], false, 0⟩
def wakeL : Ar := ⟨[cntW 1, cntW 2, cntW 3], 1, true⟩
def wakeT : Ar := ⟨[vA, cntW 1, vB, cntW 2], 2, true⟩
def v25 : Vl := ⟨1, 25000, [], false, 0⟩
theorem wk1 : callP nMATCH [oneA (cntW 2), wakeL] = (cntW 2, true) := by
  rw [call_match2 (by decide) (by decide) (by decide) (by decide)]
  have e : placeV 0 (cntW 2) wakeL.v = 2 := by decide
  rw [e]
  rfl
theorem wk2 : callP nMATCH [oneA v25, wakeL, oneA (cntW 1)] = (cntW 2, true) := by
  rw [call_match3 (by decide) (by decide) (by decide) (by decide) (by decide) (by decide)]
  have e : placeV (wayI 1) v25 wakeL.v = 2 := by decide
  rw [e]
  rfl
theorem wk3 : callP nVLOOKUP [oneA vB, wakeT, oneA (cntW 2)] = (cntW 2, true) := by
  rw [call_v3 (by decide) (by decide) (by decide) (by decide)]
  have e0 : faultA (oneA vB) 120 = 0 := by rfl
  have e : placeV 0 ((oneA vB).v.getD 0 vZero) (firstL false (colsA wakeT).toNat wakeT.v) = 2 := by decide
  rw [e0, e]
  rfl
theorem wk4 : callP nROWS [wakeT] = (cntW 2, true) := by
  rw [call_rows (by decide)]
  rfl
end Go.Proofs.YtdjpkkgcoainhaaGreatDoor
/- The law's wakes. -/
set_option maxRecDepth 100000
namespace Go.Proofs.YtdjpkkgcoainhaaGreatDoor
open Go.RowKit Go.Lat Go.Lib

theorem rdA_of {w : World} {g : Nat} {T : TypeId} {l : List (Ar × Option Addr × Nat)} (h : w.heap[g]? = some (.cells (l.flatMap fun x => [Value.slice x.2.1 x.1.v.length x.2.2, Value.int .i64 x.1.c, Value.bool x.1.w]).toArray T (0, 0))) (hv : ∀ x ∈ l, RdV w x.2.1 x.1.v) : RdA w (some ⟨g, 0, none⟩) (l.map (·.1)) := fun i a ha => by
  rw [List.getElem?_map] at ha
  cases hl : l[i]? with
  | none => rw [hl] at ha; simp at ha
  | some x =>
    rw [hl] at ha
    simp at ha
    subst ha
    have key : ∀ (m : List (Ar × Option Addr × Nat)) (i : Nat) (x : Ar × Option Addr × Nat), m[i]? = some x → ∀ t, t < 3 → (m.flatMap fun x => [Value.slice x.2.1 x.1.v.length x.2.2, Value.int .i64 x.1.c, Value.bool x.1.w])[i * 3 + t]? = [Value.slice x.2.1 x.1.v.length x.2.2, Value.int .i64 x.1.c, Value.bool x.1.w][t]? := by
      intro m
      induction m with
      | nil => intro i x h; simp at h
      | cons y m ih =>
        intro i x h t ht
        cases i with
        | zero =>
          simp at h; subst h
          rw [List.flatMap_cons, Nat.zero_mul, Nat.zero_add, List.getElem?_append_left (by simpa using ht)]
        | succ i =>
          rw [List.flatMap_cons, List.getElem?_append_right (by simp; omega)]
          have := ih i x (by simpa using h) t ht
          rw [← this]
          congr 1
          simp
          omega
    have k := key l i x hl
    have c := fun t v (hq : (l.flatMap fun x => [Value.slice x.2.1 x.1.v.length x.2.2, Value.int .i64 x.1.c, Value.bool x.1.w])[t]? = some v) => cell_at h t v (by simpa using hq)
    refine ⟨g, 0, x.2.1, x.2.2, rfl, lt_at h, ?_, ?_, ?_, hv x (List.mem_of_getElem? hl)⟩
    · have := c _ _ (k 0 (by omega)); simpa using this
    · have := c _ _ (k 1 (by omega)); simpa using this
    · have := c _ _ (k 2 (by omega)); simpa using this
theorem cnt_ok {k : Int} (h1 : -1000000 ≤ k) (h2 : k ≤ 1000000) : (cntW k).ok := ⟨i1, ⟨by show -9223372036854775808 ≤ k * 10000; omega, by show k * 10000 ≤ 9223372036854775807; omega⟩, Nat.zero_le _, i0⟩
theorem oks_one {x : Vl} (h : x.ok ∧ x.t.length ≤ 1000000) : oksV (oneA x).v := fun y hy => by simp [oneA] at hy; subst hy; exact h
def okA (a : Ar) : Prop := oksV a.v ∧ a.v.length ≤ 1000000 ∧ i64ok a.c
theorem okA_one {x : Vl} (h : x.ok ∧ x.t.length ≤ 1000000) : okA (oneA x) := ⟨oks_one h, by simp [oneA], i0⟩
theorem vA_ok : vA.ok := ⟨i2, i0, by decide, i0⟩
theorem vB_ok : vB.ok := ⟨i2, i0, by decide, i0⟩
theorem v25_ok : v25.ok := ⟨i1, ⟨by decide, by decide⟩, by decide, i0⟩
theorem okA_L : okA wakeL := ⟨fun x hx => by
  simp [wakeL] at hx
  rcases hx with rfl | rfl | rfl
  all_goals exact ⟨cnt_ok (by decide) (by decide), by decide⟩, by decide, ⟨by decide, by decide⟩⟩
theorem okA_T : okA wakeT := ⟨fun x hx => by
  simp [wakeT] at hx
  rcases hx with rfl | rfl | rfl | rfl
  · exact ⟨vA_ok, by decide⟩
  · exact ⟨cnt_ok (by decide) (by decide), by decide⟩
  · exact ⟨vB_ok, by decide⟩
  · exact ⟨cnt_ok (by decide) (by decide), by decide⟩, by decide, ⟨by decide, by decide⟩⟩
/-- A function of arguments that lie side by side in one block. -/
theorem ask_of (w : World) (n : List UInt8) (g : Nat) (T : TypeId) (l : List (Ar × Option Addr × Nat)) (h : w.heap[g]? = some (.cells (l.flatMap fun x => [Value.slice x.2.1 x.1.v.length x.2.2, Value.int .i64 x.1.c, Value.bool x.1.w]).toArray T (0, 0))) (hv : ∀ x ∈ l, RdV w x.2.1 x.1.v ∧ okA x.1) (hl : l.length ≤ 1000) (v : Vl) (hc : callP n (l.map (·.1)) = (v, true)) :
    Calls Tryz.prog 20 #[enS n, .slice (some ⟨g, 0, none⟩) l.length l.length] w fun e w' => e = .returned v.val ∧ Upd w w' (fun _ => False) := by
  have k := ask_any w n (some ⟨g, 0, none⟩) l.length (l.map (·.1)) (rdA_of h (fun x hx => (hv x hx).1)) (fun a ha => by
    rw [List.mem_map] at ha
    obtain ⟨x, hx, rfl⟩ := ha
    exact (hv x hx).2) (by simpa using hl) (by simp)
  rw [hc, List.length_map] at k
  exact k
theorem rdV_made {w : World} {T : TypeId} {l : List Vl} {cur : Array Value} (h : cur.toList = vlCells l) : RdV (w.alloc (.cells cur T)) (some ⟨w.heap.size, 0, none⟩) l := by
  have hs : cur.size = l.length * 5 := by rw [← Array.length_toList, h, vlCells_len]
  have k := Rw.made w cur T 5 l.length hs
  rw [h] at k
  exact rdV_of_rw k
set_option maxHeartbeats 12800000 in
theorem wakes12_any (w : World) : Calls Tryz.prog 12 #[] w fun e w' => e = .returned (.bool true) ∧ Upd w w' (fun _ => False) := by
  have N1 : ∀ w, Calls Tryz.prog 23 #[.int .i64 1] w (fun e w' => e = .returned (.agg #[.int .i64 1, .int .i64 10000, .string ⟨#[]⟩, .bool false, .int .i64 0]) ∧ Upd w w' (fun _ => False)) := fun w => lawn_any w 1 (by decide) (by decide)
  have N2 : ∀ w, Calls Tryz.prog 23 #[.int .i64 2] w (fun e w' => e = .returned (.agg #[.int .i64 1, .int .i64 20000, .string ⟨#[]⟩, .bool false, .int .i64 0]) ∧ Upd w w' (fun _ => False)) := fun w => lawn_any w 2 (by decide) (by decide)
  have N3 : ∀ w, Calls Tryz.prog 23 #[.int .i64 3] w (fun e w' => e = .returned (.agg #[.int .i64 1, .int .i64 30000, .string ⟨#[]⟩, .bool false, .int .i64 0]) ∧ Upd w w' (fun _ => False)) := fun w => lawn_any w 3 (by decide) (by decide)
  have NV : ∀ w, Calls Tryz.prog 29 #[.int .i64 25000] w (fun e w' => e = .returned (.agg #[.int .i64 1, .int .i64 25000, .string ⟨#[]⟩, .bool false, .int .i64 0]) ∧ Upd w w' (fun _ => False)) := fun w => N_any w 25000
  have TA : ∀ w, Calls Tryz.prog 28 #[.string ⟨#[97]⟩] w (fun e w' => e = .returned (.agg #[.int .i64 2, .int .i64 0, .string ⟨#[97]⟩, .bool false, .int .i64 0]) ∧ Upd w w' (fun _ => False)) := fun w => T_any w [97]
  have TB : ∀ w, Calls Tryz.prog 28 #[.string ⟨#[98]⟩] w (fun e w' => e = .returned (.agg #[.int .i64 2, .int .i64 0, .string ⟨#[98]⟩, .bool false, .int .i64 0]) ∧ Upd w w' (fun _ => False)) := fun w => T_any w [98]
  have O2 : ∀ w, Calls Tryz.prog 22 #[.agg #[.int .i64 1, .int .i64 20000, .string ⟨#[]⟩, .bool false, .int .i64 0]] w (fun e w' => ∃ g, e = .returned (.agg #[.slice (some ⟨g, 0, none⟩) 1 1, .int .i64 0, .bool false]) ∧ RdV w' (some ⟨g, 0, none⟩) [cntW 2] ∧ Upd w w' (fun _ => False)) := fun w => One_any w (cntW 2)
  have O25 : ∀ w, Calls Tryz.prog 22 #[.agg #[.int .i64 1, .int .i64 25000, .string ⟨#[]⟩, .bool false, .int .i64 0]] w (fun e w' => ∃ g, e = .returned (.agg #[.slice (some ⟨g, 0, none⟩) 1 1, .int .i64 0, .bool false]) ∧ RdV w' (some ⟨g, 0, none⟩) [v25] ∧ Upd w w' (fun _ => False)) := fun w => One_any w (v25)
  have O1 : ∀ w, Calls Tryz.prog 22 #[.agg #[.int .i64 1, .int .i64 10000, .string ⟨#[]⟩, .bool false, .int .i64 0]] w (fun e w' => ∃ g, e = .returned (.agg #[.slice (some ⟨g, 0, none⟩) 1 1, .int .i64 0, .bool false]) ∧ RdV w' (some ⟨g, 0, none⟩) [cntW 1] ∧ Upd w w' (fun _ => False)) := fun w => One_any w (cntW 1)
  have OB : ∀ w, Calls Tryz.prog 22 #[.agg #[.int .i64 2, .int .i64 0, .string ⟨#[98]⟩, .bool false, .int .i64 0]] w (fun e w' => ∃ g, e = .returned (.agg #[.slice (some ⟨g, 0, none⟩) 1 1, .int .i64 0, .bool false]) ∧ RdV w' (some ⟨g, 0, none⟩) [vB] ∧ Upd w w' (fun _ => False)) := fun w => One_any w (vB)
  have HI : ∀ w, Calls Tryz.prog 17 #[.string ⟨#[73, 78, 68, 69, 88]⟩] w (fun e w' => e = .returned (.bool true) ∧ Upd w w' (fun _ => False)) := fun w => Has_any w nINDEX
  have LTb : ∀ w g n, Calls Tryz.prog 21 #[.int .i64 1, .slice (some ⟨g, 0, none⟩) n n] w (fun e w' => e = .returned (.agg #[.slice (some ⟨g, 0, none⟩) n n, .int .i64 1, .bool true]) ∧ Upd w w' (fun _ => False)) := fun w g n => lawtable_any w 1 _ n n
  have TTb : ∀ w g n, Calls Tryz.prog 21 #[.int .i64 2, .slice (some ⟨g, 0, none⟩) n n] w (fun e w' => e = .returned (.agg #[.slice (some ⟨g, 0, none⟩) n n, .int .i64 2, .bool true]) ∧ Upd w w' (fun _ => False)) := fun w g n => lawtable_any w 2 _ n n
  have A1 : ∀ (w : World) (g o lg : Nat), w.heap[g]? = some (.cells #[.slice (some ⟨o, 0, none⟩) 1 1, .int .i64 0, .bool false, .slice (some ⟨lg, 0, none⟩) 3 3, .int .i64 1, .bool true] 67 (0, 0)) → RdV w (some ⟨o, 0, none⟩) [cntW 2] → RdV w (some ⟨lg, 0, none⟩) wakeL.v → Calls Tryz.prog 20 #[.string ⟨#[77, 65, 84, 67, 72]⟩, .slice (some ⟨g, 0, none⟩) 2 2] w (fun e w' => e = .returned (.agg #[.int .i64 1, .int .i64 20000, .string ⟨#[]⟩, .bool false, .int .i64 0]) ∧ Upd w w' (fun _ => False)) := fun w g o lg h r0 r1 => ask_of w nMATCH g 67 [(oneA (cntW 2), some ⟨o, 0, none⟩, 1), (wakeL, some ⟨lg, 0, none⟩, 3)] h (fun x hx => by
    simp only [List.mem_cons, List.not_mem_nil, or_false] at hx
    rcases hx with rfl | rfl
    · exact ⟨r0, okA_one ⟨cnt_ok (by decide) (by decide), by decide⟩⟩
    · exact ⟨r1, okA_L⟩) (by simp) (cntW 2) wk1
  have A2 : ∀ (w : World) (g o lg q : Nat), w.heap[g]? = some (.cells #[.slice (some ⟨o, 0, none⟩) 1 1, .int .i64 0, .bool false, .slice (some ⟨lg, 0, none⟩) 3 3, .int .i64 1, .bool true, .slice (some ⟨q, 0, none⟩) 1 1, .int .i64 0, .bool false] 67 (0, 0)) → RdV w (some ⟨o, 0, none⟩) [v25] → RdV w (some ⟨lg, 0, none⟩) wakeL.v → RdV w (some ⟨q, 0, none⟩) [cntW 1] → Calls Tryz.prog 20 #[.string ⟨#[77, 65, 84, 67, 72]⟩, .slice (some ⟨g, 0, none⟩) 3 3] w (fun e w' => e = .returned (.agg #[.int .i64 1, .int .i64 20000, .string ⟨#[]⟩, .bool false, .int .i64 0]) ∧ Upd w w' (fun _ => False)) := fun w g o lg q h r0 r1 r2 => ask_of w nMATCH g 67 [(oneA v25, some ⟨o, 0, none⟩, 1), (wakeL, some ⟨lg, 0, none⟩, 3), (oneA (cntW 1), some ⟨q, 0, none⟩, 1)] h (fun x hx => by
    simp only [List.mem_cons, List.not_mem_nil, or_false] at hx
    rcases hx with rfl | rfl | rfl
    · exact ⟨r0, okA_one ⟨v25_ok, by decide⟩⟩
    · exact ⟨r1, okA_L⟩
    · exact ⟨r2, okA_one ⟨cnt_ok (by decide) (by decide), by decide⟩⟩) (by simp) (cntW 2) wk2
  have A3 : ∀ (w : World) (g o tg q : Nat), w.heap[g]? = some (.cells #[.slice (some ⟨o, 0, none⟩) 1 1, .int .i64 0, .bool false, .slice (some ⟨tg, 0, none⟩) 4 4, .int .i64 2, .bool true, .slice (some ⟨q, 0, none⟩) 1 1, .int .i64 0, .bool false] 67 (0, 0)) → RdV w (some ⟨o, 0, none⟩) [vB] → RdV w (some ⟨tg, 0, none⟩) wakeT.v → RdV w (some ⟨q, 0, none⟩) [cntW 2] → Calls Tryz.prog 20 #[.string ⟨#[86, 76, 79, 79, 75, 85, 80]⟩, .slice (some ⟨g, 0, none⟩) 3 3] w (fun e w' => e = .returned (.agg #[.int .i64 1, .int .i64 20000, .string ⟨#[]⟩, .bool false, .int .i64 0]) ∧ Upd w w' (fun _ => False)) := fun w g o tg q h r0 r1 r2 => ask_of w nVLOOKUP g 67 [(oneA vB, some ⟨o, 0, none⟩, 1), (wakeT, some ⟨tg, 0, none⟩, 4), (oneA (cntW 2), some ⟨q, 0, none⟩, 1)] h (fun x hx => by
    simp only [List.mem_cons, List.not_mem_nil, or_false] at hx
    rcases hx with rfl | rfl | rfl
    · exact ⟨r0, okA_one ⟨vB_ok, by decide⟩⟩
    · exact ⟨r1, okA_T⟩
    · exact ⟨r2, okA_one ⟨cnt_ok (by decide) (by decide), by decide⟩⟩) (by simp) (cntW 2) wk3
  have A4 : ∀ (w : World) (g tg : Nat), w.heap[g]? = some (.cells #[.slice (some ⟨tg, 0, none⟩) 4 4, .int .i64 2, .bool true] 67 (0, 0)) → RdV w (some ⟨tg, 0, none⟩) wakeT.v → Calls Tryz.prog 20 #[.string ⟨#[82, 79, 87, 83]⟩, .slice (some ⟨g, 0, none⟩) 1 1] w (fun e w' => e = .returned (.agg #[.int .i64 1, .int .i64 20000, .string ⟨#[]⟩, .bool false, .int .i64 0]) ∧ Upd w w' (fun _ => False)) := fun w g tg h r0 => ask_of w nROWS g 67 [(wakeT, some ⟨tg, 0, none⟩, 4)] h (fun x hx => by
    simp only [List.mem_cons, List.not_mem_nil, or_false] at hx
    rcases hx with rfl
    · exact ⟨r0, okA_T⟩) (by simp) (cntW 2) wk4
  have EQ : ∀ w, (binOp .eql 29 (.agg #[.int .i64 1, .int .i64 20000, .string ⟨#[]⟩, .bool false, .int .i64 0]) (.agg #[.int .i64 1, .int .i64 20000, .string ⟨#[]⟩, .bool false, .int .i64 0])).run Tryz.prog w = .ok (.bool true) w := eq_at (cntW 2) (cntW 2) (cnt_ok (by decide) (by decide)) (cnt_ok (by decide) (by decide)) (q := true) rfl
  have HU0 : Hid (Upd w w (fun _ => False)) := hide (Upd.refl w _)
  go_enter Tryz.func12, Tryz.ntmps12
  go_wp2_with fail
  refine Calls.mono (N1 _) ?_
  rintro e w1 ⟨rfl, u1⟩
  have HU1 := hide (HU0.out.then u1 (fun _ _ => id))
  clear u1
  go_wp2_with fail
  refine Calls.mono (N2 _) ?_
  rintro e w2 ⟨rfl, u2⟩
  have HU2 := hide (HU1.out.then u2 (fun _ _ => id))
  clear u2
  go_wp2_with fail
  refine Calls.mono (N3 _) ?_
  rintro e w3 ⟨rfl, u3⟩
  have HU3 := hide (HU2.out.then u3 (fun _ _ => id))
  clear u3
  have HL3 := hide (rdV_made (w := w3) (T := 29) (l := wakeL.v) (cur := #[.int .i64 1, .int .i64 10000, .string ⟨#[]⟩, .bool false, .int .i64 0, .int .i64 1, .int .i64 20000, .string ⟨#[]⟩, .bool false, .int .i64 0, .int .i64 1, .int .i64 30000, .string ⟨#[]⟩, .bool false, .int .i64 0]) rfl)
  have HU3' := hide (HU3.out.alloc (.cells #[.int .i64 1, .int .i64 10000, .string ⟨#[]⟩, .bool false, .int .i64 0, .int .i64 1, .int .i64 20000, .string ⟨#[]⟩, .bool false, .int .i64 0, .int .i64 1, .int .i64 30000, .string ⟨#[]⟩, .bool false, .int .i64 0] 29))
  obtain ⟨lg, hlg⟩ : ∃ g, w3.heap.size = g := ⟨_, rfl⟩
  rw [hlg] at HL3
  go_wp2_with fail
  clear hlg
  refine Calls.mono (LTb _ lg 3) ?_
  rintro e w4 ⟨rfl, u4⟩
  have HU4 := hide ((HU3'.out.then u4 (fun _ _ => id)).alloc (.cells #[.slice (some ⟨lg, 0, none⟩) 3 3, .int .i64 1, .bool true] 67))
  have HL4 := hide ((HL3.out.upd u4).upd ((Upd.refl w4 (fun _ => False)).alloc (.cells #[.slice (some ⟨lg, 0, none⟩) 3 3, .int .i64 1, .bool true] 67)))
  have HB4 := hide (Vnew1 w4 (.cells #[.slice (some ⟨lg, 0, none⟩) 3 3, .int .i64 1, .bool true] 67))
  obtain ⟨X, hX⟩ : ∃ g, w4.heap.size = g := ⟨_, rfl⟩
  rw [hX] at HB4
  have HX := hide hX
  clear u4 HL3 hX
  go_wp2_with fail
  rw [HX.out]
  refine Calls.mono (TA _) ?_
  rintro e w5 ⟨rfl, u5⟩
  have HU5 := hide (HU4.out.then u5 (fun _ _ => id))
  have HV5 : Hid (Upd (w4.alloc (.cells #[.slice (some ⟨lg, 0, none⟩) 3 3, .int .i64 1, .bool true] 67)) w5 (fun _ => False)) := hide u5
  clear u5
  go_wp2_with fail
  refine Calls.mono (N1 _) ?_
  rintro e w6 ⟨rfl, u6⟩
  have HU6 := hide (HU5.out.then u6 (fun _ _ => id))
  have HV6 := hide (HV5.out.then u6 (fun _ _ => id))
  clear u6
  go_wp2_with fail
  refine Calls.mono (TB _) ?_
  rintro e w7 ⟨rfl, u7⟩
  have HU7 := hide (HU6.out.then u7 (fun _ _ => id))
  have HV7 := hide (HV6.out.then u7 (fun _ _ => id))
  clear u7
  go_wp2_with fail
  refine Calls.mono (N2 _) ?_
  rintro e w8 ⟨rfl, u8⟩
  have HU8 := hide (HU7.out.then u8 (fun _ _ => id))
  have HV8 := hide (HV7.out.then u8 (fun _ _ => id))
  clear u8
  have HT8 := hide (rdV_made (w := w8) (T := 29) (l := wakeT.v) (cur := #[.int .i64 2, .int .i64 0, .string ⟨#[97]⟩, .bool false, .int .i64 0, .int .i64 1, .int .i64 10000, .string ⟨#[]⟩, .bool false, .int .i64 0, .int .i64 2, .int .i64 0, .string ⟨#[98]⟩, .bool false, .int .i64 0, .int .i64 1, .int .i64 20000, .string ⟨#[]⟩, .bool false, .int .i64 0]) rfl)
  have HU8' := hide (HU8.out.alloc (.cells #[.int .i64 2, .int .i64 0, .string ⟨#[97]⟩, .bool false, .int .i64 0, .int .i64 1, .int .i64 10000, .string ⟨#[]⟩, .bool false, .int .i64 0, .int .i64 2, .int .i64 0, .string ⟨#[98]⟩, .bool false, .int .i64 0, .int .i64 1, .int .i64 20000, .string ⟨#[]⟩, .bool false, .int .i64 0] 29))
  have HV8' := hide (HV8.out.alloc (.cells #[.int .i64 2, .int .i64 0, .string ⟨#[97]⟩, .bool false, .int .i64 0, .int .i64 1, .int .i64 10000, .string ⟨#[]⟩, .bool false, .int .i64 0, .int .i64 2, .int .i64 0, .string ⟨#[98]⟩, .bool false, .int .i64 0, .int .i64 1, .int .i64 20000, .string ⟨#[]⟩, .bool false, .int .i64 0] 29))
  obtain ⟨tg, htg⟩ : ∃ g, w8.heap.size = g := ⟨_, rfl⟩
  rw [htg] at HT8
  go_wp2_with fail
  clear htg
  refine Calls.mono (TTb _ tg 4) ?_
  rintro e w9 ⟨rfl, u9⟩
  have HU9 := hide ((HU8'.out.then u9 (fun _ _ => id)).alloc (.cells #[.slice (some ⟨tg, 0, none⟩) 4 4, .int .i64 2, .bool true] 67))
  have HV9 := hide ((HV8'.out.then u9 (fun _ _ => id)).alloc (.cells #[.slice (some ⟨tg, 0, none⟩) 4 4, .int .i64 2, .bool true] 67))
  have HT9 := hide ((HT8.out.upd u9).upd ((Upd.refl w9 (fun _ => False)).alloc (.cells #[.slice (some ⟨tg, 0, none⟩) 4 4, .int .i64 2, .bool true] 67)))
  have bT := Vnew1 w9 (.cells #[.slice (some ⟨tg, 0, none⟩) 4 4, .int .i64 2, .bool true] 67)
  have bL := HV9.out.get HB4.out id
  have HL9 := hide (HL4.out.upd HV9.out)
  obtain ⟨Y, hY⟩ : ∃ g, w9.heap.size = g := ⟨_, rfl⟩
  rw [hY] at bT
  have HY := hide hY
  obtain ⟨l0, l1, l2⟩ := cells3 bL
  have ll := lt_at bL
  obtain ⟨t0, t1, t2⟩ := cells3 bT
  have tl := lt_at bT
  clear u9 bT bL hY HT8 HB4 HL4 HV8 HV8' HV9 HV5 HV6 HV7
  go_wp2_with fail
  rw [HY.out]
  obtain ⟨WZ, hWZ⟩ : ∃ W, w9.alloc (.cells #[.slice (some ⟨tg, 0, none⟩) 4 4, .int .i64 2, .bool true] 67) = W := ⟨_, rfl⟩
  rw [hWZ] at HU9 HT9 HL9 l0 l1 l2 ll t0 t1 t2 tl ⊢
  clear hWZ HY HX HU0 HU1 HU2 HU3 HU3' HU4 HU5 HU6 HU7 HU8 HU8'
  go_region_held3 (fun w' => w'.cell? ⟨X, 0, none⟩ = some (.slice (some ⟨lg, 0, none⟩) 3 3) ∧ w'.cell? ⟨X, 1, none⟩ = some (.int .i64 1) ∧ w'.cell? ⟨X, 2, none⟩ = some (.bool true) ∧ w'.cell? ⟨Y, 0, none⟩ = some (.slice (some ⟨tg, 0, none⟩) 4 4) ∧ w'.cell? ⟨Y, 1, none⟩ = some (.int .i64 2) ∧ w'.cell? ⟨Y, 2, none⟩ = some (.bool true) ∧ Upd WZ w' (fun _ => False))
    (first | (go_keep; done) | exact ⟨l0, l1, l2, t0, t1, t2, (Upd.refl WZ _).drew⟩ | (have hz : Upd WZ _ (fun _ => False) := Upd.then (And.right (And.right (And.right (And.right (And.right (And.right (by assumption))))))) uN1 (fun _ _ => id); with_reducible exact ⟨(hz.cell X 0 ll id).trans l0, (hz.cell X 1 ll id).trans l1, (hz.cell X 2 ll id).trans l2, (hz.cell Y 0 tl id).trans t0, (hz.cell Y 1 tl id).trans t1, (hz.cell Y 2 tl id).trans t2, hz⟩) | (have hz : Upd WZ _ (fun _ => False) := Upd.then (And.right (And.right (And.right (And.right (And.right (And.right (by assumption))))))) uN2 (fun _ _ => id); with_reducible exact ⟨(hz.cell X 0 ll id).trans l0, (hz.cell X 1 ll id).trans l1, (hz.cell X 2 ll id).trans l2, (hz.cell Y 0 tl id).trans t0, (hz.cell Y 1 tl id).trans t1, (hz.cell Y 2 tl id).trans t2, hz⟩) | (have hz : Upd WZ _ (fun _ => False) := Upd.then (And.right (And.right (And.right (And.right (And.right (And.right (by assumption))))))) uNV (fun _ _ => id); with_reducible exact ⟨(hz.cell X 0 ll id).trans l0, (hz.cell X 1 ll id).trans l1, (hz.cell X 2 ll id).trans l2, (hz.cell Y 0 tl id).trans t0, (hz.cell Y 1 tl id).trans t1, (hz.cell Y 2 tl id).trans t2, hz⟩) | (have hz : Upd WZ _ (fun _ => False) := Upd.then (And.right (And.right (And.right (And.right (And.right (And.right (by assumption))))))) uTB (fun _ _ => id); with_reducible exact ⟨(hz.cell X 0 ll id).trans l0, (hz.cell X 1 ll id).trans l1, (hz.cell X 2 ll id).trans l2, (hz.cell Y 0 tl id).trans t0, (hz.cell Y 1 tl id).trans t1, (hz.cell Y 2 tl id).trans t2, hz⟩) | (have hz : Upd WZ _ (fun _ => False) := Upd.then (And.right (And.right (And.right (And.right (And.right (And.right (by assumption))))))) uO2 (fun _ _ => id); with_reducible exact ⟨(hz.cell X 0 ll id).trans l0, (hz.cell X 1 ll id).trans l1, (hz.cell X 2 ll id).trans l2, (hz.cell Y 0 tl id).trans t0, (hz.cell Y 1 tl id).trans t1, (hz.cell Y 2 tl id).trans t2, hz⟩) | (have hz : Upd WZ _ (fun _ => False) := Upd.then (And.right (And.right (And.right (And.right (And.right (And.right (by assumption))))))) uO25 (fun _ _ => id); with_reducible exact ⟨(hz.cell X 0 ll id).trans l0, (hz.cell X 1 ll id).trans l1, (hz.cell X 2 ll id).trans l2, (hz.cell Y 0 tl id).trans t0, (hz.cell Y 1 tl id).trans t1, (hz.cell Y 2 tl id).trans t2, hz⟩) | (have hz : Upd WZ _ (fun _ => False) := Upd.then (And.right (And.right (And.right (And.right (And.right (And.right (by assumption))))))) uO1 (fun _ _ => id); with_reducible exact ⟨(hz.cell X 0 ll id).trans l0, (hz.cell X 1 ll id).trans l1, (hz.cell X 2 ll id).trans l2, (hz.cell Y 0 tl id).trans t0, (hz.cell Y 1 tl id).trans t1, (hz.cell Y 2 tl id).trans t2, hz⟩) | (have hz : Upd WZ _ (fun _ => False) := Upd.then (And.right (And.right (And.right (And.right (And.right (And.right (by assumption))))))) uOB (fun _ _ => id); with_reducible exact ⟨(hz.cell X 0 ll id).trans l0, (hz.cell X 1 ll id).trans l1, (hz.cell X 2 ll id).trans l2, (hz.cell Y 0 tl id).trans t0, (hz.cell Y 1 tl id).trans t1, (hz.cell Y 2 tl id).trans t2, hz⟩) | (have hz : Upd WZ _ (fun _ => False) := Upd.then (And.right (And.right (And.right (And.right (And.right (And.right (by assumption))))))) uA1 (fun _ _ => id); with_reducible exact ⟨(hz.cell X 0 ll id).trans l0, (hz.cell X 1 ll id).trans l1, (hz.cell X 2 ll id).trans l2, (hz.cell Y 0 tl id).trans t0, (hz.cell Y 1 tl id).trans t1, (hz.cell Y 2 tl id).trans t2, hz⟩) | (have hz : Upd WZ _ (fun _ => False) := Upd.then (And.right (And.right (And.right (And.right (And.right (And.right (by assumption))))))) uA2 (fun _ _ => id); with_reducible exact ⟨(hz.cell X 0 ll id).trans l0, (hz.cell X 1 ll id).trans l1, (hz.cell X 2 ll id).trans l2, (hz.cell Y 0 tl id).trans t0, (hz.cell Y 1 tl id).trans t1, (hz.cell Y 2 tl id).trans t2, hz⟩) | (have hz : Upd WZ _ (fun _ => False) := Upd.then (And.right (And.right (And.right (And.right (And.right (And.right (by assumption))))))) uA3 (fun _ _ => id); with_reducible exact ⟨(hz.cell X 0 ll id).trans l0, (hz.cell X 1 ll id).trans l1, (hz.cell X 2 ll id).trans l2, (hz.cell Y 0 tl id).trans t0, (hz.cell Y 1 tl id).trans t1, (hz.cell Y 2 tl id).trans t2, hz⟩) | (have hz : Upd WZ _ (fun _ => False) := Upd.then (And.right (And.right (And.right (And.right (And.right (And.right (by assumption))))))) uA4 (fun _ _ => id); with_reducible exact ⟨(hz.cell X 0 ll id).trans l0, (hz.cell X 1 ll id).trans l1, (hz.cell X 2 ll id).trans l2, (hz.cell Y 0 tl id).trans t0, (hz.cell Y 1 tl id).trans t1, (hz.cell Y 2 tl id).trans t2, hz⟩) | (have hz : Upd WZ _ (fun _ => False) := Upd.then (And.right (And.right (And.right (And.right (And.right (And.right (by assumption))))))) uHI (fun _ _ => id); with_reducible exact ⟨(hz.cell X 0 ll id).trans l0, (hz.cell X 1 ll id).trans l1, (hz.cell X 2 ll id).trans l2, (hz.cell Y 0 tl id).trans t0, (hz.cell Y 1 tl id).trans t1, (hz.cell Y 2 tl id).trans t2, hz⟩) | (refine ⟨?_, ?_, ?_, ?_, ?_, ?_, Upd.alloc (And.right (And.right (And.right (And.right (And.right (And.right (by assumption))))))) _⟩ <;> (go_keep; done)))
    (first
    | (go_at_call 23; with_reducible refine Calls.mono (N1 _) ?_; rintro e wz ⟨rfl, uN1⟩)
    | (go_at_call 23; with_reducible refine Calls.mono (N2 _) ?_; rintro e wz ⟨rfl, uN2⟩)
    | (go_at_call 29; with_reducible refine Calls.mono (NV _) ?_; rintro e wz ⟨rfl, uNV⟩)
    | (go_at_call 28; with_reducible refine Calls.mono (TB _) ?_; rintro e wz ⟨rfl, uTB⟩)
    | (go_at_call 22; with_reducible refine Calls.mono (O2 _) ?_; rintro e wz ⟨o2, rfl, r2, uO2⟩)
    | (go_at_call 22; with_reducible refine Calls.mono (O25 _) ?_; rintro e wz ⟨o25, rfl, r25, uO25⟩)
    | (go_at_call 22; with_reducible refine Calls.mono (O1 _) ?_; rintro e wz ⟨o1, rfl, r1, uO1⟩)
    | (go_at_call 22; with_reducible refine Calls.mono (OB _) ?_; rintro e wz ⟨oB, rfl, rB, uOB⟩)
    | (go_at_call 17; with_reducible refine Calls.mono (HI _) ?_; rintro e wz ⟨rfl, uHI⟩)
    | (go_at_call 20; with_reducible refine Calls.mono (A2 _ _ o25 lg o1 (Vnew1 _ _) (((r25.upd uN1).upd uO1).upd ((Upd.refl _ (fun _ => False)).alloc _)) (HL9.out.upd (And.right (And.right (And.right (And.right (And.right (And.right (by assumption)))))))) (r1.upd ((Upd.refl _ (fun _ => False)).alloc _))) ?_; rintro e wz ⟨rfl, uA2⟩)
    | (go_at_call 20; with_reducible refine Calls.mono (A3 _ _ oB tg o2 (Vnew1 _ _) (((rB.upd uN2).upd uO2).upd ((Upd.refl _ (fun _ => False)).alloc _)) (HT9.out.upd (And.right (And.right (And.right (And.right (And.right (And.right (by assumption)))))))) (r2.upd ((Upd.refl _ (fun _ => False)).alloc _))) ?_; rintro e wz ⟨rfl, uA3⟩)
    | (go_at_call 20; with_reducible refine Calls.mono (A1 _ _ o2 lg (Vnew1 _ _) (r2.upd ((Upd.refl _ (fun _ => False)).alloc _)) (HL9.out.upd (And.right (And.right (And.right (And.right (And.right (And.right (by assumption))))))))) ?_; rintro e wz ⟨rfl, uA1⟩)
    | (go_at_call 20; with_reducible refine Calls.mono (A4 _ _ tg (Vnew1 _ _) (HT9.out.upd (And.right (And.right (And.right (And.right (And.right (And.right (by assumption))))))))) ?_; rintro e wz ⟨rfl, uA4⟩))
  all_goals go_wp2_with fail
  all_goals go_ret
  all_goals exact ⟨rfl, HU9.out.then (And.right (And.right (And.right (And.right (And.right (And.right (by assumption))))))) (fun _ _ => id)⟩
end Go.Proofs.YtdjpkkgcoainhaaGreatDoor
