/- The walk of NumsWhole. -/
import Derived.Test.YtmfngdjhkpddoaaGreatDoorJ45
import Derived.Test.YtmfngdjhkpddoaaGreatDoorJ42
import Derived.Test.YtmfngdjhkpddoaaGreatDoorJX1
set_option maxRecDepth 100000
namespace Go.Proofs.YtmfngdjhkpddoaaGreatDoor
open Go.RowKit Go.Lat Go.Lib

theorem other5 {W : World} {g h : Nat} (hne : h ≠ g) (v0 v1 v2 v3 v4 : Value) :
    (((((W.setCell ⟨g, 0, none⟩ v0).setCell ⟨g, 1, none⟩ v1).setCell ⟨g, 2, none⟩ v2).setCell ⟨g, 3, none⟩ v3).setCell ⟨g, 4, none⟩ v4).heap[h]? = W.heap[h]? := by
  rw [Below.heap_setCell _ _ _ _ hne, Below.heap_setCell _ _ _ _ hne, Below.heap_setCell _ _ _ _ hne, Below.heap_setCell _ _ _ _ hne, Below.heap_setCell _ _ _ _ hne]
theorem mkN_t (n : Int) : (mkN n).t.length ≤ 1000000 := by
  unfold mkN mkE
  split <;> exact Nat.zero_le _
set_option maxHeartbeats 12800000 in
theorem NumsWhole_any (w : World) (hg : Sig w) (hp : Pow w) (a b : Int) : Calls Tryz.prog 6 #[.int .i64 a, .int .i64 b] w fun e w' => e = .returned (.bool true) ∧ Upd w w' (fun _ => False) := by
  obtain ⟨v1, v2, hq, hm, LAW⟩ := whole_law a b
  have NA := fun w => N_any w a
  have NB := fun w => N_any w b
  have OKS : oksV [mkN a, mkN b] := fun x hx => by
    simp only [List.mem_cons, List.not_mem_nil, or_false] at hx
    rcases hx with rfl | rfl
    · exact ⟨mkN_ok a, mkN_t a⟩
    · exact ⟨mkN_ok b, mkN_t b⟩
  obtain ⟨⟨xk, xn, xt, xb, xf⟩, hx⟩ : ∃ p, mkN a = p := ⟨_, rfl⟩
  obtain ⟨⟨yk, yn, yt, yb, yf⟩, hy⟩ : ∃ p, mkN b = p := ⟨_, rfl⟩
  rw [hx] at NA hq hm LAW OKS
  rw [hy] at NB hq hm LAW OKS
  obtain ⟨k1, n1, t1, b1, f1⟩ := v1
  obtain ⟨k2, n2, t2, b2, f2⟩ := v2
  have CQ : ∀ w g, RdV w (some ⟨g, 0, none⟩) [⟨xk, xn, xt, xb, xf⟩, ⟨yk, yn, yt, yb, yf⟩] → Calls Tryz.prog 11 #[.string ⟨#[81, 85, 79, 84, 73, 69, 78, 84]⟩, .slice (some ⟨g, 0, none⟩) 2 2] w (fun e w' => e = .returned (.tuple #[(Vl.mk k1 n1 t1 b1 f1).val, .bool true]) ∧ Upd w w' (fun _ => False)) := fun w g h => by
    have k := nCall_any w [81, 85, 79, 84, 73, 69, 78, 84] [⟨xk, xn, xt, xb, xf⟩, ⟨yk, yn, yt, yb, yf⟩] (some ⟨g, 0, none⟩) 2 h OKS (by show 2 ≤ 1000000; decide)
    rw [hq] at k
    exact k
  have CM : ∀ w g, RdV w (some ⟨g, 0, none⟩) [⟨xk, xn, xt, xb, xf⟩, ⟨yk, yn, yt, yb, yf⟩] → Calls Tryz.prog 11 #[.string ⟨#[77, 79, 68]⟩, .slice (some ⟨g, 0, none⟩) 2 2] w (fun e w' => e = .returned (.tuple #[(Vl.mk k2 n2 t2 b2 f2).val, .bool true]) ∧ Upd w w' (fun _ => False)) := fun w g h => by
    have k := nCall_any w [77, 79, 68] [⟨xk, xn, xt, xb, xf⟩, ⟨yk, yn, yt, yb, yf⟩] (some ⟨g, 0, none⟩) 2 h OKS (by show 2 ≤ 1000000; decide)
    rw [hm] at k
    exact k
  have M1 := fun w => num9_any w ⟨k1, n1, t1, b1, f1⟩
  have M2 := fun w => num9_any w ⟨k2, n2, t2, b2, f2⟩
  obtain ⟨ma, hma, ba⟩ := and40 a
  obtain ⟨mb, hmb, bb⟩ := and40 b
  obtain ⟨d, hg1, hg2, hd, GL⟩ := gcd_law ma mb hma hmb
  obtain ⟨A, hA⟩ : ∃ A, (ma : Int) * 10000 = A := ⟨_, rfl⟩
  obtain ⟨B, hB⟩ : ∃ B, (mb : Int) * 10000 = B := ⟨_, rfl⟩
  obtain ⟨D, hD⟩ : ∃ D, (d : Int) = D := ⟨_, rfl⟩
  rw [hA, hB] at hg1 hg2 GL
  rw [hD] at hg1 hg2 hd GL
  have wA : IntKind.i64.wrap A = A := by rw [IntWalk.i64_in _ (by omega)]
  have wB : IntKind.i64.wrap B = B := by rw [IntWalk.i64_in _ (by omega)]
  have oA : okNum A = true := by simp [okNum]; omega
  have oB : okNum B = true := by simp [okNum]; omega
  have GA := N_num A oA
  have GB := N_num B oB
  have CG : ∀ w g, RdV w (some ⟨g, 0, none⟩) [⟨1, A, [], false, 0⟩, ⟨1, B, [], false, 0⟩] → Calls Tryz.prog 11 #[.string ⟨#[71, 67, 68]⟩, .slice (some ⟨g, 0, none⟩) 2 2] w (fun e w' => e = .returned (.tuple #[.agg #[.int .i64 1, .int .i64 D, .string ⟨#[]⟩, .bool false, .int .i64 0], .bool true]) ∧ Upd w w' (fun _ => False)) := fun w g h => call2_num w [71, 67, 68] (by decide) g oA oB (⟨1, D, [], false, 0⟩ : Vl) (by
    unfold pairV
    rw [if_neg (by decide), if_neg (by decide), if_neg (by decide), if_neg (by decide), if_neg (by decide), if_pos rfl]
    exact hg1) h
  have CH : ∀ w g, RdV w (some ⟨g, 0, none⟩) [⟨1, B, [], false, 0⟩, ⟨1, A, [], false, 0⟩] → Calls Tryz.prog 11 #[.string ⟨#[71, 67, 68]⟩, .slice (some ⟨g, 0, none⟩) 2 2] w (fun e w' => e = .returned (.tuple #[.agg #[.int .i64 1, .int .i64 D, .string ⟨#[]⟩, .bool false, .int .i64 0], .bool true]) ∧ Upd w w' (fun _ => False)) := fun w g h => call2_num w [71, 67, 68] (by decide) g oB oA (⟨1, D, [], false, 0⟩ : Vl) (by
    unfold pairV
    rw [if_neg (by decide), if_neg (by decide), if_neg (by decide), if_neg (by decide), if_neg (by decide), if_pos rfl]
    exact hg2) h
  have MD : ∀ w, Calls Tryz.prog 23 #[.agg #[.int .i64 1, .int .i64 D, .string ⟨#[]⟩, .bool false, .int .i64 0]] w (fun e w' => e = .returned (.tuple #[.int .i64 D, .bool true]) ∧ Upd w w' (fun _ => False)) := fun w => num9_any w ⟨1, D, [], false, 0⟩
  have odD : (Vl.mk 1 D [] false 0).ok := ⟨i1, ⟨by show -9223372036854775808 ≤ D; omega, by show D ≤ 9223372036854775807; exact hd⟩, Nat.zero_le _, i0⟩
  have EQ := eq_at ⟨1, D, [], false, 0⟩ ⟨1, D, [], false, 0⟩ odD odD (q := true) (by rw [eqV_iff])
  unfold Vl.val at NA NB CQ CM M1 M2 EQ
  simp only at NA NB CQ CM M1 M2 EQ
  have HG := hide hg
  have HP := hide hp
  have HGL := hide GL
  have HEQ := hide EQ
  have HU0 : Hid (Upd w w (fun _ => False)) := hide (Upd.refl w _)
  clear hg hp GL EQ hx hy hq hm OKS hg1 hg2 hd odD oA oB hD hma hmb
  obtain ⟨q1, hq1⟩ : ∃ q, (k1 == 1) = q := ⟨_, rfl⟩
  obtain ⟨q2, hq2⟩ : ∃ q, (k2 == 1) = q := ⟨_, rfl⟩
  rw [hq1] at M1
  rw [hq2] at M2
  rw [hq1, hq2] at LAW
  clear hq1 hq2
  rcases LAW with e1 | e2 | ⟨e1, e2, h0, t1', ox, oy, on, h3⟩
  · subst e1
    go_enter Tryz.func6, Tryz.ntmps6
    go_wp2_with fail
    with_reducible refine Calls.mono (NA _) ?_
    rintro e w1 ⟨rfl, u1⟩
    have HU1 := hide (HU0.out.then u1 (fun _ _ => id))
    clear u1
    go_wp2_with fail
    with_reducible refine Calls.mono (NB _) ?_
    rintro e w2 ⟨rfl, u2⟩
    have HU2 := hide (HU1.out.then u2 (fun _ _ => id))
    clear u2
    go_wp2_with fail
    have HM := hide (rdV_made (w := ((w2.alloc (.cells #[.int .i64 xk, .int .i64 xn, enS xt, .bool xb, .int .i64 xf] 26)).alloc (.cells #[.int .i64 yk, .int .i64 yn, enS yt, .bool yb, .int .i64 yf] 26))) (T := 26) (l := [⟨xk, xn, xt, xb, xf⟩, ⟨yk, yn, yt, yb, yf⟩]) (cur := #[.int .i64 xk, .int .i64 xn, enS xt, .bool xb, .int .i64 xf, .int .i64 yk, .int .i64 yn, enS yt, .bool yb, .int .i64 yf]) rfl)
    have hsz : ((w2.alloc (.cells #[.int .i64 xk, .int .i64 xn, enS xt, .bool xb, .int .i64 xf] 26)).alloc (.cells #[.int .i64 yk, .int .i64 yn, enS yt, .bool yb, .int .i64 yf] 26)).heap.size = w2.heap.size + 1 + 1 := by simp
    rw [hsz] at HM
    refine Calls.mono (CQ _ _ HM) ?_
    rintro e w3 ⟨rfl, u3⟩
    have HX : Hid (w3.heap[w2.heap.size]? = some (.cells #[.int .i64 xk, .int .i64 xn, enS xt, .bool xb, .int .i64 xf] 26 (0, 0))) := hide (u3.get (block_alloc (block_alloc (Vnew1 w2 (.cells #[.int .i64 xk, .int .i64 xn, enS xt, .bool xb, .int .i64 xf] 26)) (.cells #[.int .i64 yk, .int .i64 yn, enS yt, .bool yb, .int .i64 yf] 26)) (.cells #[.int .i64 xk, .int .i64 xn, enS xt, .bool xb, .int .i64 xf, .int .i64 yk, .int .i64 yn, enS yt, .bool yb, .int .i64 yf] 26)) id)
    have HY : Hid (w3.heap[w2.heap.size + 1]? = some (.cells #[.int .i64 yk, .int .i64 yn, enS yt, .bool yb, .int .i64 yf] 26 (0, 0))) := hide (u3.get (block_alloc (Vnew2 w2 (.cells #[.int .i64 xk, .int .i64 xn, enS xt, .bool xb, .int .i64 xf] 26) (.cells #[.int .i64 yk, .int .i64 yn, enS yt, .bool yb, .int .i64 yf] 26)) (.cells #[.int .i64 xk, .int .i64 xn, enS xt, .bool xb, .int .i64 xf, .int .i64 yk, .int .i64 yn, enS yt, .bool yb, .int .i64 yf] 26)) id)
    have HU3 := hide ((((HU2.out.alloc _).alloc _).alloc _).then u3 (fun _ _ => id))
    clear u3
    clear HM hsz
    have bX := HX.out
    obtain ⟨x0, x1, x2, x3, x4⟩ := cells5 bX
    have xl := lt_at bX
    clear bX
    have bY := HY.out
    obtain ⟨y0, y1, y2, y3, y4⟩ := cells5 bY
    have yl := lt_at bY
    clear bY
    have yl_ : w2.heap.size < w3.heap.size := by omega
    go_wp2_with fail
    have HM := hide (rdV_made (w := (w3.alloc (.cells #[.int .i64 k1, .int .i64 n1, enS t1, .bool b1, .int .i64 f1] 26))) (T := 26) (l := [⟨xk, xn, xt, xb, xf⟩, ⟨yk, yn, yt, yb, yf⟩]) (cur := #[.int .i64 xk, .int .i64 xn, enS xt, .bool xb, .int .i64 xf, .int .i64 yk, .int .i64 yn, enS yt, .bool yb, .int .i64 yf]) rfl)
    have hsz : (w3.alloc (.cells #[.int .i64 k1, .int .i64 n1, enS t1, .bool b1, .int .i64 f1] 26)).heap.size = w3.heap.size + 1 := by simp
    rw [hsz] at HM
    refine Calls.mono (CM _ _ HM) ?_
    rintro e w4 ⟨rfl, u4⟩
    have HX := hide (u4.get (block_alloc (block_alloc HX.out (.cells #[.int .i64 k1, .int .i64 n1, enS t1, .bool b1, .int .i64 f1] 26)) (.cells #[.int .i64 xk, .int .i64 xn, enS xt, .bool xb, .int .i64 xf, .int .i64 yk, .int .i64 yn, enS yt, .bool yb, .int .i64 yf] 26)) id)
    have HY := hide (u4.get (block_alloc (block_alloc HY.out (.cells #[.int .i64 k1, .int .i64 n1, enS t1, .bool b1, .int .i64 f1] 26)) (.cells #[.int .i64 xk, .int .i64 xn, enS xt, .bool xb, .int .i64 xf, .int .i64 yk, .int .i64 yn, enS yt, .bool yb, .int .i64 yf] 26)) id)
    have HQ : Hid (w4.heap[w3.heap.size]? = some (.cells #[.int .i64 k1, .int .i64 n1, enS t1, .bool b1, .int .i64 f1] 26 (0, 0))) := hide (u4.get (block_alloc (Vnew1 w3 (.cells #[.int .i64 k1, .int .i64 n1, enS t1, .bool b1, .int .i64 f1] 26)) (.cells #[.int .i64 xk, .int .i64 xn, enS xt, .bool xb, .int .i64 xf, .int .i64 yk, .int .i64 yn, enS yt, .bool yb, .int .i64 yf] 26)) id)
    have HU4 := hide (((HU3.out.alloc _).alloc _).then u4 (fun _ _ => id))
    clear u4
    clear HM hsz
    clear x0 x1 x2 x3 x4 xl y0 y1 y2 y3 y4 yl yl_
    go_wp2_with fail
    with_reducible refine Calls.mono (wakes9_any _ (HG.out.upd (HU4.out.alloc _) id) (HP.out.upd (HU4.out.alloc _) id)) ?_
    rintro e w5 ⟨rfl, u5⟩
    have HX := hide (u5.get (block_alloc HX.out (.cells #[.int .i64 k2, .int .i64 n2, enS t2, .bool b2, .int .i64 f2] 26)) id)
    have HY := hide (u5.get (block_alloc HY.out (.cells #[.int .i64 k2, .int .i64 n2, enS t2, .bool b2, .int .i64 f2] 26)) id)
    have HQ := hide (u5.get (block_alloc HQ.out (.cells #[.int .i64 k2, .int .i64 n2, enS t2, .bool b2, .int .i64 f2] 26)) id)
    have HR : Hid (w5.heap[w4.heap.size]? = some (.cells #[.int .i64 k2, .int .i64 n2, enS t2, .bool b2, .int .i64 f2] 26 (0, 0))) := hide (u5.get (Vnew1 w4 (.cells #[.int .i64 k2, .int .i64 n2, enS t2, .bool b2, .int .i64 f2] 26)) id)
    have HU5 := hide ((HU4.out.alloc _).then u5 (fun _ _ => id))
    clear u5
    have bQ := HQ.out
    obtain ⟨q0, q1, q2, q3, q4⟩ := cells5 bQ
    have ql := lt_at bQ
    clear bQ
    go_wp2_with fail
    with_reducible refine Calls.mono (M1 _) ?_
    rintro e w6 ⟨rfl, u6⟩
    have HX := hide (u6.get HX.out id)
    have HY := hide (u6.get HY.out id)
    have HQ := hide (u6.get HQ.out id)
    have HR := hide (u6.get HR.out id)
    have HU6 := hide (HU5.out.then u6 (fun _ _ => id))
    clear u6
    have bR := HR.out
    obtain ⟨r0, r1, r2, r3, r4⟩ := cells5 bR
    have rl := lt_at bR
    clear bR
    go_wp2_with fail
    with_reducible refine Calls.mono (M2 _) ?_
    rintro e w7 ⟨rfl, u7⟩
    have HX := hide (u7.get HX.out id)
    have HY := hide (u7.get HY.out id)
    have HQ := hide (u7.get HQ.out id)
    have HR := hide (u7.get HR.out id)
    have HU7 := hide (HU6.out.then u7 (fun _ _ => id))
    clear u7
    have bX := HX.out
    obtain ⟨x0, x1, x2, x3, x4⟩ := cells5 bX
    have xl := lt_at bX
    clear bX
    have bY := HY.out
    obtain ⟨y0, y1, y2, y3, y4⟩ := cells5 bY
    have yl := lt_at bY
    clear bY
    have yl_ : w2.heap.size < w7.heap.size := by omega
    go_wp2_with fail
    go_quiet (fail)
    obtain ⟨W, hW⟩ : ∃ W, w7.drewN nq = W := ⟨_, rfl⟩
    have HXW : Hid (W.heap[w2.heap.size]? = some (.cells #[.int .i64 xk, .int .i64 xn, enS xt, .bool xb, .int .i64 xf] 26 (0, 0))) := hide (by rw [← hW]; exact HX.out)
    have HYW : Hid (W.heap[w2.heap.size + 1]? = some (.cells #[.int .i64 yk, .int .i64 yn, enS yt, .bool yb, .int .i64 yf] 26 (0, 0))) := hide (by rw [← hW]; exact HY.out)
    have HUW : Hid (Upd w W (fun _ => False)) := hide (by rw [← hW]; exact HU7.out.drewN nq)
    have HX := HXW
    have HY := HYW
    have HU20 := HUW
    have zsx : Hid (w.heap.size ≤ w2.heap.size) := hide HU2.out.size
    rw [hW]
    clear hW x0 x1 x2 x3 x4 xl y0 y1 y2 y3 y4 yl yl_
    go_wp2_with fail
    with_reducible refine Calls.mono (GA _) ?_
    rintro e w21 ⟨rfl, u21⟩
    have HX := hide (u21.get HX.out id)
    have HY := hide (u21.get HY.out id)
    have HU21 := hide (HU20.out.then u21 (fun _ _ => id))
    clear u21
    go_wp2_with fail
    with_reducible refine Calls.mono (GB _) ?_
    rintro e w22 ⟨rfl, u22⟩
    have HX := hide (u22.get HX.out id)
    have HY := hide (u22.get HY.out id)
    have HU22 := hide (HU21.out.then u22 (fun _ _ => id))
    clear u22
    have bX := HX.out
    obtain ⟨x0, x1, x2, x3, x4⟩ := cells5 bX
    have xl := lt_at bX
    have fx0 := free_at bX 0
    have fx1 := free_at bX 1
    have fx2 := free_at bX 2
    have fx3 := free_at bX 3
    have fx4 := free_at bX 4
    clear bX
    have bY := HY.out
    obtain ⟨y0, y1, y2, y3, y4⟩ := cells5 bY
    have yl := lt_at bY
    have fy0 := free_at bY 0
    have fy1 := free_at bY 1
    have fy2 := free_at bY 2
    have fy3 := free_at bY 3
    have fy4 := free_at bY 4
    clear bY
    have yl_ : w2.heap.size < w22.heap.size := by omega
    go_upto_region 11 with fail
    have sX := block5 (x := ⟨xk, xn, xt, xb, xf⟩) HX.out (.int .i64 1) (.int .i64 A) (.string ⟨#[]⟩) (.bool false) (.int .i64 0)
    have sY := HY.out
    rw [← other5 (show w2.heap.size + 1 ≠ w2.heap.size by omega) (.int .i64 1) (.int .i64 A) (.string ⟨#[]⟩) (.bool false) (.int .i64 0)] at sY
    have sY2 := block5 (x := ⟨yk, yn, yt, yb, yf⟩) sY (.int .i64 1) (.int .i64 B) (.string ⟨#[]⟩) (.bool false) (.int .i64 0)
    rw [← other5 (show w2.heap.size ≠ w2.heap.size + 1 by omega) (.int .i64 1) (.int .i64 B) (.string ⟨#[]⟩) (.bool false) (.int .i64 0)] at sX
    have sU := upd5 (upd5 HU22.out zsx.out (.int .i64 1) (.int .i64 A) (.string ⟨#[]⟩) (.bool false) (.int .i64 0)) (Nat.le_succ_of_le zsx.out) (.int .i64 1) (.int .i64 B) (.string ⟨#[]⟩) (.bool false) (.int .i64 0)
    obtain ⟨Z, hZ⟩ : ∃ Z, (((((World.setCell (((((World.setCell w22 ⟨w2.heap.size, 0, none⟩ (.int .i64 1)).setCell ⟨w2.heap.size, 1, none⟩ (.int .i64 A)).setCell ⟨w2.heap.size, 2, none⟩ (.string ⟨#[]⟩)).setCell ⟨w2.heap.size, 3, none⟩ (.bool false)).setCell ⟨w2.heap.size, 4, none⟩ (.int .i64 0)) ⟨w2.heap.size + 1, 0, none⟩ (.int .i64 1)).setCell ⟨w2.heap.size + 1, 1, none⟩ (.int .i64 B)).setCell ⟨w2.heap.size + 1, 2, none⟩ (.string ⟨#[]⟩)).setCell ⟨w2.heap.size + 1, 3, none⟩ (.bool false)).setCell ⟨w2.heap.size + 1, 4, none⟩ (.int .i64 0)) = Z := ⟨_, rfl⟩
    rw [hZ] at sX sY2 sU ⊢
    have HX := hide sX
    have HY := hide sY2
    have HU30 := hide sU
    clear hZ sX sY sY2 sU x0 x1 x2 x3 x4 xl y0 y1 y2 y3 y4 yl yl_ fx0 fx1 fx2 fx3 fx4 fy0 fy1 fy2 fy3 fy4
    have bX := HX.out
    obtain ⟨x0, x1, x2, x3, x4⟩ := cells5 bX
    have xl := lt_at bX
    clear bX
    have bY := HY.out
    obtain ⟨y0, y1, y2, y3, y4⟩ := cells5 bY
    have yl := lt_at bY
    clear bY
    have yl_ : w2.heap.size < Z.heap.size := by omega
    go_wp2_with fail
    have HM := hide (rdV_made (w := Z) (T := 26) (l := [⟨1, A, [], false, 0⟩, ⟨1, B, [], false, 0⟩]) (cur := #[.int .i64 1, .int .i64 A, .string ⟨#[]⟩, .bool false, .int .i64 0, .int .i64 1, .int .i64 B, .string ⟨#[]⟩, .bool false, .int .i64 0]) rfl)
    refine Calls.mono (CG _ _ HM) ?_
    rintro e w31 ⟨rfl, u31⟩
    have HX := hide (u31.get (block_alloc HX.out (.cells #[.int .i64 1, .int .i64 A, .string ⟨#[]⟩, .bool false, .int .i64 0, .int .i64 1, .int .i64 B, .string ⟨#[]⟩, .bool false, .int .i64 0] 26)) id)
    have HY := hide (u31.get (block_alloc HY.out (.cells #[.int .i64 1, .int .i64 A, .string ⟨#[]⟩, .bool false, .int .i64 0, .int .i64 1, .int .i64 B, .string ⟨#[]⟩, .bool false, .int .i64 0] 26)) id)
    have HU31 := hide ((HU30.out.alloc _).then u31 (fun _ _ => id))
    clear u31
    clear HM
    clear x0 x1 x2 x3 x4 xl y0 y1 y2 y3 y4 yl yl_
    have bX := HX.out
    obtain ⟨x0, x1, x2, x3, x4⟩ := cells5 bX
    have xl := lt_at bX
    clear bX
    have bY := HY.out
    obtain ⟨y0, y1, y2, y3, y4⟩ := cells5 bY
    have yl := lt_at bY
    clear bY
    have yl_ : w2.heap.size < w31.heap.size := by omega
    go_wp2_with fail
    have HM := hide (rdV_made (w := (w31.alloc (.cells #[.int .i64 1, .int .i64 D, .string ⟨#[]⟩, .bool false, .int .i64 0] 26))) (T := 26) (l := [⟨1, B, [], false, 0⟩, ⟨1, A, [], false, 0⟩]) (cur := #[.int .i64 1, .int .i64 B, .string ⟨#[]⟩, .bool false, .int .i64 0, .int .i64 1, .int .i64 A, .string ⟨#[]⟩, .bool false, .int .i64 0]) rfl)
    have hsz : (w31.alloc (.cells #[.int .i64 1, .int .i64 D, .string ⟨#[]⟩, .bool false, .int .i64 0] 26)).heap.size = w31.heap.size + 1 := by simp
    rw [hsz] at HM
    refine Calls.mono (CH _ _ HM) ?_
    rintro e w32 ⟨rfl, u32⟩
    have HX := hide (u32.get (block_alloc (block_alloc HX.out (.cells #[.int .i64 1, .int .i64 D, .string ⟨#[]⟩, .bool false, .int .i64 0] 26)) (.cells #[.int .i64 1, .int .i64 B, .string ⟨#[]⟩, .bool false, .int .i64 0, .int .i64 1, .int .i64 A, .string ⟨#[]⟩, .bool false, .int .i64 0] 26)) id)
    have HY := hide (u32.get (block_alloc (block_alloc HY.out (.cells #[.int .i64 1, .int .i64 D, .string ⟨#[]⟩, .bool false, .int .i64 0] 26)) (.cells #[.int .i64 1, .int .i64 B, .string ⟨#[]⟩, .bool false, .int .i64 0, .int .i64 1, .int .i64 A, .string ⟨#[]⟩, .bool false, .int .i64 0] 26)) id)
    have HG : Hid (w32.heap[w31.heap.size]? = some (.cells #[.int .i64 1, .int .i64 D, .string ⟨#[]⟩, .bool false, .int .i64 0] 26 (0, 0))) := hide (u32.get (block_alloc (Vnew1 w31 (.cells #[.int .i64 1, .int .i64 D, .string ⟨#[]⟩, .bool false, .int .i64 0] 26)) (.cells #[.int .i64 1, .int .i64 B, .string ⟨#[]⟩, .bool false, .int .i64 0, .int .i64 1, .int .i64 A, .string ⟨#[]⟩, .bool false, .int .i64 0] 26)) id)
    have HU32 := hide (((HU31.out.alloc _).alloc _).then u32 (fun _ _ => id))
    clear u32
    clear HM hsz
    clear x0 x1 x2 x3 x4 xl y0 y1 y2 y3 y4 yl yl_
    have bG0 := block_alloc HG.out (.cells #[.int .i64 1, .int .i64 D, .string ⟨#[]⟩, .bool false, .int .i64 0] 26)
    obtain ⟨g0, g1, g2, g3, g4⟩ := cells5 bG0
    have gl := lt_at bG0
    clear bG0
    go_wp2_with fail
    clear g0 g1 g2 g3 g4 gl
    with_reducible refine Calls.mono (MD _) ?_
    rintro e w33 ⟨rfl, u33⟩
    have HX := hide (u33.get (block_alloc HX.out (.cells #[.int .i64 1, .int .i64 D, .string ⟨#[]⟩, .bool false, .int .i64 0] 26)) id)
    have HY := hide (u33.get (block_alloc HY.out (.cells #[.int .i64 1, .int .i64 D, .string ⟨#[]⟩, .bool false, .int .i64 0] 26)) id)
    have HG := hide (u33.get (block_alloc HG.out (.cells #[.int .i64 1, .int .i64 D, .string ⟨#[]⟩, .bool false, .int .i64 0] 26)) id)
    have HH : Hid (w33.heap[w32.heap.size]? = some (.cells #[.int .i64 1, .int .i64 D, .string ⟨#[]⟩, .bool false, .int .i64 0] 26 (0, 0))) := hide (u33.get (Vnew1 w32 (.cells #[.int .i64 1, .int .i64 D, .string ⟨#[]⟩, .bool false, .int .i64 0] 26)) id)
    have HU33 := hide ((HU32.out.alloc _).then u33 (fun _ _ => id))
    clear u33
    have bX := HX.out
    obtain ⟨x0, x1, x2, x3, x4⟩ := cells5 bX
    have xl := lt_at bX
    clear bX
    have bY := HY.out
    obtain ⟨y0, y1, y2, y3, y4⟩ := cells5 bY
    have yl := lt_at bY
    clear bY
    have yl_ : w2.heap.size < w33.heap.size := by omega
    have bG := HG.out
    obtain ⟨g0, g1, g2, g3, g4⟩ := cells5 bG
    have gl := lt_at bG
    clear bG
    have bH := HH.out
    obtain ⟨h0, h1, h2, h3, h4⟩ := cells5 bH
    have hl := lt_at bH
    clear bH
    have EQ := HEQ.out
    rcases HGL.out with ⟨hD0, hA0, hB0⟩ | ⟨hD0, hA0, hB0⟩
    · have zD : (D == 0) = true := by simpa using hD0
      have zA : (A == 0) = true := by simpa using hA0
      have zB : (B == 0) = true := by simpa using hB0
      clear hD0 hA0 hB0
      go_wp2_with fail
      go_ret
      exact ⟨by simp, HU33.out⟩
    · have zD : (D == 0) = false := by simp; omega
      have pD : decide (0 < D) = true := by simpa using hD0
      have nD : ¬ D = 0 := by omega
      clear hD0
      go_wp2_with fail
      go_ret
      exact ⟨by simp, HU33.out⟩
  · subst e2
    cases q1 with
    | false =>
      go_enter Tryz.func6, Tryz.ntmps6
      go_wp2_with fail
      with_reducible refine Calls.mono (NA _) ?_
      rintro e w1 ⟨rfl, u1⟩
      have HU1 := hide (HU0.out.then u1 (fun _ _ => id))
      clear u1
      go_wp2_with fail
      with_reducible refine Calls.mono (NB _) ?_
      rintro e w2 ⟨rfl, u2⟩
      have HU2 := hide (HU1.out.then u2 (fun _ _ => id))
      clear u2
      go_wp2_with fail
      have HM := hide (rdV_made (w := ((w2.alloc (.cells #[.int .i64 xk, .int .i64 xn, enS xt, .bool xb, .int .i64 xf] 26)).alloc (.cells #[.int .i64 yk, .int .i64 yn, enS yt, .bool yb, .int .i64 yf] 26))) (T := 26) (l := [⟨xk, xn, xt, xb, xf⟩, ⟨yk, yn, yt, yb, yf⟩]) (cur := #[.int .i64 xk, .int .i64 xn, enS xt, .bool xb, .int .i64 xf, .int .i64 yk, .int .i64 yn, enS yt, .bool yb, .int .i64 yf]) rfl)
      have hsz : ((w2.alloc (.cells #[.int .i64 xk, .int .i64 xn, enS xt, .bool xb, .int .i64 xf] 26)).alloc (.cells #[.int .i64 yk, .int .i64 yn, enS yt, .bool yb, .int .i64 yf] 26)).heap.size = w2.heap.size + 1 + 1 := by simp
      rw [hsz] at HM
      refine Calls.mono (CQ _ _ HM) ?_
      rintro e w3 ⟨rfl, u3⟩
      have HX : Hid (w3.heap[w2.heap.size]? = some (.cells #[.int .i64 xk, .int .i64 xn, enS xt, .bool xb, .int .i64 xf] 26 (0, 0))) := hide (u3.get (block_alloc (block_alloc (Vnew1 w2 (.cells #[.int .i64 xk, .int .i64 xn, enS xt, .bool xb, .int .i64 xf] 26)) (.cells #[.int .i64 yk, .int .i64 yn, enS yt, .bool yb, .int .i64 yf] 26)) (.cells #[.int .i64 xk, .int .i64 xn, enS xt, .bool xb, .int .i64 xf, .int .i64 yk, .int .i64 yn, enS yt, .bool yb, .int .i64 yf] 26)) id)
      have HY : Hid (w3.heap[w2.heap.size + 1]? = some (.cells #[.int .i64 yk, .int .i64 yn, enS yt, .bool yb, .int .i64 yf] 26 (0, 0))) := hide (u3.get (block_alloc (Vnew2 w2 (.cells #[.int .i64 xk, .int .i64 xn, enS xt, .bool xb, .int .i64 xf] 26) (.cells #[.int .i64 yk, .int .i64 yn, enS yt, .bool yb, .int .i64 yf] 26)) (.cells #[.int .i64 xk, .int .i64 xn, enS xt, .bool xb, .int .i64 xf, .int .i64 yk, .int .i64 yn, enS yt, .bool yb, .int .i64 yf] 26)) id)
      have HU3 := hide ((((HU2.out.alloc _).alloc _).alloc _).then u3 (fun _ _ => id))
      clear u3
      clear HM hsz
      have bX := HX.out
      obtain ⟨x0, x1, x2, x3, x4⟩ := cells5 bX
      have xl := lt_at bX
      clear bX
      have bY := HY.out
      obtain ⟨y0, y1, y2, y3, y4⟩ := cells5 bY
      have yl := lt_at bY
      clear bY
      have yl_ : w2.heap.size < w3.heap.size := by omega
      go_wp2_with fail
      have HM := hide (rdV_made (w := (w3.alloc (.cells #[.int .i64 k1, .int .i64 n1, enS t1, .bool b1, .int .i64 f1] 26))) (T := 26) (l := [⟨xk, xn, xt, xb, xf⟩, ⟨yk, yn, yt, yb, yf⟩]) (cur := #[.int .i64 xk, .int .i64 xn, enS xt, .bool xb, .int .i64 xf, .int .i64 yk, .int .i64 yn, enS yt, .bool yb, .int .i64 yf]) rfl)
      have hsz : (w3.alloc (.cells #[.int .i64 k1, .int .i64 n1, enS t1, .bool b1, .int .i64 f1] 26)).heap.size = w3.heap.size + 1 := by simp
      rw [hsz] at HM
      refine Calls.mono (CM _ _ HM) ?_
      rintro e w4 ⟨rfl, u4⟩
      have HX := hide (u4.get (block_alloc (block_alloc HX.out (.cells #[.int .i64 k1, .int .i64 n1, enS t1, .bool b1, .int .i64 f1] 26)) (.cells #[.int .i64 xk, .int .i64 xn, enS xt, .bool xb, .int .i64 xf, .int .i64 yk, .int .i64 yn, enS yt, .bool yb, .int .i64 yf] 26)) id)
      have HY := hide (u4.get (block_alloc (block_alloc HY.out (.cells #[.int .i64 k1, .int .i64 n1, enS t1, .bool b1, .int .i64 f1] 26)) (.cells #[.int .i64 xk, .int .i64 xn, enS xt, .bool xb, .int .i64 xf, .int .i64 yk, .int .i64 yn, enS yt, .bool yb, .int .i64 yf] 26)) id)
      have HQ : Hid (w4.heap[w3.heap.size]? = some (.cells #[.int .i64 k1, .int .i64 n1, enS t1, .bool b1, .int .i64 f1] 26 (0, 0))) := hide (u4.get (block_alloc (Vnew1 w3 (.cells #[.int .i64 k1, .int .i64 n1, enS t1, .bool b1, .int .i64 f1] 26)) (.cells #[.int .i64 xk, .int .i64 xn, enS xt, .bool xb, .int .i64 xf, .int .i64 yk, .int .i64 yn, enS yt, .bool yb, .int .i64 yf] 26)) id)
      have HU4 := hide (((HU3.out.alloc _).alloc _).then u4 (fun _ _ => id))
      clear u4
      clear HM hsz
      clear x0 x1 x2 x3 x4 xl y0 y1 y2 y3 y4 yl yl_
      go_wp2_with fail
      with_reducible refine Calls.mono (wakes9_any _ (HG.out.upd (HU4.out.alloc _) id) (HP.out.upd (HU4.out.alloc _) id)) ?_
      rintro e w5 ⟨rfl, u5⟩
      have HX := hide (u5.get (block_alloc HX.out (.cells #[.int .i64 k2, .int .i64 n2, enS t2, .bool b2, .int .i64 f2] 26)) id)
      have HY := hide (u5.get (block_alloc HY.out (.cells #[.int .i64 k2, .int .i64 n2, enS t2, .bool b2, .int .i64 f2] 26)) id)
      have HQ := hide (u5.get (block_alloc HQ.out (.cells #[.int .i64 k2, .int .i64 n2, enS t2, .bool b2, .int .i64 f2] 26)) id)
      have HR : Hid (w5.heap[w4.heap.size]? = some (.cells #[.int .i64 k2, .int .i64 n2, enS t2, .bool b2, .int .i64 f2] 26 (0, 0))) := hide (u5.get (Vnew1 w4 (.cells #[.int .i64 k2, .int .i64 n2, enS t2, .bool b2, .int .i64 f2] 26)) id)
      have HU5 := hide ((HU4.out.alloc _).then u5 (fun _ _ => id))
      clear u5
      have bQ := HQ.out
      obtain ⟨q0, q1, q2, q3, q4⟩ := cells5 bQ
      have ql := lt_at bQ
      clear bQ
      go_wp2_with fail
      with_reducible refine Calls.mono (M1 _) ?_
      rintro e w6 ⟨rfl, u6⟩
      have HX := hide (u6.get HX.out id)
      have HY := hide (u6.get HY.out id)
      have HQ := hide (u6.get HQ.out id)
      have HR := hide (u6.get HR.out id)
      have HU6 := hide (HU5.out.then u6 (fun _ _ => id))
      clear u6
      have bR := HR.out
      obtain ⟨r0, r1, r2, r3, r4⟩ := cells5 bR
      have rl := lt_at bR
      clear bR
      go_wp2_with fail
      with_reducible refine Calls.mono (M2 _) ?_
      rintro e w7 ⟨rfl, u7⟩
      have HX := hide (u7.get HX.out id)
      have HY := hide (u7.get HY.out id)
      have HQ := hide (u7.get HQ.out id)
      have HR := hide (u7.get HR.out id)
      have HU7 := hide (HU6.out.then u7 (fun _ _ => id))
      clear u7
      have bX := HX.out
      obtain ⟨x0, x1, x2, x3, x4⟩ := cells5 bX
      have xl := lt_at bX
      clear bX
      have bY := HY.out
      obtain ⟨y0, y1, y2, y3, y4⟩ := cells5 bY
      have yl := lt_at bY
      clear bY
      have yl_ : w2.heap.size < w7.heap.size := by omega
      go_wp2_with fail
      go_quiet (fail)
      obtain ⟨W, hW⟩ : ∃ W, w7.drewN nq = W := ⟨_, rfl⟩
      have HXW : Hid (W.heap[w2.heap.size]? = some (.cells #[.int .i64 xk, .int .i64 xn, enS xt, .bool xb, .int .i64 xf] 26 (0, 0))) := hide (by rw [← hW]; exact HX.out)
      have HYW : Hid (W.heap[w2.heap.size + 1]? = some (.cells #[.int .i64 yk, .int .i64 yn, enS yt, .bool yb, .int .i64 yf] 26 (0, 0))) := hide (by rw [← hW]; exact HY.out)
      have HUW : Hid (Upd w W (fun _ => False)) := hide (by rw [← hW]; exact HU7.out.drewN nq)
      have HX := HXW
      have HY := HYW
      have HU20 := HUW
      have zsx : Hid (w.heap.size ≤ w2.heap.size) := hide HU2.out.size
      rw [hW]
      clear hW x0 x1 x2 x3 x4 xl y0 y1 y2 y3 y4 yl yl_
      go_wp2_with fail
      with_reducible refine Calls.mono (GA _) ?_
      rintro e w21 ⟨rfl, u21⟩
      have HX := hide (u21.get HX.out id)
      have HY := hide (u21.get HY.out id)
      have HU21 := hide (HU20.out.then u21 (fun _ _ => id))
      clear u21
      go_wp2_with fail
      with_reducible refine Calls.mono (GB _) ?_
      rintro e w22 ⟨rfl, u22⟩
      have HX := hide (u22.get HX.out id)
      have HY := hide (u22.get HY.out id)
      have HU22 := hide (HU21.out.then u22 (fun _ _ => id))
      clear u22
      have bX := HX.out
      obtain ⟨x0, x1, x2, x3, x4⟩ := cells5 bX
      have xl := lt_at bX
      have fx0 := free_at bX 0
      have fx1 := free_at bX 1
      have fx2 := free_at bX 2
      have fx3 := free_at bX 3
      have fx4 := free_at bX 4
      clear bX
      have bY := HY.out
      obtain ⟨y0, y1, y2, y3, y4⟩ := cells5 bY
      have yl := lt_at bY
      have fy0 := free_at bY 0
      have fy1 := free_at bY 1
      have fy2 := free_at bY 2
      have fy3 := free_at bY 3
      have fy4 := free_at bY 4
      clear bY
      have yl_ : w2.heap.size < w22.heap.size := by omega
      go_upto_region 11 with fail
      have sX := block5 (x := ⟨xk, xn, xt, xb, xf⟩) HX.out (.int .i64 1) (.int .i64 A) (.string ⟨#[]⟩) (.bool false) (.int .i64 0)
      have sY := HY.out
      rw [← other5 (show w2.heap.size + 1 ≠ w2.heap.size by omega) (.int .i64 1) (.int .i64 A) (.string ⟨#[]⟩) (.bool false) (.int .i64 0)] at sY
      have sY2 := block5 (x := ⟨yk, yn, yt, yb, yf⟩) sY (.int .i64 1) (.int .i64 B) (.string ⟨#[]⟩) (.bool false) (.int .i64 0)
      rw [← other5 (show w2.heap.size ≠ w2.heap.size + 1 by omega) (.int .i64 1) (.int .i64 B) (.string ⟨#[]⟩) (.bool false) (.int .i64 0)] at sX
      have sU := upd5 (upd5 HU22.out zsx.out (.int .i64 1) (.int .i64 A) (.string ⟨#[]⟩) (.bool false) (.int .i64 0)) (Nat.le_succ_of_le zsx.out) (.int .i64 1) (.int .i64 B) (.string ⟨#[]⟩) (.bool false) (.int .i64 0)
      obtain ⟨Z, hZ⟩ : ∃ Z, (((((World.setCell (((((World.setCell w22 ⟨w2.heap.size, 0, none⟩ (.int .i64 1)).setCell ⟨w2.heap.size, 1, none⟩ (.int .i64 A)).setCell ⟨w2.heap.size, 2, none⟩ (.string ⟨#[]⟩)).setCell ⟨w2.heap.size, 3, none⟩ (.bool false)).setCell ⟨w2.heap.size, 4, none⟩ (.int .i64 0)) ⟨w2.heap.size + 1, 0, none⟩ (.int .i64 1)).setCell ⟨w2.heap.size + 1, 1, none⟩ (.int .i64 B)).setCell ⟨w2.heap.size + 1, 2, none⟩ (.string ⟨#[]⟩)).setCell ⟨w2.heap.size + 1, 3, none⟩ (.bool false)).setCell ⟨w2.heap.size + 1, 4, none⟩ (.int .i64 0)) = Z := ⟨_, rfl⟩
      rw [hZ] at sX sY2 sU ⊢
      have HX := hide sX
      have HY := hide sY2
      have HU30 := hide sU
      clear hZ sX sY sY2 sU x0 x1 x2 x3 x4 xl y0 y1 y2 y3 y4 yl yl_ fx0 fx1 fx2 fx3 fx4 fy0 fy1 fy2 fy3 fy4
      have bX := HX.out
      obtain ⟨x0, x1, x2, x3, x4⟩ := cells5 bX
      have xl := lt_at bX
      clear bX
      have bY := HY.out
      obtain ⟨y0, y1, y2, y3, y4⟩ := cells5 bY
      have yl := lt_at bY
      clear bY
      have yl_ : w2.heap.size < Z.heap.size := by omega
      go_wp2_with fail
      have HM := hide (rdV_made (w := Z) (T := 26) (l := [⟨1, A, [], false, 0⟩, ⟨1, B, [], false, 0⟩]) (cur := #[.int .i64 1, .int .i64 A, .string ⟨#[]⟩, .bool false, .int .i64 0, .int .i64 1, .int .i64 B, .string ⟨#[]⟩, .bool false, .int .i64 0]) rfl)
      refine Calls.mono (CG _ _ HM) ?_
      rintro e w31 ⟨rfl, u31⟩
      have HX := hide (u31.get (block_alloc HX.out (.cells #[.int .i64 1, .int .i64 A, .string ⟨#[]⟩, .bool false, .int .i64 0, .int .i64 1, .int .i64 B, .string ⟨#[]⟩, .bool false, .int .i64 0] 26)) id)
      have HY := hide (u31.get (block_alloc HY.out (.cells #[.int .i64 1, .int .i64 A, .string ⟨#[]⟩, .bool false, .int .i64 0, .int .i64 1, .int .i64 B, .string ⟨#[]⟩, .bool false, .int .i64 0] 26)) id)
      have HU31 := hide ((HU30.out.alloc _).then u31 (fun _ _ => id))
      clear u31
      clear HM
      clear x0 x1 x2 x3 x4 xl y0 y1 y2 y3 y4 yl yl_
      have bX := HX.out
      obtain ⟨x0, x1, x2, x3, x4⟩ := cells5 bX
      have xl := lt_at bX
      clear bX
      have bY := HY.out
      obtain ⟨y0, y1, y2, y3, y4⟩ := cells5 bY
      have yl := lt_at bY
      clear bY
      have yl_ : w2.heap.size < w31.heap.size := by omega
      go_wp2_with fail
      have HM := hide (rdV_made (w := (w31.alloc (.cells #[.int .i64 1, .int .i64 D, .string ⟨#[]⟩, .bool false, .int .i64 0] 26))) (T := 26) (l := [⟨1, B, [], false, 0⟩, ⟨1, A, [], false, 0⟩]) (cur := #[.int .i64 1, .int .i64 B, .string ⟨#[]⟩, .bool false, .int .i64 0, .int .i64 1, .int .i64 A, .string ⟨#[]⟩, .bool false, .int .i64 0]) rfl)
      have hsz : (w31.alloc (.cells #[.int .i64 1, .int .i64 D, .string ⟨#[]⟩, .bool false, .int .i64 0] 26)).heap.size = w31.heap.size + 1 := by simp
      rw [hsz] at HM
      refine Calls.mono (CH _ _ HM) ?_
      rintro e w32 ⟨rfl, u32⟩
      have HX := hide (u32.get (block_alloc (block_alloc HX.out (.cells #[.int .i64 1, .int .i64 D, .string ⟨#[]⟩, .bool false, .int .i64 0] 26)) (.cells #[.int .i64 1, .int .i64 B, .string ⟨#[]⟩, .bool false, .int .i64 0, .int .i64 1, .int .i64 A, .string ⟨#[]⟩, .bool false, .int .i64 0] 26)) id)
      have HY := hide (u32.get (block_alloc (block_alloc HY.out (.cells #[.int .i64 1, .int .i64 D, .string ⟨#[]⟩, .bool false, .int .i64 0] 26)) (.cells #[.int .i64 1, .int .i64 B, .string ⟨#[]⟩, .bool false, .int .i64 0, .int .i64 1, .int .i64 A, .string ⟨#[]⟩, .bool false, .int .i64 0] 26)) id)
      have HG : Hid (w32.heap[w31.heap.size]? = some (.cells #[.int .i64 1, .int .i64 D, .string ⟨#[]⟩, .bool false, .int .i64 0] 26 (0, 0))) := hide (u32.get (block_alloc (Vnew1 w31 (.cells #[.int .i64 1, .int .i64 D, .string ⟨#[]⟩, .bool false, .int .i64 0] 26)) (.cells #[.int .i64 1, .int .i64 B, .string ⟨#[]⟩, .bool false, .int .i64 0, .int .i64 1, .int .i64 A, .string ⟨#[]⟩, .bool false, .int .i64 0] 26)) id)
      have HU32 := hide (((HU31.out.alloc _).alloc _).then u32 (fun _ _ => id))
      clear u32
      clear HM hsz
      clear x0 x1 x2 x3 x4 xl y0 y1 y2 y3 y4 yl yl_
      have bG0 := block_alloc HG.out (.cells #[.int .i64 1, .int .i64 D, .string ⟨#[]⟩, .bool false, .int .i64 0] 26)
      obtain ⟨g0, g1, g2, g3, g4⟩ := cells5 bG0
      have gl := lt_at bG0
      clear bG0
      go_wp2_with fail
      clear g0 g1 g2 g3 g4 gl
      with_reducible refine Calls.mono (MD _) ?_
      rintro e w33 ⟨rfl, u33⟩
      have HX := hide (u33.get (block_alloc HX.out (.cells #[.int .i64 1, .int .i64 D, .string ⟨#[]⟩, .bool false, .int .i64 0] 26)) id)
      have HY := hide (u33.get (block_alloc HY.out (.cells #[.int .i64 1, .int .i64 D, .string ⟨#[]⟩, .bool false, .int .i64 0] 26)) id)
      have HG := hide (u33.get (block_alloc HG.out (.cells #[.int .i64 1, .int .i64 D, .string ⟨#[]⟩, .bool false, .int .i64 0] 26)) id)
      have HH : Hid (w33.heap[w32.heap.size]? = some (.cells #[.int .i64 1, .int .i64 D, .string ⟨#[]⟩, .bool false, .int .i64 0] 26 (0, 0))) := hide (u33.get (Vnew1 w32 (.cells #[.int .i64 1, .int .i64 D, .string ⟨#[]⟩, .bool false, .int .i64 0] 26)) id)
      have HU33 := hide ((HU32.out.alloc _).then u33 (fun _ _ => id))
      clear u33
      have bX := HX.out
      obtain ⟨x0, x1, x2, x3, x4⟩ := cells5 bX
      have xl := lt_at bX
      clear bX
      have bY := HY.out
      obtain ⟨y0, y1, y2, y3, y4⟩ := cells5 bY
      have yl := lt_at bY
      clear bY
      have yl_ : w2.heap.size < w33.heap.size := by omega
      have bG := HG.out
      obtain ⟨g0, g1, g2, g3, g4⟩ := cells5 bG
      have gl := lt_at bG
      clear bG
      have bH := HH.out
      obtain ⟨h0, h1, h2, h3, h4⟩ := cells5 bH
      have hl := lt_at bH
      clear bH
      have EQ := HEQ.out
      rcases HGL.out with ⟨hD0, hA0, hB0⟩ | ⟨hD0, hA0, hB0⟩
      · have zD : (D == 0) = true := by simpa using hD0
        have zA : (A == 0) = true := by simpa using hA0
        have zB : (B == 0) = true := by simpa using hB0
        clear hD0 hA0 hB0
        go_wp2_with fail
        go_ret
        exact ⟨by simp, HU33.out⟩
      · have zD : (D == 0) = false := by simp; omega
        have pD : decide (0 < D) = true := by simpa using hD0
        have nD : ¬ D = 0 := by omega
        clear hD0
        go_wp2_with fail
        go_ret
        exact ⟨by simp, HU33.out⟩
    | true =>
      go_enter Tryz.func6, Tryz.ntmps6
      go_wp2_with fail
      with_reducible refine Calls.mono (NA _) ?_
      rintro e w1 ⟨rfl, u1⟩
      have HU1 := hide (HU0.out.then u1 (fun _ _ => id))
      clear u1
      go_wp2_with fail
      with_reducible refine Calls.mono (NB _) ?_
      rintro e w2 ⟨rfl, u2⟩
      have HU2 := hide (HU1.out.then u2 (fun _ _ => id))
      clear u2
      go_wp2_with fail
      have HM := hide (rdV_made (w := ((w2.alloc (.cells #[.int .i64 xk, .int .i64 xn, enS xt, .bool xb, .int .i64 xf] 26)).alloc (.cells #[.int .i64 yk, .int .i64 yn, enS yt, .bool yb, .int .i64 yf] 26))) (T := 26) (l := [⟨xk, xn, xt, xb, xf⟩, ⟨yk, yn, yt, yb, yf⟩]) (cur := #[.int .i64 xk, .int .i64 xn, enS xt, .bool xb, .int .i64 xf, .int .i64 yk, .int .i64 yn, enS yt, .bool yb, .int .i64 yf]) rfl)
      have hsz : ((w2.alloc (.cells #[.int .i64 xk, .int .i64 xn, enS xt, .bool xb, .int .i64 xf] 26)).alloc (.cells #[.int .i64 yk, .int .i64 yn, enS yt, .bool yb, .int .i64 yf] 26)).heap.size = w2.heap.size + 1 + 1 := by simp
      rw [hsz] at HM
      refine Calls.mono (CQ _ _ HM) ?_
      rintro e w3 ⟨rfl, u3⟩
      have HX : Hid (w3.heap[w2.heap.size]? = some (.cells #[.int .i64 xk, .int .i64 xn, enS xt, .bool xb, .int .i64 xf] 26 (0, 0))) := hide (u3.get (block_alloc (block_alloc (Vnew1 w2 (.cells #[.int .i64 xk, .int .i64 xn, enS xt, .bool xb, .int .i64 xf] 26)) (.cells #[.int .i64 yk, .int .i64 yn, enS yt, .bool yb, .int .i64 yf] 26)) (.cells #[.int .i64 xk, .int .i64 xn, enS xt, .bool xb, .int .i64 xf, .int .i64 yk, .int .i64 yn, enS yt, .bool yb, .int .i64 yf] 26)) id)
      have HY : Hid (w3.heap[w2.heap.size + 1]? = some (.cells #[.int .i64 yk, .int .i64 yn, enS yt, .bool yb, .int .i64 yf] 26 (0, 0))) := hide (u3.get (block_alloc (Vnew2 w2 (.cells #[.int .i64 xk, .int .i64 xn, enS xt, .bool xb, .int .i64 xf] 26) (.cells #[.int .i64 yk, .int .i64 yn, enS yt, .bool yb, .int .i64 yf] 26)) (.cells #[.int .i64 xk, .int .i64 xn, enS xt, .bool xb, .int .i64 xf, .int .i64 yk, .int .i64 yn, enS yt, .bool yb, .int .i64 yf] 26)) id)
      have HU3 := hide ((((HU2.out.alloc _).alloc _).alloc _).then u3 (fun _ _ => id))
      clear u3
      clear HM hsz
      have bX := HX.out
      obtain ⟨x0, x1, x2, x3, x4⟩ := cells5 bX
      have xl := lt_at bX
      clear bX
      have bY := HY.out
      obtain ⟨y0, y1, y2, y3, y4⟩ := cells5 bY
      have yl := lt_at bY
      clear bY
      have yl_ : w2.heap.size < w3.heap.size := by omega
      go_wp2_with fail
      have HM := hide (rdV_made (w := (w3.alloc (.cells #[.int .i64 k1, .int .i64 n1, enS t1, .bool b1, .int .i64 f1] 26))) (T := 26) (l := [⟨xk, xn, xt, xb, xf⟩, ⟨yk, yn, yt, yb, yf⟩]) (cur := #[.int .i64 xk, .int .i64 xn, enS xt, .bool xb, .int .i64 xf, .int .i64 yk, .int .i64 yn, enS yt, .bool yb, .int .i64 yf]) rfl)
      have hsz : (w3.alloc (.cells #[.int .i64 k1, .int .i64 n1, enS t1, .bool b1, .int .i64 f1] 26)).heap.size = w3.heap.size + 1 := by simp
      rw [hsz] at HM
      refine Calls.mono (CM _ _ HM) ?_
      rintro e w4 ⟨rfl, u4⟩
      have HX := hide (u4.get (block_alloc (block_alloc HX.out (.cells #[.int .i64 k1, .int .i64 n1, enS t1, .bool b1, .int .i64 f1] 26)) (.cells #[.int .i64 xk, .int .i64 xn, enS xt, .bool xb, .int .i64 xf, .int .i64 yk, .int .i64 yn, enS yt, .bool yb, .int .i64 yf] 26)) id)
      have HY := hide (u4.get (block_alloc (block_alloc HY.out (.cells #[.int .i64 k1, .int .i64 n1, enS t1, .bool b1, .int .i64 f1] 26)) (.cells #[.int .i64 xk, .int .i64 xn, enS xt, .bool xb, .int .i64 xf, .int .i64 yk, .int .i64 yn, enS yt, .bool yb, .int .i64 yf] 26)) id)
      have HQ : Hid (w4.heap[w3.heap.size]? = some (.cells #[.int .i64 k1, .int .i64 n1, enS t1, .bool b1, .int .i64 f1] 26 (0, 0))) := hide (u4.get (block_alloc (Vnew1 w3 (.cells #[.int .i64 k1, .int .i64 n1, enS t1, .bool b1, .int .i64 f1] 26)) (.cells #[.int .i64 xk, .int .i64 xn, enS xt, .bool xb, .int .i64 xf, .int .i64 yk, .int .i64 yn, enS yt, .bool yb, .int .i64 yf] 26)) id)
      have HU4 := hide (((HU3.out.alloc _).alloc _).then u4 (fun _ _ => id))
      clear u4
      clear HM hsz
      clear x0 x1 x2 x3 x4 xl y0 y1 y2 y3 y4 yl yl_
      go_wp2_with fail
      with_reducible refine Calls.mono (wakes9_any _ (HG.out.upd (HU4.out.alloc _) id) (HP.out.upd (HU4.out.alloc _) id)) ?_
      rintro e w5 ⟨rfl, u5⟩
      have HX := hide (u5.get (block_alloc HX.out (.cells #[.int .i64 k2, .int .i64 n2, enS t2, .bool b2, .int .i64 f2] 26)) id)
      have HY := hide (u5.get (block_alloc HY.out (.cells #[.int .i64 k2, .int .i64 n2, enS t2, .bool b2, .int .i64 f2] 26)) id)
      have HQ := hide (u5.get (block_alloc HQ.out (.cells #[.int .i64 k2, .int .i64 n2, enS t2, .bool b2, .int .i64 f2] 26)) id)
      have HR : Hid (w5.heap[w4.heap.size]? = some (.cells #[.int .i64 k2, .int .i64 n2, enS t2, .bool b2, .int .i64 f2] 26 (0, 0))) := hide (u5.get (Vnew1 w4 (.cells #[.int .i64 k2, .int .i64 n2, enS t2, .bool b2, .int .i64 f2] 26)) id)
      have HU5 := hide ((HU4.out.alloc _).then u5 (fun _ _ => id))
      clear u5
      have bQ := HQ.out
      obtain ⟨q0, q1, q2, q3, q4⟩ := cells5 bQ
      have ql := lt_at bQ
      clear bQ
      go_wp2_with fail
      with_reducible refine Calls.mono (M1 _) ?_
      rintro e w6 ⟨rfl, u6⟩
      have HX := hide (u6.get HX.out id)
      have HY := hide (u6.get HY.out id)
      have HQ := hide (u6.get HQ.out id)
      have HR := hide (u6.get HR.out id)
      have HU6 := hide (HU5.out.then u6 (fun _ _ => id))
      clear u6
      have bR := HR.out
      obtain ⟨r0, r1, r2, r3, r4⟩ := cells5 bR
      have rl := lt_at bR
      clear bR
      go_wp2_with fail
      with_reducible refine Calls.mono (M2 _) ?_
      rintro e w7 ⟨rfl, u7⟩
      have HX := hide (u7.get HX.out id)
      have HY := hide (u7.get HY.out id)
      have HQ := hide (u7.get HQ.out id)
      have HR := hide (u7.get HR.out id)
      have HU7 := hide (HU6.out.then u7 (fun _ _ => id))
      clear u7
      have bX := HX.out
      obtain ⟨x0, x1, x2, x3, x4⟩ := cells5 bX
      have xl := lt_at bX
      clear bX
      have bY := HY.out
      obtain ⟨y0, y1, y2, y3, y4⟩ := cells5 bY
      have yl := lt_at bY
      clear bY
      have yl_ : w2.heap.size < w7.heap.size := by omega
      go_wp2_with fail
      go_quiet (fail)
      obtain ⟨W, hW⟩ : ∃ W, w7.drewN nq = W := ⟨_, rfl⟩
      have HXW : Hid (W.heap[w2.heap.size]? = some (.cells #[.int .i64 xk, .int .i64 xn, enS xt, .bool xb, .int .i64 xf] 26 (0, 0))) := hide (by rw [← hW]; exact HX.out)
      have HYW : Hid (W.heap[w2.heap.size + 1]? = some (.cells #[.int .i64 yk, .int .i64 yn, enS yt, .bool yb, .int .i64 yf] 26 (0, 0))) := hide (by rw [← hW]; exact HY.out)
      have HUW : Hid (Upd w W (fun _ => False)) := hide (by rw [← hW]; exact HU7.out.drewN nq)
      have HX := HXW
      have HY := HYW
      have HU20 := HUW
      have zsx : Hid (w.heap.size ≤ w2.heap.size) := hide HU2.out.size
      rw [hW]
      clear hW x0 x1 x2 x3 x4 xl y0 y1 y2 y3 y4 yl yl_
      go_wp2_with fail
      with_reducible refine Calls.mono (GA _) ?_
      rintro e w21 ⟨rfl, u21⟩
      have HX := hide (u21.get HX.out id)
      have HY := hide (u21.get HY.out id)
      have HU21 := hide (HU20.out.then u21 (fun _ _ => id))
      clear u21
      go_wp2_with fail
      with_reducible refine Calls.mono (GB _) ?_
      rintro e w22 ⟨rfl, u22⟩
      have HX := hide (u22.get HX.out id)
      have HY := hide (u22.get HY.out id)
      have HU22 := hide (HU21.out.then u22 (fun _ _ => id))
      clear u22
      have bX := HX.out
      obtain ⟨x0, x1, x2, x3, x4⟩ := cells5 bX
      have xl := lt_at bX
      have fx0 := free_at bX 0
      have fx1 := free_at bX 1
      have fx2 := free_at bX 2
      have fx3 := free_at bX 3
      have fx4 := free_at bX 4
      clear bX
      have bY := HY.out
      obtain ⟨y0, y1, y2, y3, y4⟩ := cells5 bY
      have yl := lt_at bY
      have fy0 := free_at bY 0
      have fy1 := free_at bY 1
      have fy2 := free_at bY 2
      have fy3 := free_at bY 3
      have fy4 := free_at bY 4
      clear bY
      have yl_ : w2.heap.size < w22.heap.size := by omega
      go_upto_region 11 with fail
      have sX := block5 (x := ⟨xk, xn, xt, xb, xf⟩) HX.out (.int .i64 1) (.int .i64 A) (.string ⟨#[]⟩) (.bool false) (.int .i64 0)
      have sY := HY.out
      rw [← other5 (show w2.heap.size + 1 ≠ w2.heap.size by omega) (.int .i64 1) (.int .i64 A) (.string ⟨#[]⟩) (.bool false) (.int .i64 0)] at sY
      have sY2 := block5 (x := ⟨yk, yn, yt, yb, yf⟩) sY (.int .i64 1) (.int .i64 B) (.string ⟨#[]⟩) (.bool false) (.int .i64 0)
      rw [← other5 (show w2.heap.size ≠ w2.heap.size + 1 by omega) (.int .i64 1) (.int .i64 B) (.string ⟨#[]⟩) (.bool false) (.int .i64 0)] at sX
      have sU := upd5 (upd5 HU22.out zsx.out (.int .i64 1) (.int .i64 A) (.string ⟨#[]⟩) (.bool false) (.int .i64 0)) (Nat.le_succ_of_le zsx.out) (.int .i64 1) (.int .i64 B) (.string ⟨#[]⟩) (.bool false) (.int .i64 0)
      obtain ⟨Z, hZ⟩ : ∃ Z, (((((World.setCell (((((World.setCell w22 ⟨w2.heap.size, 0, none⟩ (.int .i64 1)).setCell ⟨w2.heap.size, 1, none⟩ (.int .i64 A)).setCell ⟨w2.heap.size, 2, none⟩ (.string ⟨#[]⟩)).setCell ⟨w2.heap.size, 3, none⟩ (.bool false)).setCell ⟨w2.heap.size, 4, none⟩ (.int .i64 0)) ⟨w2.heap.size + 1, 0, none⟩ (.int .i64 1)).setCell ⟨w2.heap.size + 1, 1, none⟩ (.int .i64 B)).setCell ⟨w2.heap.size + 1, 2, none⟩ (.string ⟨#[]⟩)).setCell ⟨w2.heap.size + 1, 3, none⟩ (.bool false)).setCell ⟨w2.heap.size + 1, 4, none⟩ (.int .i64 0)) = Z := ⟨_, rfl⟩
      rw [hZ] at sX sY2 sU ⊢
      have HX := hide sX
      have HY := hide sY2
      have HU30 := hide sU
      clear hZ sX sY sY2 sU x0 x1 x2 x3 x4 xl y0 y1 y2 y3 y4 yl yl_ fx0 fx1 fx2 fx3 fx4 fy0 fy1 fy2 fy3 fy4
      have bX := HX.out
      obtain ⟨x0, x1, x2, x3, x4⟩ := cells5 bX
      have xl := lt_at bX
      clear bX
      have bY := HY.out
      obtain ⟨y0, y1, y2, y3, y4⟩ := cells5 bY
      have yl := lt_at bY
      clear bY
      have yl_ : w2.heap.size < Z.heap.size := by omega
      go_wp2_with fail
      have HM := hide (rdV_made (w := Z) (T := 26) (l := [⟨1, A, [], false, 0⟩, ⟨1, B, [], false, 0⟩]) (cur := #[.int .i64 1, .int .i64 A, .string ⟨#[]⟩, .bool false, .int .i64 0, .int .i64 1, .int .i64 B, .string ⟨#[]⟩, .bool false, .int .i64 0]) rfl)
      refine Calls.mono (CG _ _ HM) ?_
      rintro e w31 ⟨rfl, u31⟩
      have HX := hide (u31.get (block_alloc HX.out (.cells #[.int .i64 1, .int .i64 A, .string ⟨#[]⟩, .bool false, .int .i64 0, .int .i64 1, .int .i64 B, .string ⟨#[]⟩, .bool false, .int .i64 0] 26)) id)
      have HY := hide (u31.get (block_alloc HY.out (.cells #[.int .i64 1, .int .i64 A, .string ⟨#[]⟩, .bool false, .int .i64 0, .int .i64 1, .int .i64 B, .string ⟨#[]⟩, .bool false, .int .i64 0] 26)) id)
      have HU31 := hide ((HU30.out.alloc _).then u31 (fun _ _ => id))
      clear u31
      clear HM
      clear x0 x1 x2 x3 x4 xl y0 y1 y2 y3 y4 yl yl_
      have bX := HX.out
      obtain ⟨x0, x1, x2, x3, x4⟩ := cells5 bX
      have xl := lt_at bX
      clear bX
      have bY := HY.out
      obtain ⟨y0, y1, y2, y3, y4⟩ := cells5 bY
      have yl := lt_at bY
      clear bY
      have yl_ : w2.heap.size < w31.heap.size := by omega
      go_wp2_with fail
      have HM := hide (rdV_made (w := (w31.alloc (.cells #[.int .i64 1, .int .i64 D, .string ⟨#[]⟩, .bool false, .int .i64 0] 26))) (T := 26) (l := [⟨1, B, [], false, 0⟩, ⟨1, A, [], false, 0⟩]) (cur := #[.int .i64 1, .int .i64 B, .string ⟨#[]⟩, .bool false, .int .i64 0, .int .i64 1, .int .i64 A, .string ⟨#[]⟩, .bool false, .int .i64 0]) rfl)
      have hsz : (w31.alloc (.cells #[.int .i64 1, .int .i64 D, .string ⟨#[]⟩, .bool false, .int .i64 0] 26)).heap.size = w31.heap.size + 1 := by simp
      rw [hsz] at HM
      refine Calls.mono (CH _ _ HM) ?_
      rintro e w32 ⟨rfl, u32⟩
      have HX := hide (u32.get (block_alloc (block_alloc HX.out (.cells #[.int .i64 1, .int .i64 D, .string ⟨#[]⟩, .bool false, .int .i64 0] 26)) (.cells #[.int .i64 1, .int .i64 B, .string ⟨#[]⟩, .bool false, .int .i64 0, .int .i64 1, .int .i64 A, .string ⟨#[]⟩, .bool false, .int .i64 0] 26)) id)
      have HY := hide (u32.get (block_alloc (block_alloc HY.out (.cells #[.int .i64 1, .int .i64 D, .string ⟨#[]⟩, .bool false, .int .i64 0] 26)) (.cells #[.int .i64 1, .int .i64 B, .string ⟨#[]⟩, .bool false, .int .i64 0, .int .i64 1, .int .i64 A, .string ⟨#[]⟩, .bool false, .int .i64 0] 26)) id)
      have HG : Hid (w32.heap[w31.heap.size]? = some (.cells #[.int .i64 1, .int .i64 D, .string ⟨#[]⟩, .bool false, .int .i64 0] 26 (0, 0))) := hide (u32.get (block_alloc (Vnew1 w31 (.cells #[.int .i64 1, .int .i64 D, .string ⟨#[]⟩, .bool false, .int .i64 0] 26)) (.cells #[.int .i64 1, .int .i64 B, .string ⟨#[]⟩, .bool false, .int .i64 0, .int .i64 1, .int .i64 A, .string ⟨#[]⟩, .bool false, .int .i64 0] 26)) id)
      have HU32 := hide (((HU31.out.alloc _).alloc _).then u32 (fun _ _ => id))
      clear u32
      clear HM hsz
      clear x0 x1 x2 x3 x4 xl y0 y1 y2 y3 y4 yl yl_
      have bG0 := block_alloc HG.out (.cells #[.int .i64 1, .int .i64 D, .string ⟨#[]⟩, .bool false, .int .i64 0] 26)
      obtain ⟨g0, g1, g2, g3, g4⟩ := cells5 bG0
      have gl := lt_at bG0
      clear bG0
      go_wp2_with fail
      clear g0 g1 g2 g3 g4 gl
      with_reducible refine Calls.mono (MD _) ?_
      rintro e w33 ⟨rfl, u33⟩
      have HX := hide (u33.get (block_alloc HX.out (.cells #[.int .i64 1, .int .i64 D, .string ⟨#[]⟩, .bool false, .int .i64 0] 26)) id)
      have HY := hide (u33.get (block_alloc HY.out (.cells #[.int .i64 1, .int .i64 D, .string ⟨#[]⟩, .bool false, .int .i64 0] 26)) id)
      have HG := hide (u33.get (block_alloc HG.out (.cells #[.int .i64 1, .int .i64 D, .string ⟨#[]⟩, .bool false, .int .i64 0] 26)) id)
      have HH : Hid (w33.heap[w32.heap.size]? = some (.cells #[.int .i64 1, .int .i64 D, .string ⟨#[]⟩, .bool false, .int .i64 0] 26 (0, 0))) := hide (u33.get (Vnew1 w32 (.cells #[.int .i64 1, .int .i64 D, .string ⟨#[]⟩, .bool false, .int .i64 0] 26)) id)
      have HU33 := hide ((HU32.out.alloc _).then u33 (fun _ _ => id))
      clear u33
      have bX := HX.out
      obtain ⟨x0, x1, x2, x3, x4⟩ := cells5 bX
      have xl := lt_at bX
      clear bX
      have bY := HY.out
      obtain ⟨y0, y1, y2, y3, y4⟩ := cells5 bY
      have yl := lt_at bY
      clear bY
      have yl_ : w2.heap.size < w33.heap.size := by omega
      have bG := HG.out
      obtain ⟨g0, g1, g2, g3, g4⟩ := cells5 bG
      have gl := lt_at bG
      clear bG
      have bH := HH.out
      obtain ⟨h0, h1, h2, h3, h4⟩ := cells5 bH
      have hl := lt_at bH
      clear bH
      have EQ := HEQ.out
      rcases HGL.out with ⟨hD0, hA0, hB0⟩ | ⟨hD0, hA0, hB0⟩
      · have zD : (D == 0) = true := by simpa using hD0
        have zA : (A == 0) = true := by simpa using hA0
        have zB : (B == 0) = true := by simpa using hB0
        clear hD0 hA0 hB0
        go_wp2_with fail
        go_ret
        exact ⟨by simp, HU33.out⟩
      · have zD : (D == 0) = false := by simp; omega
        have pD : decide (0 < D) = true := by simpa using hD0
        have nD : ¬ D = 0 := by omega
        clear hD0
        go_wp2_with fail
        go_ret
        exact ⟨by simp, HU33.out⟩
  · subst e1 e2
    have zy : (yn == 0) = false := by simpa using h0
    have rx : -9000000000000000000 ≤ xn ∧ xn ≤ 9000000000000000000 := okNum_true ox
    have ry : -9000000000000000000 ≤ yn ∧ yn ≤ 9000000000000000000 := okNum_true oy
    have rn : -9000000000000000000 ≤ n2 ∧ n2 ≤ 9000000000000000000 := okNum_true on
    obtain ⟨r, hr⟩ : ∃ r, xn.tmod yn = r := ⟨_, rfl⟩
    simp only at h3 h0 t1'
    rw [hr] at h3
    have hrr : -9000000000000000000 ≤ r ∧ r ≤ 9000000000000000000 := by
      have h1 := Int.natAbs_tmod xn yn
      rw [hr] at h1
      have h2 : r.natAbs ≤ xn.natAbs := by rw [h1]; exact Nat.mod_le _ _
      omega
    have wr : IntKind.i64.wrap r = r := by rw [IntWalk.i64_in _ (by omega)]
    by_cases he : n2 = r
    · subst he
      clear h3 rx ry rn ox oy on hrr
      go_enter Tryz.func6, Tryz.ntmps6
      go_wp2_with fail
      with_reducible refine Calls.mono (NA _) ?_
      rintro e w1 ⟨rfl, u1⟩
      have HU1 := hide (HU0.out.then u1 (fun _ _ => id))
      clear u1
      go_wp2_with fail
      with_reducible refine Calls.mono (NB _) ?_
      rintro e w2 ⟨rfl, u2⟩
      have HU2 := hide (HU1.out.then u2 (fun _ _ => id))
      clear u2
      go_wp2_with fail
      have HM := hide (rdV_made (w := ((w2.alloc (.cells #[.int .i64 xk, .int .i64 xn, enS xt, .bool xb, .int .i64 xf] 26)).alloc (.cells #[.int .i64 yk, .int .i64 yn, enS yt, .bool yb, .int .i64 yf] 26))) (T := 26) (l := [⟨xk, xn, xt, xb, xf⟩, ⟨yk, yn, yt, yb, yf⟩]) (cur := #[.int .i64 xk, .int .i64 xn, enS xt, .bool xb, .int .i64 xf, .int .i64 yk, .int .i64 yn, enS yt, .bool yb, .int .i64 yf]) rfl)
      have hsz : ((w2.alloc (.cells #[.int .i64 xk, .int .i64 xn, enS xt, .bool xb, .int .i64 xf] 26)).alloc (.cells #[.int .i64 yk, .int .i64 yn, enS yt, .bool yb, .int .i64 yf] 26)).heap.size = w2.heap.size + 1 + 1 := by simp
      rw [hsz] at HM
      refine Calls.mono (CQ _ _ HM) ?_
      rintro e w3 ⟨rfl, u3⟩
      have HX : Hid (w3.heap[w2.heap.size]? = some (.cells #[.int .i64 xk, .int .i64 xn, enS xt, .bool xb, .int .i64 xf] 26 (0, 0))) := hide (u3.get (block_alloc (block_alloc (Vnew1 w2 (.cells #[.int .i64 xk, .int .i64 xn, enS xt, .bool xb, .int .i64 xf] 26)) (.cells #[.int .i64 yk, .int .i64 yn, enS yt, .bool yb, .int .i64 yf] 26)) (.cells #[.int .i64 xk, .int .i64 xn, enS xt, .bool xb, .int .i64 xf, .int .i64 yk, .int .i64 yn, enS yt, .bool yb, .int .i64 yf] 26)) id)
      have HY : Hid (w3.heap[w2.heap.size + 1]? = some (.cells #[.int .i64 yk, .int .i64 yn, enS yt, .bool yb, .int .i64 yf] 26 (0, 0))) := hide (u3.get (block_alloc (Vnew2 w2 (.cells #[.int .i64 xk, .int .i64 xn, enS xt, .bool xb, .int .i64 xf] 26) (.cells #[.int .i64 yk, .int .i64 yn, enS yt, .bool yb, .int .i64 yf] 26)) (.cells #[.int .i64 xk, .int .i64 xn, enS xt, .bool xb, .int .i64 xf, .int .i64 yk, .int .i64 yn, enS yt, .bool yb, .int .i64 yf] 26)) id)
      have HU3 := hide ((((HU2.out.alloc _).alloc _).alloc _).then u3 (fun _ _ => id))
      clear u3
      clear HM hsz
      have bX := HX.out
      obtain ⟨x0, x1, x2, x3, x4⟩ := cells5 bX
      have xl := lt_at bX
      clear bX
      have bY := HY.out
      obtain ⟨y0, y1, y2, y3, y4⟩ := cells5 bY
      have yl := lt_at bY
      clear bY
      have yl_ : w2.heap.size < w3.heap.size := by omega
      go_wp2_with fail
      have HM := hide (rdV_made (w := (w3.alloc (.cells #[.int .i64 k1, .int .i64 n1, enS t1, .bool b1, .int .i64 f1] 26))) (T := 26) (l := [⟨xk, xn, xt, xb, xf⟩, ⟨yk, yn, yt, yb, yf⟩]) (cur := #[.int .i64 xk, .int .i64 xn, enS xt, .bool xb, .int .i64 xf, .int .i64 yk, .int .i64 yn, enS yt, .bool yb, .int .i64 yf]) rfl)
      have hsz : (w3.alloc (.cells #[.int .i64 k1, .int .i64 n1, enS t1, .bool b1, .int .i64 f1] 26)).heap.size = w3.heap.size + 1 := by simp
      rw [hsz] at HM
      refine Calls.mono (CM _ _ HM) ?_
      rintro e w4 ⟨rfl, u4⟩
      have HX := hide (u4.get (block_alloc (block_alloc HX.out (.cells #[.int .i64 k1, .int .i64 n1, enS t1, .bool b1, .int .i64 f1] 26)) (.cells #[.int .i64 xk, .int .i64 xn, enS xt, .bool xb, .int .i64 xf, .int .i64 yk, .int .i64 yn, enS yt, .bool yb, .int .i64 yf] 26)) id)
      have HY := hide (u4.get (block_alloc (block_alloc HY.out (.cells #[.int .i64 k1, .int .i64 n1, enS t1, .bool b1, .int .i64 f1] 26)) (.cells #[.int .i64 xk, .int .i64 xn, enS xt, .bool xb, .int .i64 xf, .int .i64 yk, .int .i64 yn, enS yt, .bool yb, .int .i64 yf] 26)) id)
      have HQ : Hid (w4.heap[w3.heap.size]? = some (.cells #[.int .i64 k1, .int .i64 n1, enS t1, .bool b1, .int .i64 f1] 26 (0, 0))) := hide (u4.get (block_alloc (Vnew1 w3 (.cells #[.int .i64 k1, .int .i64 n1, enS t1, .bool b1, .int .i64 f1] 26)) (.cells #[.int .i64 xk, .int .i64 xn, enS xt, .bool xb, .int .i64 xf, .int .i64 yk, .int .i64 yn, enS yt, .bool yb, .int .i64 yf] 26)) id)
      have HU4 := hide (((HU3.out.alloc _).alloc _).then u4 (fun _ _ => id))
      clear u4
      clear HM hsz
      clear x0 x1 x2 x3 x4 xl y0 y1 y2 y3 y4 yl yl_
      go_wp2_with fail
      with_reducible refine Calls.mono (wakes9_any _ (HG.out.upd (HU4.out.alloc _) id) (HP.out.upd (HU4.out.alloc _) id)) ?_
      rintro e w5 ⟨rfl, u5⟩
      have HX := hide (u5.get (block_alloc HX.out (.cells #[.int .i64 k2, .int .i64 n2, enS t2, .bool b2, .int .i64 f2] 26)) id)
      have HY := hide (u5.get (block_alloc HY.out (.cells #[.int .i64 k2, .int .i64 n2, enS t2, .bool b2, .int .i64 f2] 26)) id)
      have HQ := hide (u5.get (block_alloc HQ.out (.cells #[.int .i64 k2, .int .i64 n2, enS t2, .bool b2, .int .i64 f2] 26)) id)
      have HR : Hid (w5.heap[w4.heap.size]? = some (.cells #[.int .i64 k2, .int .i64 n2, enS t2, .bool b2, .int .i64 f2] 26 (0, 0))) := hide (u5.get (Vnew1 w4 (.cells #[.int .i64 k2, .int .i64 n2, enS t2, .bool b2, .int .i64 f2] 26)) id)
      have HU5 := hide ((HU4.out.alloc _).then u5 (fun _ _ => id))
      clear u5
      have bQ := HQ.out
      obtain ⟨q0, q1, q2, q3, q4⟩ := cells5 bQ
      have ql := lt_at bQ
      clear bQ
      go_wp2_with fail
      with_reducible refine Calls.mono (M1 _) ?_
      rintro e w6 ⟨rfl, u6⟩
      have HX := hide (u6.get HX.out id)
      have HY := hide (u6.get HY.out id)
      have HQ := hide (u6.get HQ.out id)
      have HR := hide (u6.get HR.out id)
      have HU6 := hide (HU5.out.then u6 (fun _ _ => id))
      clear u6
      have bR := HR.out
      obtain ⟨r0, r1, r2, r3, r4⟩ := cells5 bR
      have rl := lt_at bR
      clear bR
      go_wp2_with fail
      with_reducible refine Calls.mono (M2 _) ?_
      rintro e w7 ⟨rfl, u7⟩
      have HX := hide (u7.get HX.out id)
      have HY := hide (u7.get HY.out id)
      have HQ := hide (u7.get HQ.out id)
      have HR := hide (u7.get HR.out id)
      have HU7 := hide (HU6.out.then u7 (fun _ _ => id))
      clear u7
      have bX := HX.out
      obtain ⟨x0, x1, x2, x3, x4⟩ := cells5 bX
      have xl := lt_at bX
      clear bX
      have bY := HY.out
      obtain ⟨y0, y1, y2, y3, y4⟩ := cells5 bY
      have yl := lt_at bY
      clear bY
      have yl_ : w2.heap.size < w7.heap.size := by omega
      go_wp2_with fail
      go_quiet (fail)
      obtain ⟨W, hW⟩ : ∃ W, w7.drewN nq = W := ⟨_, rfl⟩
      have HXW : Hid (W.heap[w2.heap.size]? = some (.cells #[.int .i64 xk, .int .i64 xn, enS xt, .bool xb, .int .i64 xf] 26 (0, 0))) := hide (by rw [← hW]; exact HX.out)
      have HYW : Hid (W.heap[w2.heap.size + 1]? = some (.cells #[.int .i64 yk, .int .i64 yn, enS yt, .bool yb, .int .i64 yf] 26 (0, 0))) := hide (by rw [← hW]; exact HY.out)
      have HUW : Hid (Upd w W (fun _ => False)) := hide (by rw [← hW]; exact HU7.out.drewN nq)
      have HX := HXW
      have HY := HYW
      have HU20 := HUW
      have zsx : Hid (w.heap.size ≤ w2.heap.size) := hide HU2.out.size
      rw [hW]
      clear hW x0 x1 x2 x3 x4 xl y0 y1 y2 y3 y4 yl yl_
      go_wp2_with fail
      with_reducible refine Calls.mono (GA _) ?_
      rintro e w21 ⟨rfl, u21⟩
      have HX := hide (u21.get HX.out id)
      have HY := hide (u21.get HY.out id)
      have HU21 := hide (HU20.out.then u21 (fun _ _ => id))
      clear u21
      go_wp2_with fail
      with_reducible refine Calls.mono (GB _) ?_
      rintro e w22 ⟨rfl, u22⟩
      have HX := hide (u22.get HX.out id)
      have HY := hide (u22.get HY.out id)
      have HU22 := hide (HU21.out.then u22 (fun _ _ => id))
      clear u22
      have bX := HX.out
      obtain ⟨x0, x1, x2, x3, x4⟩ := cells5 bX
      have xl := lt_at bX
      have fx0 := free_at bX 0
      have fx1 := free_at bX 1
      have fx2 := free_at bX 2
      have fx3 := free_at bX 3
      have fx4 := free_at bX 4
      clear bX
      have bY := HY.out
      obtain ⟨y0, y1, y2, y3, y4⟩ := cells5 bY
      have yl := lt_at bY
      have fy0 := free_at bY 0
      have fy1 := free_at bY 1
      have fy2 := free_at bY 2
      have fy3 := free_at bY 3
      have fy4 := free_at bY 4
      clear bY
      have yl_ : w2.heap.size < w22.heap.size := by omega
      go_upto_region 11 with fail
      have sX := block5 (x := ⟨xk, xn, xt, xb, xf⟩) HX.out (.int .i64 1) (.int .i64 A) (.string ⟨#[]⟩) (.bool false) (.int .i64 0)
      have sY := HY.out
      rw [← other5 (show w2.heap.size + 1 ≠ w2.heap.size by omega) (.int .i64 1) (.int .i64 A) (.string ⟨#[]⟩) (.bool false) (.int .i64 0)] at sY
      have sY2 := block5 (x := ⟨yk, yn, yt, yb, yf⟩) sY (.int .i64 1) (.int .i64 B) (.string ⟨#[]⟩) (.bool false) (.int .i64 0)
      rw [← other5 (show w2.heap.size ≠ w2.heap.size + 1 by omega) (.int .i64 1) (.int .i64 B) (.string ⟨#[]⟩) (.bool false) (.int .i64 0)] at sX
      have sU := upd5 (upd5 HU22.out zsx.out (.int .i64 1) (.int .i64 A) (.string ⟨#[]⟩) (.bool false) (.int .i64 0)) (Nat.le_succ_of_le zsx.out) (.int .i64 1) (.int .i64 B) (.string ⟨#[]⟩) (.bool false) (.int .i64 0)
      obtain ⟨Z, hZ⟩ : ∃ Z, (((((World.setCell (((((World.setCell w22 ⟨w2.heap.size, 0, none⟩ (.int .i64 1)).setCell ⟨w2.heap.size, 1, none⟩ (.int .i64 A)).setCell ⟨w2.heap.size, 2, none⟩ (.string ⟨#[]⟩)).setCell ⟨w2.heap.size, 3, none⟩ (.bool false)).setCell ⟨w2.heap.size, 4, none⟩ (.int .i64 0)) ⟨w2.heap.size + 1, 0, none⟩ (.int .i64 1)).setCell ⟨w2.heap.size + 1, 1, none⟩ (.int .i64 B)).setCell ⟨w2.heap.size + 1, 2, none⟩ (.string ⟨#[]⟩)).setCell ⟨w2.heap.size + 1, 3, none⟩ (.bool false)).setCell ⟨w2.heap.size + 1, 4, none⟩ (.int .i64 0)) = Z := ⟨_, rfl⟩
      rw [hZ] at sX sY2 sU ⊢
      have HX := hide sX
      have HY := hide sY2
      have HU30 := hide sU
      clear hZ sX sY sY2 sU x0 x1 x2 x3 x4 xl y0 y1 y2 y3 y4 yl yl_ fx0 fx1 fx2 fx3 fx4 fy0 fy1 fy2 fy3 fy4
      have bX := HX.out
      obtain ⟨x0, x1, x2, x3, x4⟩ := cells5 bX
      have xl := lt_at bX
      clear bX
      have bY := HY.out
      obtain ⟨y0, y1, y2, y3, y4⟩ := cells5 bY
      have yl := lt_at bY
      clear bY
      have yl_ : w2.heap.size < Z.heap.size := by omega
      go_wp2_with fail
      have HM := hide (rdV_made (w := Z) (T := 26) (l := [⟨1, A, [], false, 0⟩, ⟨1, B, [], false, 0⟩]) (cur := #[.int .i64 1, .int .i64 A, .string ⟨#[]⟩, .bool false, .int .i64 0, .int .i64 1, .int .i64 B, .string ⟨#[]⟩, .bool false, .int .i64 0]) rfl)
      refine Calls.mono (CG _ _ HM) ?_
      rintro e w31 ⟨rfl, u31⟩
      have HX := hide (u31.get (block_alloc HX.out (.cells #[.int .i64 1, .int .i64 A, .string ⟨#[]⟩, .bool false, .int .i64 0, .int .i64 1, .int .i64 B, .string ⟨#[]⟩, .bool false, .int .i64 0] 26)) id)
      have HY := hide (u31.get (block_alloc HY.out (.cells #[.int .i64 1, .int .i64 A, .string ⟨#[]⟩, .bool false, .int .i64 0, .int .i64 1, .int .i64 B, .string ⟨#[]⟩, .bool false, .int .i64 0] 26)) id)
      have HU31 := hide ((HU30.out.alloc _).then u31 (fun _ _ => id))
      clear u31
      clear HM
      clear x0 x1 x2 x3 x4 xl y0 y1 y2 y3 y4 yl yl_
      have bX := HX.out
      obtain ⟨x0, x1, x2, x3, x4⟩ := cells5 bX
      have xl := lt_at bX
      clear bX
      have bY := HY.out
      obtain ⟨y0, y1, y2, y3, y4⟩ := cells5 bY
      have yl := lt_at bY
      clear bY
      have yl_ : w2.heap.size < w31.heap.size := by omega
      go_wp2_with fail
      have HM := hide (rdV_made (w := (w31.alloc (.cells #[.int .i64 1, .int .i64 D, .string ⟨#[]⟩, .bool false, .int .i64 0] 26))) (T := 26) (l := [⟨1, B, [], false, 0⟩, ⟨1, A, [], false, 0⟩]) (cur := #[.int .i64 1, .int .i64 B, .string ⟨#[]⟩, .bool false, .int .i64 0, .int .i64 1, .int .i64 A, .string ⟨#[]⟩, .bool false, .int .i64 0]) rfl)
      have hsz : (w31.alloc (.cells #[.int .i64 1, .int .i64 D, .string ⟨#[]⟩, .bool false, .int .i64 0] 26)).heap.size = w31.heap.size + 1 := by simp
      rw [hsz] at HM
      refine Calls.mono (CH _ _ HM) ?_
      rintro e w32 ⟨rfl, u32⟩
      have HX := hide (u32.get (block_alloc (block_alloc HX.out (.cells #[.int .i64 1, .int .i64 D, .string ⟨#[]⟩, .bool false, .int .i64 0] 26)) (.cells #[.int .i64 1, .int .i64 B, .string ⟨#[]⟩, .bool false, .int .i64 0, .int .i64 1, .int .i64 A, .string ⟨#[]⟩, .bool false, .int .i64 0] 26)) id)
      have HY := hide (u32.get (block_alloc (block_alloc HY.out (.cells #[.int .i64 1, .int .i64 D, .string ⟨#[]⟩, .bool false, .int .i64 0] 26)) (.cells #[.int .i64 1, .int .i64 B, .string ⟨#[]⟩, .bool false, .int .i64 0, .int .i64 1, .int .i64 A, .string ⟨#[]⟩, .bool false, .int .i64 0] 26)) id)
      have HG : Hid (w32.heap[w31.heap.size]? = some (.cells #[.int .i64 1, .int .i64 D, .string ⟨#[]⟩, .bool false, .int .i64 0] 26 (0, 0))) := hide (u32.get (block_alloc (Vnew1 w31 (.cells #[.int .i64 1, .int .i64 D, .string ⟨#[]⟩, .bool false, .int .i64 0] 26)) (.cells #[.int .i64 1, .int .i64 B, .string ⟨#[]⟩, .bool false, .int .i64 0, .int .i64 1, .int .i64 A, .string ⟨#[]⟩, .bool false, .int .i64 0] 26)) id)
      have HU32 := hide (((HU31.out.alloc _).alloc _).then u32 (fun _ _ => id))
      clear u32
      clear HM hsz
      clear x0 x1 x2 x3 x4 xl y0 y1 y2 y3 y4 yl yl_
      have bG0 := block_alloc HG.out (.cells #[.int .i64 1, .int .i64 D, .string ⟨#[]⟩, .bool false, .int .i64 0] 26)
      obtain ⟨g0, g1, g2, g3, g4⟩ := cells5 bG0
      have gl := lt_at bG0
      clear bG0
      go_wp2_with fail
      clear g0 g1 g2 g3 g4 gl
      with_reducible refine Calls.mono (MD _) ?_
      rintro e w33 ⟨rfl, u33⟩
      have HX := hide (u33.get (block_alloc HX.out (.cells #[.int .i64 1, .int .i64 D, .string ⟨#[]⟩, .bool false, .int .i64 0] 26)) id)
      have HY := hide (u33.get (block_alloc HY.out (.cells #[.int .i64 1, .int .i64 D, .string ⟨#[]⟩, .bool false, .int .i64 0] 26)) id)
      have HG := hide (u33.get (block_alloc HG.out (.cells #[.int .i64 1, .int .i64 D, .string ⟨#[]⟩, .bool false, .int .i64 0] 26)) id)
      have HH : Hid (w33.heap[w32.heap.size]? = some (.cells #[.int .i64 1, .int .i64 D, .string ⟨#[]⟩, .bool false, .int .i64 0] 26 (0, 0))) := hide (u33.get (Vnew1 w32 (.cells #[.int .i64 1, .int .i64 D, .string ⟨#[]⟩, .bool false, .int .i64 0] 26)) id)
      have HU33 := hide ((HU32.out.alloc _).then u33 (fun _ _ => id))
      clear u33
      have bX := HX.out
      obtain ⟨x0, x1, x2, x3, x4⟩ := cells5 bX
      have xl := lt_at bX
      clear bX
      have bY := HY.out
      obtain ⟨y0, y1, y2, y3, y4⟩ := cells5 bY
      have yl := lt_at bY
      clear bY
      have yl_ : w2.heap.size < w33.heap.size := by omega
      have bG := HG.out
      obtain ⟨g0, g1, g2, g3, g4⟩ := cells5 bG
      have gl := lt_at bG
      clear bG
      have bH := HH.out
      obtain ⟨h0, h1, h2, h3, h4⟩ := cells5 bH
      have hl := lt_at bH
      clear bH
      have EQ := HEQ.out
      rcases HGL.out with ⟨hD0, hA0, hB0⟩ | ⟨hD0, hA0, hB0⟩
      · have zD : (D == 0) = true := by simpa using hD0
        have zA : (A == 0) = true := by simpa using hA0
        have zB : (B == 0) = true := by simpa using hB0
        clear hD0 hA0 hB0
        go_wp2_with fail
        go_ret
        exact ⟨by simp, HU33.out⟩
      · have zD : (D == 0) = false := by simp; omega
        have pD : decide (0 < D) = true := by simpa using hD0
        have nD : ¬ D = 0 := by omega
        clear hD0
        go_wp2_with fail
        go_ret
        exact ⟨by simp, HU33.out⟩
    · have h4 := h3.resolve_left he
      have ne1 : (n2 != r) = true := by simpa using he
      have w4 : IntKind.i64.wrap (r + yn) = n2 := by rw [IntWalk.i64_in _ (by omega)]; exact h4.symm
      have h5 : r + yn = n2 := h4.symm
      have w5 : IntKind.i64.wrap n2 = n2 := by rw [IntWalk.i64_in _ (by omega)]
      clear h3 h4 he rx ry rn ox oy on hrr
      go_enter Tryz.func6, Tryz.ntmps6
      go_wp2_with fail
      with_reducible refine Calls.mono (NA _) ?_
      rintro e w1 ⟨rfl, u1⟩
      have HU1 := hide (HU0.out.then u1 (fun _ _ => id))
      clear u1
      go_wp2_with fail
      with_reducible refine Calls.mono (NB _) ?_
      rintro e w2 ⟨rfl, u2⟩
      have HU2 := hide (HU1.out.then u2 (fun _ _ => id))
      clear u2
      go_wp2_with fail
      have HM := hide (rdV_made (w := ((w2.alloc (.cells #[.int .i64 xk, .int .i64 xn, enS xt, .bool xb, .int .i64 xf] 26)).alloc (.cells #[.int .i64 yk, .int .i64 yn, enS yt, .bool yb, .int .i64 yf] 26))) (T := 26) (l := [⟨xk, xn, xt, xb, xf⟩, ⟨yk, yn, yt, yb, yf⟩]) (cur := #[.int .i64 xk, .int .i64 xn, enS xt, .bool xb, .int .i64 xf, .int .i64 yk, .int .i64 yn, enS yt, .bool yb, .int .i64 yf]) rfl)
      have hsz : ((w2.alloc (.cells #[.int .i64 xk, .int .i64 xn, enS xt, .bool xb, .int .i64 xf] 26)).alloc (.cells #[.int .i64 yk, .int .i64 yn, enS yt, .bool yb, .int .i64 yf] 26)).heap.size = w2.heap.size + 1 + 1 := by simp
      rw [hsz] at HM
      refine Calls.mono (CQ _ _ HM) ?_
      rintro e w3 ⟨rfl, u3⟩
      have HX : Hid (w3.heap[w2.heap.size]? = some (.cells #[.int .i64 xk, .int .i64 xn, enS xt, .bool xb, .int .i64 xf] 26 (0, 0))) := hide (u3.get (block_alloc (block_alloc (Vnew1 w2 (.cells #[.int .i64 xk, .int .i64 xn, enS xt, .bool xb, .int .i64 xf] 26)) (.cells #[.int .i64 yk, .int .i64 yn, enS yt, .bool yb, .int .i64 yf] 26)) (.cells #[.int .i64 xk, .int .i64 xn, enS xt, .bool xb, .int .i64 xf, .int .i64 yk, .int .i64 yn, enS yt, .bool yb, .int .i64 yf] 26)) id)
      have HY : Hid (w3.heap[w2.heap.size + 1]? = some (.cells #[.int .i64 yk, .int .i64 yn, enS yt, .bool yb, .int .i64 yf] 26 (0, 0))) := hide (u3.get (block_alloc (Vnew2 w2 (.cells #[.int .i64 xk, .int .i64 xn, enS xt, .bool xb, .int .i64 xf] 26) (.cells #[.int .i64 yk, .int .i64 yn, enS yt, .bool yb, .int .i64 yf] 26)) (.cells #[.int .i64 xk, .int .i64 xn, enS xt, .bool xb, .int .i64 xf, .int .i64 yk, .int .i64 yn, enS yt, .bool yb, .int .i64 yf] 26)) id)
      have HU3 := hide ((((HU2.out.alloc _).alloc _).alloc _).then u3 (fun _ _ => id))
      clear u3
      clear HM hsz
      have bX := HX.out
      obtain ⟨x0, x1, x2, x3, x4⟩ := cells5 bX
      have xl := lt_at bX
      clear bX
      have bY := HY.out
      obtain ⟨y0, y1, y2, y3, y4⟩ := cells5 bY
      have yl := lt_at bY
      clear bY
      have yl_ : w2.heap.size < w3.heap.size := by omega
      go_wp2_with fail
      have HM := hide (rdV_made (w := (w3.alloc (.cells #[.int .i64 k1, .int .i64 n1, enS t1, .bool b1, .int .i64 f1] 26))) (T := 26) (l := [⟨xk, xn, xt, xb, xf⟩, ⟨yk, yn, yt, yb, yf⟩]) (cur := #[.int .i64 xk, .int .i64 xn, enS xt, .bool xb, .int .i64 xf, .int .i64 yk, .int .i64 yn, enS yt, .bool yb, .int .i64 yf]) rfl)
      have hsz : (w3.alloc (.cells #[.int .i64 k1, .int .i64 n1, enS t1, .bool b1, .int .i64 f1] 26)).heap.size = w3.heap.size + 1 := by simp
      rw [hsz] at HM
      refine Calls.mono (CM _ _ HM) ?_
      rintro e w4 ⟨rfl, u4⟩
      have HX := hide (u4.get (block_alloc (block_alloc HX.out (.cells #[.int .i64 k1, .int .i64 n1, enS t1, .bool b1, .int .i64 f1] 26)) (.cells #[.int .i64 xk, .int .i64 xn, enS xt, .bool xb, .int .i64 xf, .int .i64 yk, .int .i64 yn, enS yt, .bool yb, .int .i64 yf] 26)) id)
      have HY := hide (u4.get (block_alloc (block_alloc HY.out (.cells #[.int .i64 k1, .int .i64 n1, enS t1, .bool b1, .int .i64 f1] 26)) (.cells #[.int .i64 xk, .int .i64 xn, enS xt, .bool xb, .int .i64 xf, .int .i64 yk, .int .i64 yn, enS yt, .bool yb, .int .i64 yf] 26)) id)
      have HQ : Hid (w4.heap[w3.heap.size]? = some (.cells #[.int .i64 k1, .int .i64 n1, enS t1, .bool b1, .int .i64 f1] 26 (0, 0))) := hide (u4.get (block_alloc (Vnew1 w3 (.cells #[.int .i64 k1, .int .i64 n1, enS t1, .bool b1, .int .i64 f1] 26)) (.cells #[.int .i64 xk, .int .i64 xn, enS xt, .bool xb, .int .i64 xf, .int .i64 yk, .int .i64 yn, enS yt, .bool yb, .int .i64 yf] 26)) id)
      have HU4 := hide (((HU3.out.alloc _).alloc _).then u4 (fun _ _ => id))
      clear u4
      clear HM hsz
      clear x0 x1 x2 x3 x4 xl y0 y1 y2 y3 y4 yl yl_
      go_wp2_with fail
      with_reducible refine Calls.mono (wakes9_any _ (HG.out.upd (HU4.out.alloc _) id) (HP.out.upd (HU4.out.alloc _) id)) ?_
      rintro e w5 ⟨rfl, u5⟩
      have HX := hide (u5.get (block_alloc HX.out (.cells #[.int .i64 k2, .int .i64 n2, enS t2, .bool b2, .int .i64 f2] 26)) id)
      have HY := hide (u5.get (block_alloc HY.out (.cells #[.int .i64 k2, .int .i64 n2, enS t2, .bool b2, .int .i64 f2] 26)) id)
      have HQ := hide (u5.get (block_alloc HQ.out (.cells #[.int .i64 k2, .int .i64 n2, enS t2, .bool b2, .int .i64 f2] 26)) id)
      have HR : Hid (w5.heap[w4.heap.size]? = some (.cells #[.int .i64 k2, .int .i64 n2, enS t2, .bool b2, .int .i64 f2] 26 (0, 0))) := hide (u5.get (Vnew1 w4 (.cells #[.int .i64 k2, .int .i64 n2, enS t2, .bool b2, .int .i64 f2] 26)) id)
      have HU5 := hide ((HU4.out.alloc _).then u5 (fun _ _ => id))
      clear u5
      have bQ := HQ.out
      obtain ⟨q0, q1, q2, q3, q4⟩ := cells5 bQ
      have ql := lt_at bQ
      clear bQ
      go_wp2_with fail
      with_reducible refine Calls.mono (M1 _) ?_
      rintro e w6 ⟨rfl, u6⟩
      have HX := hide (u6.get HX.out id)
      have HY := hide (u6.get HY.out id)
      have HQ := hide (u6.get HQ.out id)
      have HR := hide (u6.get HR.out id)
      have HU6 := hide (HU5.out.then u6 (fun _ _ => id))
      clear u6
      have bR := HR.out
      obtain ⟨r0, r1, r2, r3, r4⟩ := cells5 bR
      have rl := lt_at bR
      clear bR
      go_wp2_with fail
      with_reducible refine Calls.mono (M2 _) ?_
      rintro e w7 ⟨rfl, u7⟩
      have HX := hide (u7.get HX.out id)
      have HY := hide (u7.get HY.out id)
      have HQ := hide (u7.get HQ.out id)
      have HR := hide (u7.get HR.out id)
      have HU7 := hide (HU6.out.then u7 (fun _ _ => id))
      clear u7
      have bX := HX.out
      obtain ⟨x0, x1, x2, x3, x4⟩ := cells5 bX
      have xl := lt_at bX
      clear bX
      have bY := HY.out
      obtain ⟨y0, y1, y2, y3, y4⟩ := cells5 bY
      have yl := lt_at bY
      clear bY
      have yl_ : w2.heap.size < w7.heap.size := by omega
      go_wp2_with fail
      go_quiet (fail)
      obtain ⟨W, hW⟩ : ∃ W, w7.drewN nq = W := ⟨_, rfl⟩
      have HXW : Hid (W.heap[w2.heap.size]? = some (.cells #[.int .i64 xk, .int .i64 xn, enS xt, .bool xb, .int .i64 xf] 26 (0, 0))) := hide (by rw [← hW]; exact HX.out)
      have HYW : Hid (W.heap[w2.heap.size + 1]? = some (.cells #[.int .i64 yk, .int .i64 yn, enS yt, .bool yb, .int .i64 yf] 26 (0, 0))) := hide (by rw [← hW]; exact HY.out)
      have HUW : Hid (Upd w W (fun _ => False)) := hide (by rw [← hW]; exact HU7.out.drewN nq)
      have HX := HXW
      have HY := HYW
      have HU20 := HUW
      have zsx : Hid (w.heap.size ≤ w2.heap.size) := hide HU2.out.size
      rw [hW]
      clear hW x0 x1 x2 x3 x4 xl y0 y1 y2 y3 y4 yl yl_
      go_wp2_with fail
      with_reducible refine Calls.mono (GA _) ?_
      rintro e w21 ⟨rfl, u21⟩
      have HX := hide (u21.get HX.out id)
      have HY := hide (u21.get HY.out id)
      have HU21 := hide (HU20.out.then u21 (fun _ _ => id))
      clear u21
      go_wp2_with fail
      with_reducible refine Calls.mono (GB _) ?_
      rintro e w22 ⟨rfl, u22⟩
      have HX := hide (u22.get HX.out id)
      have HY := hide (u22.get HY.out id)
      have HU22 := hide (HU21.out.then u22 (fun _ _ => id))
      clear u22
      have bX := HX.out
      obtain ⟨x0, x1, x2, x3, x4⟩ := cells5 bX
      have xl := lt_at bX
      have fx0 := free_at bX 0
      have fx1 := free_at bX 1
      have fx2 := free_at bX 2
      have fx3 := free_at bX 3
      have fx4 := free_at bX 4
      clear bX
      have bY := HY.out
      obtain ⟨y0, y1, y2, y3, y4⟩ := cells5 bY
      have yl := lt_at bY
      have fy0 := free_at bY 0
      have fy1 := free_at bY 1
      have fy2 := free_at bY 2
      have fy3 := free_at bY 3
      have fy4 := free_at bY 4
      clear bY
      have yl_ : w2.heap.size < w22.heap.size := by omega
      go_upto_region 11 with fail
      have sX := block5 (x := ⟨xk, xn, xt, xb, xf⟩) HX.out (.int .i64 1) (.int .i64 A) (.string ⟨#[]⟩) (.bool false) (.int .i64 0)
      have sY := HY.out
      rw [← other5 (show w2.heap.size + 1 ≠ w2.heap.size by omega) (.int .i64 1) (.int .i64 A) (.string ⟨#[]⟩) (.bool false) (.int .i64 0)] at sY
      have sY2 := block5 (x := ⟨yk, yn, yt, yb, yf⟩) sY (.int .i64 1) (.int .i64 B) (.string ⟨#[]⟩) (.bool false) (.int .i64 0)
      rw [← other5 (show w2.heap.size ≠ w2.heap.size + 1 by omega) (.int .i64 1) (.int .i64 B) (.string ⟨#[]⟩) (.bool false) (.int .i64 0)] at sX
      have sU := upd5 (upd5 HU22.out zsx.out (.int .i64 1) (.int .i64 A) (.string ⟨#[]⟩) (.bool false) (.int .i64 0)) (Nat.le_succ_of_le zsx.out) (.int .i64 1) (.int .i64 B) (.string ⟨#[]⟩) (.bool false) (.int .i64 0)
      obtain ⟨Z, hZ⟩ : ∃ Z, (((((World.setCell (((((World.setCell w22 ⟨w2.heap.size, 0, none⟩ (.int .i64 1)).setCell ⟨w2.heap.size, 1, none⟩ (.int .i64 A)).setCell ⟨w2.heap.size, 2, none⟩ (.string ⟨#[]⟩)).setCell ⟨w2.heap.size, 3, none⟩ (.bool false)).setCell ⟨w2.heap.size, 4, none⟩ (.int .i64 0)) ⟨w2.heap.size + 1, 0, none⟩ (.int .i64 1)).setCell ⟨w2.heap.size + 1, 1, none⟩ (.int .i64 B)).setCell ⟨w2.heap.size + 1, 2, none⟩ (.string ⟨#[]⟩)).setCell ⟨w2.heap.size + 1, 3, none⟩ (.bool false)).setCell ⟨w2.heap.size + 1, 4, none⟩ (.int .i64 0)) = Z := ⟨_, rfl⟩
      rw [hZ] at sX sY2 sU ⊢
      have HX := hide sX
      have HY := hide sY2
      have HU30 := hide sU
      clear hZ sX sY sY2 sU x0 x1 x2 x3 x4 xl y0 y1 y2 y3 y4 yl yl_ fx0 fx1 fx2 fx3 fx4 fy0 fy1 fy2 fy3 fy4
      have bX := HX.out
      obtain ⟨x0, x1, x2, x3, x4⟩ := cells5 bX
      have xl := lt_at bX
      clear bX
      have bY := HY.out
      obtain ⟨y0, y1, y2, y3, y4⟩ := cells5 bY
      have yl := lt_at bY
      clear bY
      have yl_ : w2.heap.size < Z.heap.size := by omega
      go_wp2_with fail
      have HM := hide (rdV_made (w := Z) (T := 26) (l := [⟨1, A, [], false, 0⟩, ⟨1, B, [], false, 0⟩]) (cur := #[.int .i64 1, .int .i64 A, .string ⟨#[]⟩, .bool false, .int .i64 0, .int .i64 1, .int .i64 B, .string ⟨#[]⟩, .bool false, .int .i64 0]) rfl)
      refine Calls.mono (CG _ _ HM) ?_
      rintro e w31 ⟨rfl, u31⟩
      have HX := hide (u31.get (block_alloc HX.out (.cells #[.int .i64 1, .int .i64 A, .string ⟨#[]⟩, .bool false, .int .i64 0, .int .i64 1, .int .i64 B, .string ⟨#[]⟩, .bool false, .int .i64 0] 26)) id)
      have HY := hide (u31.get (block_alloc HY.out (.cells #[.int .i64 1, .int .i64 A, .string ⟨#[]⟩, .bool false, .int .i64 0, .int .i64 1, .int .i64 B, .string ⟨#[]⟩, .bool false, .int .i64 0] 26)) id)
      have HU31 := hide ((HU30.out.alloc _).then u31 (fun _ _ => id))
      clear u31
      clear HM
      clear x0 x1 x2 x3 x4 xl y0 y1 y2 y3 y4 yl yl_
      have bX := HX.out
      obtain ⟨x0, x1, x2, x3, x4⟩ := cells5 bX
      have xl := lt_at bX
      clear bX
      have bY := HY.out
      obtain ⟨y0, y1, y2, y3, y4⟩ := cells5 bY
      have yl := lt_at bY
      clear bY
      have yl_ : w2.heap.size < w31.heap.size := by omega
      go_wp2_with fail
      have HM := hide (rdV_made (w := (w31.alloc (.cells #[.int .i64 1, .int .i64 D, .string ⟨#[]⟩, .bool false, .int .i64 0] 26))) (T := 26) (l := [⟨1, B, [], false, 0⟩, ⟨1, A, [], false, 0⟩]) (cur := #[.int .i64 1, .int .i64 B, .string ⟨#[]⟩, .bool false, .int .i64 0, .int .i64 1, .int .i64 A, .string ⟨#[]⟩, .bool false, .int .i64 0]) rfl)
      have hsz : (w31.alloc (.cells #[.int .i64 1, .int .i64 D, .string ⟨#[]⟩, .bool false, .int .i64 0] 26)).heap.size = w31.heap.size + 1 := by simp
      rw [hsz] at HM
      refine Calls.mono (CH _ _ HM) ?_
      rintro e w32 ⟨rfl, u32⟩
      have HX := hide (u32.get (block_alloc (block_alloc HX.out (.cells #[.int .i64 1, .int .i64 D, .string ⟨#[]⟩, .bool false, .int .i64 0] 26)) (.cells #[.int .i64 1, .int .i64 B, .string ⟨#[]⟩, .bool false, .int .i64 0, .int .i64 1, .int .i64 A, .string ⟨#[]⟩, .bool false, .int .i64 0] 26)) id)
      have HY := hide (u32.get (block_alloc (block_alloc HY.out (.cells #[.int .i64 1, .int .i64 D, .string ⟨#[]⟩, .bool false, .int .i64 0] 26)) (.cells #[.int .i64 1, .int .i64 B, .string ⟨#[]⟩, .bool false, .int .i64 0, .int .i64 1, .int .i64 A, .string ⟨#[]⟩, .bool false, .int .i64 0] 26)) id)
      have HG : Hid (w32.heap[w31.heap.size]? = some (.cells #[.int .i64 1, .int .i64 D, .string ⟨#[]⟩, .bool false, .int .i64 0] 26 (0, 0))) := hide (u32.get (block_alloc (Vnew1 w31 (.cells #[.int .i64 1, .int .i64 D, .string ⟨#[]⟩, .bool false, .int .i64 0] 26)) (.cells #[.int .i64 1, .int .i64 B, .string ⟨#[]⟩, .bool false, .int .i64 0, .int .i64 1, .int .i64 A, .string ⟨#[]⟩, .bool false, .int .i64 0] 26)) id)
      have HU32 := hide (((HU31.out.alloc _).alloc _).then u32 (fun _ _ => id))
      clear u32
      clear HM hsz
      clear x0 x1 x2 x3 x4 xl y0 y1 y2 y3 y4 yl yl_
      have bG0 := block_alloc HG.out (.cells #[.int .i64 1, .int .i64 D, .string ⟨#[]⟩, .bool false, .int .i64 0] 26)
      obtain ⟨g0, g1, g2, g3, g4⟩ := cells5 bG0
      have gl := lt_at bG0
      clear bG0
      go_wp2_with fail
      clear g0 g1 g2 g3 g4 gl
      with_reducible refine Calls.mono (MD _) ?_
      rintro e w33 ⟨rfl, u33⟩
      have HX := hide (u33.get (block_alloc HX.out (.cells #[.int .i64 1, .int .i64 D, .string ⟨#[]⟩, .bool false, .int .i64 0] 26)) id)
      have HY := hide (u33.get (block_alloc HY.out (.cells #[.int .i64 1, .int .i64 D, .string ⟨#[]⟩, .bool false, .int .i64 0] 26)) id)
      have HG := hide (u33.get (block_alloc HG.out (.cells #[.int .i64 1, .int .i64 D, .string ⟨#[]⟩, .bool false, .int .i64 0] 26)) id)
      have HH : Hid (w33.heap[w32.heap.size]? = some (.cells #[.int .i64 1, .int .i64 D, .string ⟨#[]⟩, .bool false, .int .i64 0] 26 (0, 0))) := hide (u33.get (Vnew1 w32 (.cells #[.int .i64 1, .int .i64 D, .string ⟨#[]⟩, .bool false, .int .i64 0] 26)) id)
      have HU33 := hide ((HU32.out.alloc _).then u33 (fun _ _ => id))
      clear u33
      have bX := HX.out
      obtain ⟨x0, x1, x2, x3, x4⟩ := cells5 bX
      have xl := lt_at bX
      clear bX
      have bY := HY.out
      obtain ⟨y0, y1, y2, y3, y4⟩ := cells5 bY
      have yl := lt_at bY
      clear bY
      have yl_ : w2.heap.size < w33.heap.size := by omega
      have bG := HG.out
      obtain ⟨g0, g1, g2, g3, g4⟩ := cells5 bG
      have gl := lt_at bG
      clear bG
      have bH := HH.out
      obtain ⟨h0, h1, h2, h3, h4⟩ := cells5 bH
      have hl := lt_at bH
      clear bH
      have EQ := HEQ.out
      rcases HGL.out with ⟨hD0, hA0, hB0⟩ | ⟨hD0, hA0, hB0⟩
      · have zD : (D == 0) = true := by simpa using hD0
        have zA : (A == 0) = true := by simpa using hA0
        have zB : (B == 0) = true := by simpa using hB0
        clear hD0 hA0 hB0
        go_wp2_with fail
        go_ret
        exact ⟨by simp, HU33.out⟩
      · have zD : (D == 0) = false := by simp; omega
        have pD : decide (0 < D) = true := by simpa using hD0
        have nD : ¬ D = 0 := by omega
        clear hD0
        go_wp2_with fail
        go_ret
        exact ⟨by simp, HU33.out⟩
end Go.Proofs.YtmfngdjhkpddoaaGreatDoor
