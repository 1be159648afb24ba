/- The walk of NumsTurns. -/
import Derived.Test.YtmfngdjhkpddoaaGreatDoorJ43
import Derived.Test.YtmfngdjhkpddoaaGreatDoorJX1
set_option maxRecDepth 100000
namespace Go.Proofs.YtmfngdjhkpddoaaGreatDoor
open Go.RowKit Go.Lat Go.Lib

theorem new_drew (w : World) (A : Obj) : (w.alloc A).drew.heap[w.heap.size]? = some A := Vnew1 w A
theorem upd_drew (w : World) (A : Obj) : Upd w (w.alloc A).drew (fun _ => False) := ((Upd.refl w _).alloc _).drew
set_option maxHeartbeats 12800000 in
theorem NumsTurns_any (w : World) (hg : Sig w) (hp : Pow w) (x y : Vl) (hx : x.ok) (hy : y.ok) : Calls Tryz.prog 8 #[x.val, y.val] w fun e w' => e = .returned (.bool true) ∧ Upd w w' (fun _ => False) := by
  obtain ⟨xk, xn, xt, xb, xf⟩ := x
  obtain ⟨yk, yn, yt, yb, yf⟩ := y
  obtain ⟨at', hc0⟩ : ∃ c, xt.take 300 = c := ⟨_, rfl⟩
  obtain ⟨ct, hc1⟩ : ∃ c, yt.take 300 = c := ⟨_, rfl⟩
  have l0 : at'.length ≤ 300 := by rw [← hc0]; simp; omega
  have l1 : ct.length ≤ 300 := by rw [← hc1]; simp; omega
  have V0 := fun w => lawvals9_any w xk xn xt at' xb xf hc0
  have V1 := fun w => lawvals9_any w yk yn yt ct yb yf hc1
  have okx : (Vl.mk xk xn at' xb xf).ok := ⟨hx.k, hx.n, Nat.le_trans l0 (by decide), hx.f⟩
  have oky : (Vl.mk yk yn ct yb yf).ok := ⟨hy.k, hy.n, Nat.le_trans l1 (by decide), hy.f⟩
  have GA := fun w => Good_any w _ okx
  have GC := fun w => Good_any w _ oky
  have TL := fun h1 h2 h3 h4 => @turn_law (Vl.mk xk xn at' xb xf) (Vl.mk yk yn ct yb yf) h1 h2 h3 h4
  have OKB := fun n => binV_ok n (Vl.mk xk xn at' xb xf) (Vl.mk yk yn ct yb yf)
  have BXY := fun n w h1 h2 => Bin_any w h1 h2 n _ _ okx oky (Nat.le_trans l0 (by decide)) (Nat.le_trans l1 (by decide))
  have BYX := fun n w h1 h2 => Bin_any w h1 h2 n _ _ oky okx (Nat.le_trans l1 (by decide)) (Nat.le_trans l0 (by decide))
  have NG := fun w => Neg_any w _ oky (Nat.le_trans l1 (by decide))
  have hnok : (negV (Vl.mk yk yn ct yb yf)).ok ∧ (negV (Vl.mk yk yn ct yb yf)).t.length ≤ 1000000 := by
    unfold negV
    split
    · refine ⟨mkN_ok _, ?_⟩
      unfold mkN mkE
      split <;> exact Nat.zero_le _
    · exact ⟨mkE_ok _, Nat.zero_le _⟩
  have BXN := fun n w h1 h2 => Bin_any w h1 h2 n _ _ okx hnok.1 (Nat.le_trans l0 (by decide)) hnok.2
  obtain ⟨⟨nk, nn, nt, nb, nf⟩, hng⟩ : ∃ p, negV (Vl.mk yk yn ct yb yf) = p := ⟨_, rfl⟩
  rw [hng] at NG BXN TL
  unfold Vl.val at GA GC NG ⊢
  simp only at GA GC NG TL ⊢
  have HG := hide hg
  have HP := hide hp
  have HBXY := hide BXY
  have HBYX := hide BYX
  have HBXN := hide BXN
  have HTL := hide TL
  have HOKB := hide OKB
  obtain ⟨ga_, hga_⟩ : ∃ q, goodV (Vl.mk xk xn at' xb xf) = q := ⟨_, rfl⟩
  obtain ⟨gc_, hgc_⟩ : ∃ q, goodV (Vl.mk yk yn ct yb yf) = q := ⟨_, rfl⟩
  rw [hga_] at GA
  rw [hgc_] at GC
  have HGA := hide hga_
  have HGC := hide hgc_
  have HU0 : Hid (Upd w w (fun _ => False)) := hide (Upd.refl w _)
  clear l0 l1 hc0 hc1 hx hy hg hp okx oky hng BXY BYX BXN TL OKB hnok hga_ hgc_
  by_cases k1 : xk = 4
  · have b1 : (xk == 4) = true := by simpa using k1
    clear k1
    go_enter Tryz.func8, Tryz.ntmps8
    go_wp2_with fail
    with_reducible refine Calls.mono (V0 _) ?_
    rintro e w1 ⟨rfl, u1⟩
    have HX : Hid (w1.heap[w.heap.size]? = some (.cells #[.int .i64 xk, .int .i64 xn, enS xt, .bool xb, .int .i64 xf] 35 (0, 0))) := hide (u1.get (block_alloc (Vnew1 w (.cells #[.int .i64 xk, .int .i64 xn, enS xt, .bool xb, .int .i64 xf] 35)) (.cells #[.int .i64 yk, .int .i64 yn, enS yt, .bool yb, .int .i64 yf] 35)) id)
    have HY : Hid (w1.heap[w.heap.size + 1]? = some (.cells #[.int .i64 yk, .int .i64 yn, enS yt, .bool yb, .int .i64 yf] 35 (0, 0))) := hide (u1.get (Vnew2 w (.cells #[.int .i64 xk, .int .i64 xn, enS xt, .bool xb, .int .i64 xf] 35) (.cells #[.int .i64 yk, .int .i64 yn, enS yt, .bool yb, .int .i64 yf] 35)) id)
    have HU1 := hide (((HU0.out.alloc _).alloc _).then u1 (fun _ _ => id))
    clear u1
    have bY := HY.out
    obtain ⟨y0, y1, y2, y3, y4⟩ := cells5 bY
    have yl := lt_at bY
    clear bY
    have yl_ : w.heap.size < w1.heap.size := by omega
    go_wp2_with fail
    with_reducible refine Calls.mono (V1 _) ?_
    rintro e w2 ⟨rfl, u2⟩
    have HX := hide (u2.get (block_alloc (block_alloc HX.out (.cells #[.int .i64 xk, .int .i64 xn, enS at', .bool xb, .int .i64 xf] 26)) (.cells #[.int .i64 xk, .int .i64 xn, enS at', .bool xb, .int .i64 xf] 36)) id)
    have HY := hide (u2.get (block_alloc (block_alloc HY.out (.cells #[.int .i64 xk, .int .i64 xn, enS at', .bool xb, .int .i64 xf] 26)) (.cells #[.int .i64 xk, .int .i64 xn, enS at', .bool xb, .int .i64 xf] 36)) id)
    have HA : Hid (w2.heap[w1.heap.size]? = some (.cells #[.int .i64 xk, .int .i64 xn, enS at', .bool xb, .int .i64 xf] 26 (0, 0))) := hide (u2.get (block_alloc (Vnew1 w1 (.cells #[.int .i64 xk, .int .i64 xn, enS at', .bool xb, .int .i64 xf] 26)) (.cells #[.int .i64 xk, .int .i64 xn, enS at', .bool xb, .int .i64 xf] 36)) id)
    have HB : Hid (w2.heap[w1.heap.size + 1]? = some (.cells #[.int .i64 xk, .int .i64 xn, enS at', .bool xb, .int .i64 xf] 36 (0, 0))) := hide (u2.get (Vnew2 w1 (.cells #[.int .i64 xk, .int .i64 xn, enS at', .bool xb, .int .i64 xf] 26) (.cells #[.int .i64 xk, .int .i64 xn, enS at', .bool xb, .int .i64 xf] 36)) id)
    have HU2 := hide (((HU1.out.alloc _).alloc _).then u2 (fun _ _ => id))
    clear u2
    clear y0 y1 y2 y3 y4 yl yl_
    have bA := HA.out
    obtain ⟨a0, a1, a2, a3, a4⟩ := cells5 bA
    have al := lt_at bA
    clear bA
    go_wp2_with fail
    with_reducible refine Calls.mono (wakes9_any _ (HG.out.upd ((HU2.out.alloc _).alloc _) id) (HP.out.upd ((HU2.out.alloc _).alloc _) id)) ?_
    rintro e w3 ⟨rfl, u3⟩
    have HX := hide (u3.get (block_alloc (block_alloc HX.out (.cells #[.int .i64 yk, .int .i64 yn, enS ct, .bool yb, .int .i64 yf] 26)) (.cells #[.int .i64 yk, .int .i64 yn, enS ct, .bool yb, .int .i64 yf] 36)) id)
    have HY := hide (u3.get (block_alloc (block_alloc HY.out (.cells #[.int .i64 yk, .int .i64 yn, enS ct, .bool yb, .int .i64 yf] 26)) (.cells #[.int .i64 yk, .int .i64 yn, enS ct, .bool yb, .int .i64 yf] 36)) id)
    have HA := hide (u3.get (block_alloc (block_alloc HA.out (.cells #[.int .i64 yk, .int .i64 yn, enS ct, .bool yb, .int .i64 yf] 26)) (.cells #[.int .i64 yk, .int .i64 yn, enS ct, .bool yb, .int .i64 yf] 36)) id)
    have HB := hide (u3.get (block_alloc (block_alloc HB.out (.cells #[.int .i64 yk, .int .i64 yn, enS ct, .bool yb, .int .i64 yf] 26)) (.cells #[.int .i64 yk, .int .i64 yn, enS ct, .bool yb, .int .i64 yf] 36)) id)
    have HC : Hid (w3.heap[w2.heap.size]? = some (.cells #[.int .i64 yk, .int .i64 yn, enS ct, .bool yb, .int .i64 yf] 26 (0, 0))) := hide (u3.get (block_alloc (Vnew1 w2 (.cells #[.int .i64 yk, .int .i64 yn, enS ct, .bool yb, .int .i64 yf] 26)) (.cells #[.int .i64 yk, .int .i64 yn, enS ct, .bool yb, .int .i64 yf] 36)) id)
    have HD : Hid (w3.heap[w2.heap.size + 1]? = some (.cells #[.int .i64 yk, .int .i64 yn, enS ct, .bool yb, .int .i64 yf] 36 (0, 0))) := hide (u3.get (Vnew2 w2 (.cells #[.int .i64 yk, .int .i64 yn, enS ct, .bool yb, .int .i64 yf] 26) (.cells #[.int .i64 yk, .int .i64 yn, enS ct, .bool yb, .int .i64 yf] 36)) id)
    have HU3 := hide (((HU2.out.alloc _).alloc _).then u3 (fun _ _ => id))
    clear u3
    clear a0 a1 a2 a3 a4 al
    have bA := HA.out
    obtain ⟨a0, a1, a2, a3, a4⟩ := cells5 bA
    have al := lt_at bA
    clear bA
    have bC := HC.out
    obtain ⟨c0, c1, c2, c3, c4⟩ := cells5 bC
    have cl := lt_at bC
    clear bC
    go_wp2_with fail
    with_reducible refine Calls.mono (wakes9_any _ (HG.out.upd HU3.out id) (HP.out.upd HU3.out id)) ?_
    rintro e w4 ⟨rfl, u4⟩
    have HX := hide (u4.get HX.out id)
    have HY := hide (u4.get HY.out id)
    have HA := hide (u4.get HA.out id)
    have HB := hide (u4.get HB.out id)
    have HC := hide (u4.get HC.out id)
    have HD := hide (u4.get HD.out id)
    have HU4 := hide (HU3.out.then u4 (fun _ _ => id))
    clear u4
    go_wp2_with fail
    go_ret
    exact ⟨rfl, HU4.out⟩
  have b1 : (xk == 4) = false := by simpa using k1
  by_cases k2 : yk = 4
  · have b2 : (yk == 4) = true := by simpa using k2
    clear k1 k2
    go_enter Tryz.func8, Tryz.ntmps8
    go_wp2_with fail
    with_reducible refine Calls.mono (V0 _) ?_
    rintro e w1 ⟨rfl, u1⟩
    have HX : Hid (w1.heap[w.heap.size]? = some (.cells #[.int .i64 xk, .int .i64 xn, enS xt, .bool xb, .int .i64 xf] 35 (0, 0))) := hide (u1.get (block_alloc (Vnew1 w (.cells #[.int .i64 xk, .int .i64 xn, enS xt, .bool xb, .int .i64 xf] 35)) (.cells #[.int .i64 yk, .int .i64 yn, enS yt, .bool yb, .int .i64 yf] 35)) id)
    have HY : Hid (w1.heap[w.heap.size + 1]? = some (.cells #[.int .i64 yk, .int .i64 yn, enS yt, .bool yb, .int .i64 yf] 35 (0, 0))) := hide (u1.get (Vnew2 w (.cells #[.int .i64 xk, .int .i64 xn, enS xt, .bool xb, .int .i64 xf] 35) (.cells #[.int .i64 yk, .int .i64 yn, enS yt, .bool yb, .int .i64 yf] 35)) id)
    have HU1 := hide (((HU0.out.alloc _).alloc _).then u1 (fun _ _ => id))
    clear u1
    have bY := HY.out
    obtain ⟨y0, y1, y2, y3, y4⟩ := cells5 bY
    have yl := lt_at bY
    clear bY
    have yl_ : w.heap.size < w1.heap.size := by omega
    go_wp2_with fail
    with_reducible refine Calls.mono (V1 _) ?_
    rintro e w2 ⟨rfl, u2⟩
    have HX := hide (u2.get (block_alloc (block_alloc HX.out (.cells #[.int .i64 xk, .int .i64 xn, enS at', .bool xb, .int .i64 xf] 26)) (.cells #[.int .i64 xk, .int .i64 xn, enS at', .bool xb, .int .i64 xf] 36)) id)
    have HY := hide (u2.get (block_alloc (block_alloc HY.out (.cells #[.int .i64 xk, .int .i64 xn, enS at', .bool xb, .int .i64 xf] 26)) (.cells #[.int .i64 xk, .int .i64 xn, enS at', .bool xb, .int .i64 xf] 36)) id)
    have HA : Hid (w2.heap[w1.heap.size]? = some (.cells #[.int .i64 xk, .int .i64 xn, enS at', .bool xb, .int .i64 xf] 26 (0, 0))) := hide (u2.get (block_alloc (Vnew1 w1 (.cells #[.int .i64 xk, .int .i64 xn, enS at', .bool xb, .int .i64 xf] 26)) (.cells #[.int .i64 xk, .int .i64 xn, enS at', .bool xb, .int .i64 xf] 36)) id)
    have HB : Hid (w2.heap[w1.heap.size + 1]? = some (.cells #[.int .i64 xk, .int .i64 xn, enS at', .bool xb, .int .i64 xf] 36 (0, 0))) := hide (u2.get (Vnew2 w1 (.cells #[.int .i64 xk, .int .i64 xn, enS at', .bool xb, .int .i64 xf] 26) (.cells #[.int .i64 xk, .int .i64 xn, enS at', .bool xb, .int .i64 xf] 36)) id)
    have HU2 := hide (((HU1.out.alloc _).alloc _).then u2 (fun _ _ => id))
    clear u2
    clear y0 y1 y2 y3 y4 yl yl_
    have bA := HA.out
    obtain ⟨a0, a1, a2, a3, a4⟩ := cells5 bA
    have al := lt_at bA
    clear bA
    go_wp2_with fail
    with_reducible refine Calls.mono (wakes9_any _ (HG.out.upd ((HU2.out.alloc _).alloc _) id) (HP.out.upd ((HU2.out.alloc _).alloc _) id)) ?_
    rintro e w3 ⟨rfl, u3⟩
    have HX := hide (u3.get (block_alloc (block_alloc HX.out (.cells #[.int .i64 yk, .int .i64 yn, enS ct, .bool yb, .int .i64 yf] 26)) (.cells #[.int .i64 yk, .int .i64 yn, enS ct, .bool yb, .int .i64 yf] 36)) id)
    have HY := hide (u3.get (block_alloc (block_alloc HY.out (.cells #[.int .i64 yk, .int .i64 yn, enS ct, .bool yb, .int .i64 yf] 26)) (.cells #[.int .i64 yk, .int .i64 yn, enS ct, .bool yb, .int .i64 yf] 36)) id)
    have HA := hide (u3.get (block_alloc (block_alloc HA.out (.cells #[.int .i64 yk, .int .i64 yn, enS ct, .bool yb, .int .i64 yf] 26)) (.cells #[.int .i64 yk, .int .i64 yn, enS ct, .bool yb, .int .i64 yf] 36)) id)
    have HB := hide (u3.get (block_alloc (block_alloc HB.out (.cells #[.int .i64 yk, .int .i64 yn, enS ct, .bool yb, .int .i64 yf] 26)) (.cells #[.int .i64 yk, .int .i64 yn, enS ct, .bool yb, .int .i64 yf] 36)) id)
    have HC : Hid (w3.heap[w2.heap.size]? = some (.cells #[.int .i64 yk, .int .i64 yn, enS ct, .bool yb, .int .i64 yf] 26 (0, 0))) := hide (u3.get (block_alloc (Vnew1 w2 (.cells #[.int .i64 yk, .int .i64 yn, enS ct, .bool yb, .int .i64 yf] 26)) (.cells #[.int .i64 yk, .int .i64 yn, enS ct, .bool yb, .int .i64 yf] 36)) id)
    have HD : Hid (w3.heap[w2.heap.size + 1]? = some (.cells #[.int .i64 yk, .int .i64 yn, enS ct, .bool yb, .int .i64 yf] 36 (0, 0))) := hide (u3.get (Vnew2 w2 (.cells #[.int .i64 yk, .int .i64 yn, enS ct, .bool yb, .int .i64 yf] 26) (.cells #[.int .i64 yk, .int .i64 yn, enS ct, .bool yb, .int .i64 yf] 36)) id)
    have HU3 := hide (((HU2.out.alloc _).alloc _).then u3 (fun _ _ => id))
    clear u3
    clear a0 a1 a2 a3 a4 al
    have bA := HA.out
    obtain ⟨a0, a1, a2, a3, a4⟩ := cells5 bA
    have al := lt_at bA
    clear bA
    have bC := HC.out
    obtain ⟨c0, c1, c2, c3, c4⟩ := cells5 bC
    have cl := lt_at bC
    clear bC
    go_wp2_with fail
    with_reducible refine Calls.mono (wakes9_any _ (HG.out.upd HU3.out id) (HP.out.upd HU3.out id)) ?_
    rintro e w4 ⟨rfl, u4⟩
    have HX := hide (u4.get HX.out id)
    have HY := hide (u4.get HY.out id)
    have HA := hide (u4.get HA.out id)
    have HB := hide (u4.get HB.out id)
    have HC := hide (u4.get HC.out id)
    have HD := hide (u4.get HD.out id)
    have HU4 := hide (HU3.out.then u4 (fun _ _ => id))
    clear u4
    go_wp2_with fail
    go_ret
    exact ⟨rfl, HU4.out⟩
  have b2 : (yk == 4) = false := by simpa using k2
  cases ga_ with
  | false =>
    clear k1 k2
    go_enter Tryz.func8, Tryz.ntmps8
    go_wp2_with fail
    with_reducible refine Calls.mono (V0 _) ?_
    rintro e w1 ⟨rfl, u1⟩
    have HX : Hid (w1.heap[w.heap.size]? = some (.cells #[.int .i64 xk, .int .i64 xn, enS xt, .bool xb, .int .i64 xf] 35 (0, 0))) := hide (u1.get (block_alloc (Vnew1 w (.cells #[.int .i64 xk, .int .i64 xn, enS xt, .bool xb, .int .i64 xf] 35)) (.cells #[.int .i64 yk, .int .i64 yn, enS yt, .bool yb, .int .i64 yf] 35)) id)
    have HY : Hid (w1.heap[w.heap.size + 1]? = some (.cells #[.int .i64 yk, .int .i64 yn, enS yt, .bool yb, .int .i64 yf] 35 (0, 0))) := hide (u1.get (Vnew2 w (.cells #[.int .i64 xk, .int .i64 xn, enS xt, .bool xb, .int .i64 xf] 35) (.cells #[.int .i64 yk, .int .i64 yn, enS yt, .bool yb, .int .i64 yf] 35)) id)
    have HU1 := hide (((HU0.out.alloc _).alloc _).then u1 (fun _ _ => id))
    clear u1
    have bY := HY.out
    obtain ⟨y0, y1, y2, y3, y4⟩ := cells5 bY
    have yl := lt_at bY
    clear bY
    have yl_ : w.heap.size < w1.heap.size := by omega
    go_wp2_with fail
    with_reducible refine Calls.mono (V1 _) ?_
    rintro e w2 ⟨rfl, u2⟩
    have HX := hide (u2.get (block_alloc (block_alloc HX.out (.cells #[.int .i64 xk, .int .i64 xn, enS at', .bool xb, .int .i64 xf] 26)) (.cells #[.int .i64 xk, .int .i64 xn, enS at', .bool xb, .int .i64 xf] 36)) id)
    have HY := hide (u2.get (block_alloc (block_alloc HY.out (.cells #[.int .i64 xk, .int .i64 xn, enS at', .bool xb, .int .i64 xf] 26)) (.cells #[.int .i64 xk, .int .i64 xn, enS at', .bool xb, .int .i64 xf] 36)) id)
    have HA : Hid (w2.heap[w1.heap.size]? = some (.cells #[.int .i64 xk, .int .i64 xn, enS at', .bool xb, .int .i64 xf] 26 (0, 0))) := hide (u2.get (block_alloc (Vnew1 w1 (.cells #[.int .i64 xk, .int .i64 xn, enS at', .bool xb, .int .i64 xf] 26)) (.cells #[.int .i64 xk, .int .i64 xn, enS at', .bool xb, .int .i64 xf] 36)) id)
    have HB : Hid (w2.heap[w1.heap.size + 1]? = some (.cells #[.int .i64 xk, .int .i64 xn, enS at', .bool xb, .int .i64 xf] 36 (0, 0))) := hide (u2.get (Vnew2 w1 (.cells #[.int .i64 xk, .int .i64 xn, enS at', .bool xb, .int .i64 xf] 26) (.cells #[.int .i64 xk, .int .i64 xn, enS at', .bool xb, .int .i64 xf] 36)) id)
    have HU2 := hide (((HU1.out.alloc _).alloc _).then u2 (fun _ _ => id))
    clear u2
    clear y0 y1 y2 y3 y4 yl yl_
    have bA := HA.out
    obtain ⟨a0, a1, a2, a3, a4⟩ := cells5 bA
    have al := lt_at bA
    clear bA
    go_wp2_with fail
    with_reducible refine Calls.mono (wakes9_any _ (HG.out.upd ((HU2.out.alloc _).alloc _) id) (HP.out.upd ((HU2.out.alloc _).alloc _) id)) ?_
    rintro e w3 ⟨rfl, u3⟩
    have HX := hide (u3.get (block_alloc (block_alloc HX.out (.cells #[.int .i64 yk, .int .i64 yn, enS ct, .bool yb, .int .i64 yf] 26)) (.cells #[.int .i64 yk, .int .i64 yn, enS ct, .bool yb, .int .i64 yf] 36)) id)
    have HY := hide (u3.get (block_alloc (block_alloc HY.out (.cells #[.int .i64 yk, .int .i64 yn, enS ct, .bool yb, .int .i64 yf] 26)) (.cells #[.int .i64 yk, .int .i64 yn, enS ct, .bool yb, .int .i64 yf] 36)) id)
    have HA := hide (u3.get (block_alloc (block_alloc HA.out (.cells #[.int .i64 yk, .int .i64 yn, enS ct, .bool yb, .int .i64 yf] 26)) (.cells #[.int .i64 yk, .int .i64 yn, enS ct, .bool yb, .int .i64 yf] 36)) id)
    have HB := hide (u3.get (block_alloc (block_alloc HB.out (.cells #[.int .i64 yk, .int .i64 yn, enS ct, .bool yb, .int .i64 yf] 26)) (.cells #[.int .i64 yk, .int .i64 yn, enS ct, .bool yb, .int .i64 yf] 36)) id)
    have HC : Hid (w3.heap[w2.heap.size]? = some (.cells #[.int .i64 yk, .int .i64 yn, enS ct, .bool yb, .int .i64 yf] 26 (0, 0))) := hide (u3.get (block_alloc (Vnew1 w2 (.cells #[.int .i64 yk, .int .i64 yn, enS ct, .bool yb, .int .i64 yf] 26)) (.cells #[.int .i64 yk, .int .i64 yn, enS ct, .bool yb, .int .i64 yf] 36)) id)
    have HD : Hid (w3.heap[w2.heap.size + 1]? = some (.cells #[.int .i64 yk, .int .i64 yn, enS ct, .bool yb, .int .i64 yf] 36 (0, 0))) := hide (u3.get (Vnew2 w2 (.cells #[.int .i64 yk, .int .i64 yn, enS ct, .bool yb, .int .i64 yf] 26) (.cells #[.int .i64 yk, .int .i64 yn, enS ct, .bool yb, .int .i64 yf] 36)) id)
    have HU3 := hide (((HU2.out.alloc _).alloc _).then u3 (fun _ _ => id))
    clear u3
    clear a0 a1 a2 a3 a4 al
    have bA := HA.out
    obtain ⟨a0, a1, a2, a3, a4⟩ := cells5 bA
    have al := lt_at bA
    clear bA
    have bC := HC.out
    obtain ⟨c0, c1, c2, c3, c4⟩ := cells5 bC
    have cl := lt_at bC
    clear bC
    go_wp2_with fail
    with_reducible refine Calls.mono (GA _) ?_
    rintro e w4 ⟨rfl, u4⟩
    have HX := hide (u4.get HX.out id)
    have HY := hide (u4.get HY.out id)
    have HA := hide (u4.get HA.out id)
    have HB := hide (u4.get HB.out id)
    have HC := hide (u4.get HC.out id)
    have HD := hide (u4.get HD.out id)
    have HU4 := hide (HU3.out.then u4 (fun _ _ => id))
    clear u4
    clear a0 a1 a2 a3 a4 al c0 c1 c2 c3 c4 cl
    have bA := HA.out
    obtain ⟨a0, a1, a2, a3, a4⟩ := cells5 bA
    have al := lt_at bA
    clear bA
    have bC := HC.out
    obtain ⟨c0, c1, c2, c3, c4⟩ := cells5 bC
    have cl := lt_at bC
    clear bC
    go_wp2_with fail
    with_reducible refine Calls.mono (wakes9_any _ (HG.out.upd HU4.out id) (HP.out.upd HU4.out id)) ?_
    rintro e w5 ⟨rfl, u5⟩
    have HX := hide (u5.get HX.out id)
    have HY := hide (u5.get HY.out id)
    have HA := hide (u5.get HA.out id)
    have HB := hide (u5.get HB.out id)
    have HC := hide (u5.get HC.out id)
    have HD := hide (u5.get HD.out id)
    have HU5 := hide (HU4.out.then u5 (fun _ _ => id))
    clear u5
    go_wp2_with fail
    go_ret
    exact ⟨rfl, HU5.out⟩
  | true =>
    cases gc_ with
    | false =>
      clear k1 k2
      go_enter Tryz.func8, Tryz.ntmps8
      go_wp2_with fail
      with_reducible refine Calls.mono (V0 _) ?_
      rintro e w1 ⟨rfl, u1⟩
      have HX : Hid (w1.heap[w.heap.size]? = some (.cells #[.int .i64 xk, .int .i64 xn, enS xt, .bool xb, .int .i64 xf] 35 (0, 0))) := hide (u1.get (block_alloc (Vnew1 w (.cells #[.int .i64 xk, .int .i64 xn, enS xt, .bool xb, .int .i64 xf] 35)) (.cells #[.int .i64 yk, .int .i64 yn, enS yt, .bool yb, .int .i64 yf] 35)) id)
      have HY : Hid (w1.heap[w.heap.size + 1]? = some (.cells #[.int .i64 yk, .int .i64 yn, enS yt, .bool yb, .int .i64 yf] 35 (0, 0))) := hide (u1.get (Vnew2 w (.cells #[.int .i64 xk, .int .i64 xn, enS xt, .bool xb, .int .i64 xf] 35) (.cells #[.int .i64 yk, .int .i64 yn, enS yt, .bool yb, .int .i64 yf] 35)) id)
      have HU1 := hide (((HU0.out.alloc _).alloc _).then u1 (fun _ _ => id))
      clear u1
      have bY := HY.out
      obtain ⟨y0, y1, y2, y3, y4⟩ := cells5 bY
      have yl := lt_at bY
      clear bY
      have yl_ : w.heap.size < w1.heap.size := by omega
      go_wp2_with fail
      with_reducible refine Calls.mono (V1 _) ?_
      rintro e w2 ⟨rfl, u2⟩
      have HX := hide (u2.get (block_alloc (block_alloc HX.out (.cells #[.int .i64 xk, .int .i64 xn, enS at', .bool xb, .int .i64 xf] 26)) (.cells #[.int .i64 xk, .int .i64 xn, enS at', .bool xb, .int .i64 xf] 36)) id)
      have HY := hide (u2.get (block_alloc (block_alloc HY.out (.cells #[.int .i64 xk, .int .i64 xn, enS at', .bool xb, .int .i64 xf] 26)) (.cells #[.int .i64 xk, .int .i64 xn, enS at', .bool xb, .int .i64 xf] 36)) id)
      have HA : Hid (w2.heap[w1.heap.size]? = some (.cells #[.int .i64 xk, .int .i64 xn, enS at', .bool xb, .int .i64 xf] 26 (0, 0))) := hide (u2.get (block_alloc (Vnew1 w1 (.cells #[.int .i64 xk, .int .i64 xn, enS at', .bool xb, .int .i64 xf] 26)) (.cells #[.int .i64 xk, .int .i64 xn, enS at', .bool xb, .int .i64 xf] 36)) id)
      have HB : Hid (w2.heap[w1.heap.size + 1]? = some (.cells #[.int .i64 xk, .int .i64 xn, enS at', .bool xb, .int .i64 xf] 36 (0, 0))) := hide (u2.get (Vnew2 w1 (.cells #[.int .i64 xk, .int .i64 xn, enS at', .bool xb, .int .i64 xf] 26) (.cells #[.int .i64 xk, .int .i64 xn, enS at', .bool xb, .int .i64 xf] 36)) id)
      have HU2 := hide (((HU1.out.alloc _).alloc _).then u2 (fun _ _ => id))
      clear u2
      clear y0 y1 y2 y3 y4 yl yl_
      have bA := HA.out
      obtain ⟨a0, a1, a2, a3, a4⟩ := cells5 bA
      have al := lt_at bA
      clear bA
      go_wp2_with fail
      with_reducible refine Calls.mono (wakes9_any _ (HG.out.upd ((HU2.out.alloc _).alloc _) id) (HP.out.upd ((HU2.out.alloc _).alloc _) id)) ?_
      rintro e w3 ⟨rfl, u3⟩
      have HX := hide (u3.get (block_alloc (block_alloc HX.out (.cells #[.int .i64 yk, .int .i64 yn, enS ct, .bool yb, .int .i64 yf] 26)) (.cells #[.int .i64 yk, .int .i64 yn, enS ct, .bool yb, .int .i64 yf] 36)) id)
      have HY := hide (u3.get (block_alloc (block_alloc HY.out (.cells #[.int .i64 yk, .int .i64 yn, enS ct, .bool yb, .int .i64 yf] 26)) (.cells #[.int .i64 yk, .int .i64 yn, enS ct, .bool yb, .int .i64 yf] 36)) id)
      have HA := hide (u3.get (block_alloc (block_alloc HA.out (.cells #[.int .i64 yk, .int .i64 yn, enS ct, .bool yb, .int .i64 yf] 26)) (.cells #[.int .i64 yk, .int .i64 yn, enS ct, .bool yb, .int .i64 yf] 36)) id)
      have HB := hide (u3.get (block_alloc (block_alloc HB.out (.cells #[.int .i64 yk, .int .i64 yn, enS ct, .bool yb, .int .i64 yf] 26)) (.cells #[.int .i64 yk, .int .i64 yn, enS ct, .bool yb, .int .i64 yf] 36)) id)
      have HC : Hid (w3.heap[w2.heap.size]? = some (.cells #[.int .i64 yk, .int .i64 yn, enS ct, .bool yb, .int .i64 yf] 26 (0, 0))) := hide (u3.get (block_alloc (Vnew1 w2 (.cells #[.int .i64 yk, .int .i64 yn, enS ct, .bool yb, .int .i64 yf] 26)) (.cells #[.int .i64 yk, .int .i64 yn, enS ct, .bool yb, .int .i64 yf] 36)) id)
      have HD : Hid (w3.heap[w2.heap.size + 1]? = some (.cells #[.int .i64 yk, .int .i64 yn, enS ct, .bool yb, .int .i64 yf] 36 (0, 0))) := hide (u3.get (Vnew2 w2 (.cells #[.int .i64 yk, .int .i64 yn, enS ct, .bool yb, .int .i64 yf] 26) (.cells #[.int .i64 yk, .int .i64 yn, enS ct, .bool yb, .int .i64 yf] 36)) id)
      have HU3 := hide (((HU2.out.alloc _).alloc _).then u3 (fun _ _ => id))
      clear u3
      clear a0 a1 a2 a3 a4 al
      have bA := HA.out
      obtain ⟨a0, a1, a2, a3, a4⟩ := cells5 bA
      have al := lt_at bA
      clear bA
      have bC := HC.out
      obtain ⟨c0, c1, c2, c3, c4⟩ := cells5 bC
      have cl := lt_at bC
      clear bC
      go_wp2_with fail
      with_reducible refine Calls.mono (GA _) ?_
      rintro e w4 ⟨rfl, u4⟩
      have HX := hide (u4.get HX.out id)
      have HY := hide (u4.get HY.out id)
      have HA := hide (u4.get HA.out id)
      have HB := hide (u4.get HB.out id)
      have HC := hide (u4.get HC.out id)
      have HD := hide (u4.get HD.out id)
      have HU4 := hide (HU3.out.then u4 (fun _ _ => id))
      clear u4
      clear a0 a1 a2 a3 a4 al c0 c1 c2 c3 c4 cl
      have bA := HA.out
      obtain ⟨a0, a1, a2, a3, a4⟩ := cells5 bA
      have al := lt_at bA
      clear bA
      have bC := HC.out
      obtain ⟨c0, c1, c2, c3, c4⟩ := cells5 bC
      have cl := lt_at bC
      clear bC
      go_wp2_with fail
      with_reducible refine Calls.mono (GC _) ?_
      rintro e w5 ⟨rfl, u5⟩
      have HX := hide (u5.get HX.out id)
      have HY := hide (u5.get HY.out id)
      have HA := hide (u5.get HA.out id)
      have HB := hide (u5.get HB.out id)
      have HC := hide (u5.get HC.out id)
      have HD := hide (u5.get HD.out id)
      have HU5 := hide (HU4.out.then u5 (fun _ _ => id))
      clear u5
      clear a0 a1 a2 a3 a4 al c0 c1 c2 c3 c4 cl
      have bA := HA.out
      obtain ⟨a0, a1, a2, a3, a4⟩ := cells5 bA
      have al := lt_at bA
      clear bA
      have bC := HC.out
      obtain ⟨c0, c1, c2, c3, c4⟩ := cells5 bC
      have cl := lt_at bC
      clear bC
      go_wp2_with fail
      with_reducible refine Calls.mono (wakes9_any _ (HG.out.upd HU5.out id) (HP.out.upd HU5.out id)) ?_
      rintro e w6 ⟨rfl, u6⟩
      have HX := hide (u6.get HX.out id)
      have HY := hide (u6.get HY.out id)
      have HA := hide (u6.get HA.out id)
      have HB := hide (u6.get HB.out id)
      have HC := hide (u6.get HC.out id)
      have HD := hide (u6.get HD.out id)
      have HU6 := hide (HU5.out.then u6 (fun _ _ => id))
      clear u6
      go_wp2_with fail
      go_ret
      exact ⟨rfl, HU6.out⟩
    | true =>
      have hlaw := HTL.out HGA.out HGC.out k1 k2
      have HL := hide hlaw
      clear hlaw k1 k2
      go_enter Tryz.func8, Tryz.ntmps8
      go_wp2_with fail
      with_reducible refine Calls.mono (V0 _) ?_
      rintro e w1 ⟨rfl, u1⟩
      have HX : Hid (w1.heap[w.heap.size]? = some (.cells #[.int .i64 xk, .int .i64 xn, enS xt, .bool xb, .int .i64 xf] 35 (0, 0))) := hide (u1.get (block_alloc (Vnew1 w (.cells #[.int .i64 xk, .int .i64 xn, enS xt, .bool xb, .int .i64 xf] 35)) (.cells #[.int .i64 yk, .int .i64 yn, enS yt, .bool yb, .int .i64 yf] 35)) id)
      have HY : Hid (w1.heap[w.heap.size + 1]? = some (.cells #[.int .i64 yk, .int .i64 yn, enS yt, .bool yb, .int .i64 yf] 35 (0, 0))) := hide (u1.get (Vnew2 w (.cells #[.int .i64 xk, .int .i64 xn, enS xt, .bool xb, .int .i64 xf] 35) (.cells #[.int .i64 yk, .int .i64 yn, enS yt, .bool yb, .int .i64 yf] 35)) id)
      have HU1 := hide (((HU0.out.alloc _).alloc _).then u1 (fun _ _ => id))
      clear u1
      have bY := HY.out
      obtain ⟨y0, y1, y2, y3, y4⟩ := cells5 bY
      have yl := lt_at bY
      clear bY
      have yl_ : w.heap.size < w1.heap.size := by omega
      go_wp2_with fail
      with_reducible refine Calls.mono (V1 _) ?_
      rintro e w2 ⟨rfl, u2⟩
      have HX := hide (u2.get (block_alloc (block_alloc HX.out (.cells #[.int .i64 xk, .int .i64 xn, enS at', .bool xb, .int .i64 xf] 26)) (.cells #[.int .i64 xk, .int .i64 xn, enS at', .bool xb, .int .i64 xf] 36)) id)
      have HY := hide (u2.get (block_alloc (block_alloc HY.out (.cells #[.int .i64 xk, .int .i64 xn, enS at', .bool xb, .int .i64 xf] 26)) (.cells #[.int .i64 xk, .int .i64 xn, enS at', .bool xb, .int .i64 xf] 36)) id)
      have HA : Hid (w2.heap[w1.heap.size]? = some (.cells #[.int .i64 xk, .int .i64 xn, enS at', .bool xb, .int .i64 xf] 26 (0, 0))) := hide (u2.get (block_alloc (Vnew1 w1 (.cells #[.int .i64 xk, .int .i64 xn, enS at', .bool xb, .int .i64 xf] 26)) (.cells #[.int .i64 xk, .int .i64 xn, enS at', .bool xb, .int .i64 xf] 36)) id)
      have HB : Hid (w2.heap[w1.heap.size + 1]? = some (.cells #[.int .i64 xk, .int .i64 xn, enS at', .bool xb, .int .i64 xf] 36 (0, 0))) := hide (u2.get (Vnew2 w1 (.cells #[.int .i64 xk, .int .i64 xn, enS at', .bool xb, .int .i64 xf] 26) (.cells #[.int .i64 xk, .int .i64 xn, enS at', .bool xb, .int .i64 xf] 36)) id)
      have HU2 := hide (((HU1.out.alloc _).alloc _).then u2 (fun _ _ => id))
      clear u2
      clear y0 y1 y2 y3 y4 yl yl_
      have bA := HA.out
      obtain ⟨a0, a1, a2, a3, a4⟩ := cells5 bA
      have al := lt_at bA
      clear bA
      go_wp2_with fail
      with_reducible refine Calls.mono (wakes9_any _ (HG.out.upd ((HU2.out.alloc _).alloc _) id) (HP.out.upd ((HU2.out.alloc _).alloc _) id)) ?_
      rintro e w3 ⟨rfl, u3⟩
      have HX := hide (u3.get (block_alloc (block_alloc HX.out (.cells #[.int .i64 yk, .int .i64 yn, enS ct, .bool yb, .int .i64 yf] 26)) (.cells #[.int .i64 yk, .int .i64 yn, enS ct, .bool yb, .int .i64 yf] 36)) id)
      have HY := hide (u3.get (block_alloc (block_alloc HY.out (.cells #[.int .i64 yk, .int .i64 yn, enS ct, .bool yb, .int .i64 yf] 26)) (.cells #[.int .i64 yk, .int .i64 yn, enS ct, .bool yb, .int .i64 yf] 36)) id)
      have HA := hide (u3.get (block_alloc (block_alloc HA.out (.cells #[.int .i64 yk, .int .i64 yn, enS ct, .bool yb, .int .i64 yf] 26)) (.cells #[.int .i64 yk, .int .i64 yn, enS ct, .bool yb, .int .i64 yf] 36)) id)
      have HB := hide (u3.get (block_alloc (block_alloc HB.out (.cells #[.int .i64 yk, .int .i64 yn, enS ct, .bool yb, .int .i64 yf] 26)) (.cells #[.int .i64 yk, .int .i64 yn, enS ct, .bool yb, .int .i64 yf] 36)) id)
      have HC : Hid (w3.heap[w2.heap.size]? = some (.cells #[.int .i64 yk, .int .i64 yn, enS ct, .bool yb, .int .i64 yf] 26 (0, 0))) := hide (u3.get (block_alloc (Vnew1 w2 (.cells #[.int .i64 yk, .int .i64 yn, enS ct, .bool yb, .int .i64 yf] 26)) (.cells #[.int .i64 yk, .int .i64 yn, enS ct, .bool yb, .int .i64 yf] 36)) id)
      have HD : Hid (w3.heap[w2.heap.size + 1]? = some (.cells #[.int .i64 yk, .int .i64 yn, enS ct, .bool yb, .int .i64 yf] 36 (0, 0))) := hide (u3.get (Vnew2 w2 (.cells #[.int .i64 yk, .int .i64 yn, enS ct, .bool yb, .int .i64 yf] 26) (.cells #[.int .i64 yk, .int .i64 yn, enS ct, .bool yb, .int .i64 yf] 36)) id)
      have HU3 := hide (((HU2.out.alloc _).alloc _).then u3 (fun _ _ => id))
      clear u3
      clear a0 a1 a2 a3 a4 al
      have bA := HA.out
      obtain ⟨a0, a1, a2, a3, a4⟩ := cells5 bA
      have al := lt_at bA
      clear bA
      have bC := HC.out
      obtain ⟨c0, c1, c2, c3, c4⟩ := cells5 bC
      have cl := lt_at bC
      clear bC
      go_wp2_with fail
      with_reducible refine Calls.mono (GA _) ?_
      rintro e w4 ⟨rfl, u4⟩
      have HX := hide (u4.get HX.out id)
      have HY := hide (u4.get HY.out id)
      have HA := hide (u4.get HA.out id)
      have HB := hide (u4.get HB.out id)
      have HC := hide (u4.get HC.out id)
      have HD := hide (u4.get HD.out id)
      have HU4 := hide (HU3.out.then u4 (fun _ _ => id))
      clear u4
      clear a0 a1 a2 a3 a4 al c0 c1 c2 c3 c4 cl
      have bA := HA.out
      obtain ⟨a0, a1, a2, a3, a4⟩ := cells5 bA
      have al := lt_at bA
      clear bA
      have bC := HC.out
      obtain ⟨c0, c1, c2, c3, c4⟩ := cells5 bC
      have cl := lt_at bC
      clear bC
      go_wp2_with fail
      with_reducible refine Calls.mono (GC _) ?_
      rintro e w5 ⟨rfl, u5⟩
      have HX := hide (u5.get HX.out id)
      have HY := hide (u5.get HY.out id)
      have HA := hide (u5.get HA.out id)
      have HB := hide (u5.get HB.out id)
      have HC := hide (u5.get HC.out id)
      have HD := hide (u5.get HD.out id)
      have HU5 := hide (HU4.out.then u5 (fun _ _ => id))
      clear u5
      clear a0 a1 a2 a3 a4 al c0 c1 c2 c3 c4 cl
      go_wp2_with fail
      have bA := (block_alloc HA.out (.cells #[.string ⟨#[43]⟩, .string ⟨#[42]⟩, .string ⟨#[61]⟩, .string ⟨#[60, 62]⟩] 9))
      have bC := (block_alloc HC.out (.cells #[.string ⟨#[43]⟩, .string ⟨#[42]⟩, .string ⟨#[61]⟩, .string ⟨#[60, 62]⟩] 9))
      have bO := (Vnew1 w5 (.cells #[.string ⟨#[43]⟩, .string ⟨#[42]⟩, .string ⟨#[61]⟩, .string ⟨#[60, 62]⟩] 9))
      have bU : Upd w (w5.alloc (.cells #[.string ⟨#[43]⟩, .string ⟨#[42]⟩, .string ⟨#[61]⟩, .string ⟨#[60, 62]⟩] 9)) (fun _ => False) := (HU5.out.alloc _)
      obtain ⟨W, hW⟩ : ∃ W, (w5.alloc (.cells #[.string ⟨#[43]⟩, .string ⟨#[42]⟩, .string ⟨#[61]⟩, .string ⟨#[60, 62]⟩] 9)) = W := ⟨_, rfl⟩
      rw [hW] at bA bC bO bU ⊢
      obtain ⟨ga, hga⟩ : ∃ g, w1.heap.size = g := ⟨_, rfl⟩
      rw [hga] at bA ⊢
      obtain ⟨gc, hgc⟩ : ∃ g, w2.heap.size = g := ⟨_, rfl⟩
      rw [hgc] at bC ⊢
      obtain ⟨go, hgo⟩ : ∃ g, w5.heap.size = g := ⟨_, rfl⟩
      rw [hgo] at bO ⊢
      have HA := hide bA
      have HC := hide bC
      have HO := hide bO
      have HUW := hide bU
      clear hW bA bC bO bU hga hgc hgo HU5 HX HY HB HD
      go_loopg [58] 4 (fun q iv wr => ∃ i : Nat, i + q = 4 ∧ iv = .int .i64 (i : Int) ∧ Upd W wr (fun _ => False))
      case atStart => exact ⟨0, by omega, rfl, Upd.refl _ _⟩
      case round =>
        obtain ⟨i, hi, rfl, hu⟩ := hrel
        by_cases hlt : i < 4
        · have hcell : ∃ n : List UInt8, (#[.string ⟨#[43]⟩, .string ⟨#[42]⟩, .string ⟨#[61]⟩, .string ⟨#[60, 62]⟩] : Array Value)[i]? = some (enS n) ∧ binV n (Vl.mk xk xn at' xb xf) (Vl.mk yk yn ct yb yf) = binV n (Vl.mk yk yn ct yb yf) (Vl.mk xk xn at' xb xf) ∧ (binV n (Vl.mk xk xn at' xb xf) (Vl.mk yk yn ct yb yf)).2 = true := by
            match i, hlt with
            | 0, _ => exact ⟨[43], rfl, HL.out.1⟩
            | 1, _ => exact ⟨[42], rfl, HL.out.2.1⟩
            | 2, _ => exact ⟨[61], rfl, HL.out.2.2.1⟩
            | 3, _ => exact ⟨[60, 62], rfl, HL.out.2.2.2.1⟩
          obtain ⟨n, hn, heq, htrue⟩ := hcell
          have HO0 := hu.get HO.out id
          have ce := cell_at HO0 i _ hn
          have AA := fun w h1 h2 => HBXY.out n w h1 h2
          have BB := fun w h1 h2 => HBYX.out n w h1 h2
          have hok := HOKB.out n
          rw [← heq] at BB
          obtain ⟨⟨⟨vk, vn, vt, vb, vf⟩, q⟩, hv⟩ : ∃ p, binV n (Vl.mk xk xn at' xb xf) (Vl.mk yk yn ct yb yf) = p := ⟨_, rfl⟩
          rw [hv] at AA BB hok htrue
          simp only at hok htrue
          subst htrue
          have EQ := neq_vl
          have EQ : ∀ w, (binOp .neq 26 (.agg #[.int .i64 vk, .int .i64 vn, .string ⟨vt.toArray⟩, .bool vb, .int .i64 vf]) (.agg #[.int .i64 vk, .int .i64 vn, .string ⟨vt.toArray⟩, .bool vb, .int .i64 vf])).run Tryz.prog w = .ok (.bool false) w := fun w => by
            have k := neq_vl w hok hok
            have e : eqV (Vl.mk vk vn vt vb vf) (Vl.mk vk vn vt vb vf) = true := by rw [eqV_iff]
            rw [e] at k
            exact k
          unfold Vl.val at AA BB
          simp only at AA BB
          have il : (i : Int) < 4 := by omega
          have i0 : (0 : Int) ≤ (i : Int) := by omega
          have HA0 := hide (hu.get HA.out id)
          have HC0 := hide (hu.get HC.out id)
          have HUr := hide hu
          have HUt := hide (HUW.out.then hu (fun _ _ => id))
          clear hu hv hn HO0 hok heq
          have bA := HA0.out
          obtain ⟨a0, a1, a2, a3, a4⟩ := cells5 bA
          have al := lt_at bA
          clear bA
          have bC := HC0.out
          obtain ⟨c0, c1, c2, c3, c4⟩ := cells5 bC
          have cl := lt_at bC
          clear bC
          go_wp2_with fail
          have HU9 := HUr
          with_reducible refine Calls.mono (AA _ (HG.out.upd HUt.out id) (HP.out.upd HUt.out id)) ?_
          rintro e w10 ⟨rfl, u10⟩
          have HA0 := hide (u10.get HA0.out id)
          have HC0 := hide (u10.get HC0.out id)
          have HU10 := hide (HU9.out.then u10 (fun _ _ => id))
          clear u10
          clear a0 a1 a2 a3 a4 al c0 c1 c2 c3 c4 cl ce
          have bA0 := HA0.out
          obtain ⟨a0, a1, a2, a3, a4⟩ := cells5 bA0
          have al := lt_at bA0
          clear bA0
          have bC0 := HC0.out
          obtain ⟨c0, c1, c2, c3, c4⟩ := cells5 bC0
          have cl := lt_at bC0
          clear bC0
          go_wp2_with fail
          with_reducible refine Calls.mono (BB _ (HG.out.upd (HUW.out.then (HU10.out.alloc _) (fun _ _ => id)) id) (HP.out.upd (HUW.out.then (HU10.out.alloc _) (fun _ _ => id)) id)) ?_
          rintro e w11 ⟨rfl, u11⟩
          have HA0 := hide (u11.get (block_alloc HA0.out (.cells #[.int .i64 vk, .int .i64 vn, enS vt, .bool vb, .int .i64 vf] 26)) id)
          have HC0 := hide (u11.get (block_alloc HC0.out (.cells #[.int .i64 vk, .int .i64 vn, enS vt, .bool vb, .int .i64 vf] 26)) id)
          have HE : Hid (w11.heap[w10.heap.size]? = some (.cells #[.int .i64 vk, .int .i64 vn, enS vt, .bool vb, .int .i64 vf] 26 (0, 0))) := hide (u11.get (Vnew1 w10 (.cells #[.int .i64 vk, .int .i64 vn, enS vt, .bool vb, .int .i64 vf] 26)) id)
          have HU11 := hide ((HU10.out.alloc _).then u11 (fun _ _ => id))
          clear u11
          clear a0 a1 a2 a3 a4 al c0 c1 c2 c3 c4 cl
          have bE := HE.out
          obtain ⟨e0, e1, e2, e3, e4⟩ := cells5 bE
          have el := lt_at bE
          clear bE
          go_wp2_with fail
          go_roundg (gk - 1)
          case measure => omega
          case rel => exact ⟨i + 1, by omega, by go_num, (HU11.out.alloc _)⟩
        · obtain rfl : i = 4 := by omega
          obtain ⟨-, -, -, -, hlm, hds⟩ := HL.out
          have L1 := fun w h1 h2 => HBXY.out [60] w h1 h2
          have L2 := fun w h1 h2 => HBYX.out [62] w h1 h2
          have L3 := fun w h1 h2 => HBXY.out [45] w h1 h2
          have L4 := fun w h1 h2 => HBXN.out [43] w h1 h2
          have k1 := HOKB.out [60]
          have k3 := HOKB.out [45]
          obtain ⟨⟨⟨lk, ln, lt', lb, lf⟩, q1⟩, hv1⟩ : ∃ p, binV [60] (Vl.mk xk xn at' xb xf) (Vl.mk yk yn ct yb yf) = p := ⟨_, rfl⟩
          obtain ⟨⟨⟨mk', mn, mt, mb, mf⟩, q2⟩, hv2⟩ : ∃ p, binV [62] (Vl.mk yk yn ct yb yf) (Vl.mk xk xn at' xb xf) = p := ⟨_, rfl⟩
          obtain ⟨⟨⟨dk, dn, dt, db, df⟩, q3⟩, hv3⟩ : ∃ p, binV [45] (Vl.mk xk xn at' xb xf) (Vl.mk yk yn ct yb yf) = p := ⟨_, rfl⟩
          obtain ⟨⟨⟨sk, sn, st, sb, sf⟩, q4⟩, hv4⟩ : ∃ p, binV [43] (Vl.mk xk xn at' xb xf) (Vl.mk nk nn nt nb nf) = p := ⟨_, rfl⟩
          rw [hv1] at L1 k1 hlm
          rw [hv2] at L2 hlm
          rw [hv3] at L3 k3 hds
          rw [hv4] at L4 hds
          simp only at hlm hds k1 k3
          obtain ⟨rfl, rfl, rfl, rfl, rfl⟩ := Vl.mk.inj hlm
          obtain ⟨rfl, rfl, rfl, rfl, rfl⟩ := Vl.mk.inj hds
          have E1 := eq_at ⟨lk, ln, lt', lb, lf⟩ ⟨lk, ln, lt', lb, lf⟩ k1 k1 (q := true) (by rw [eqV_iff])
          have E2 := eq_at ⟨dk, dn, dt, db, df⟩ ⟨dk, dn, dt, db, df⟩ k3 k3 (q := true) (by rw [eqV_iff])
          unfold Vl.val at L1 L2 L3 L4
          simp only at L1 L2 L3 L4
          have HA0 := hide (hu.get HA.out id)
          have HC0 := hide (hu.get HC.out id)
          have HUr := hide hu
          have HU9 := HUr
          have HUt := hide (HUW.out.then hu (fun _ _ => id))
          clear hu hi hlm hds k1 k3 hv1 hv2 hv3 hv4 HA HC HO HOKB HBXY HBYX HBXN HL HTL HGA HGC
          have bA := HA0.out
          obtain ⟨a0, a1, a2, a3, a4⟩ := cells5 bA
          have al := lt_at bA
          clear bA
          have bC := HC0.out
          obtain ⟨c0, c1, c2, c3, c4⟩ := cells5 bC
          have cl := lt_at bC
          clear bC
          go_wp2_with fail
          with_reducible refine Calls.mono (L1 _ (HG.out.upd (HUW.out.then HU9.out (fun _ _ => id)) id) (HP.out.upd (HUW.out.then HU9.out (fun _ _ => id)) id)) ?_
          rintro e w10 ⟨rfl, u10⟩
          have HA0 := hide (u10.get HA0.out id)
          have HC0 := hide (u10.get HC0.out id)
          have HU10 := hide (HU9.out.then u10 (fun _ _ => id))
          clear u10
          clear a0 a1 a2 a3 a4 al c0 c1 c2 c3 c4 cl
          have bA0 := HA0.out
          obtain ⟨a0, a1, a2, a3, a4⟩ := cells5 bA0
          have al := lt_at bA0
          clear bA0
          have bC0 := HC0.out
          obtain ⟨c0, c1, c2, c3, c4⟩ := cells5 bC0
          have cl := lt_at bC0
          clear bC0
          go_wp2_with fail
          with_reducible refine Calls.mono (L2 _ (HG.out.upd (HUW.out.then (HU10.out.alloc _) (fun _ _ => id)) id) (HP.out.upd (HUW.out.then (HU10.out.alloc _) (fun _ _ => id)) id)) ?_
          rintro e w11 ⟨rfl, u11⟩
          have HA0 := hide (u11.get (block_alloc HA0.out (.cells #[.int .i64 lk, .int .i64 ln, enS lt', .bool lb, .int .i64 lf] 26)) id)
          have HC0 := hide (u11.get (block_alloc HC0.out (.cells #[.int .i64 lk, .int .i64 ln, enS lt', .bool lb, .int .i64 lf] 26)) id)
          have HE : Hid (w11.heap[w10.heap.size]? = some (.cells #[.int .i64 lk, .int .i64 ln, enS lt', .bool lb, .int .i64 lf] 26 (0, 0))) := hide (u11.get (Vnew1 w10 (.cells #[.int .i64 lk, .int .i64 ln, enS lt', .bool lb, .int .i64 lf] 26)) id)
          have HU11 := hide ((HU10.out.alloc _).then u11 (fun _ _ => id))
          clear u11
          clear a0 a1 a2 a3 a4 al c0 c1 c2 c3 c4 cl
          have bA0 := HA0.out
          obtain ⟨a0, a1, a2, a3, a4⟩ := cells5 bA0
          have al := lt_at bA0
          clear bA0
          have bC0 := HC0.out
          obtain ⟨c0, c1, c2, c3, c4⟩ := cells5 bC0
          have cl := lt_at bC0
          clear bC0
          go_wp2_with fail
          with_reducible refine Calls.mono (L3 _ (HG.out.upd (HUW.out.then (HU11.out.alloc _) (fun _ _ => id)) id) (HP.out.upd (HUW.out.then (HU11.out.alloc _) (fun _ _ => id)) id)) ?_
          rintro e w12 ⟨rfl, u12⟩
          have HA0 := hide (u12.get (block_alloc HA0.out (.cells #[.int .i64 lk, .int .i64 ln, enS lt', .bool lb, .int .i64 lf] 26)) id)
          have HC0 := hide (u12.get (block_alloc HC0.out (.cells #[.int .i64 lk, .int .i64 ln, enS lt', .bool lb, .int .i64 lf] 26)) id)
          have HE := hide (u12.get (block_alloc HE.out (.cells #[.int .i64 lk, .int .i64 ln, enS lt', .bool lb, .int .i64 lf] 26)) id)
          have HF : Hid (w12.heap[w11.heap.size]? = some (.cells #[.int .i64 lk, .int .i64 ln, enS lt', .bool lb, .int .i64 lf] 26 (0, 0))) := hide (u12.get (Vnew1 w11 (.cells #[.int .i64 lk, .int .i64 ln, enS lt', .bool lb, .int .i64 lf] 26)) id)
          have HU12 := hide ((HU11.out.alloc _).then u12 (fun _ _ => id))
          clear u12
          clear a0 a1 a2 a3 a4 al c0 c1 c2 c3 c4 cl
          have bA0 := (block_alloc HA0.out (.cells #[.int .i64 dk, .int .i64 dn, enS dt, .bool db, .int .i64 df] 26))
          have bC0 := (block_alloc HC0.out (.cells #[.int .i64 dk, .int .i64 dn, enS dt, .bool db, .int .i64 df] 26))
          have bE := (block_alloc HE.out (.cells #[.int .i64 dk, .int .i64 dn, enS dt, .bool db, .int .i64 df] 26))
          have bF := (block_alloc HF.out (.cells #[.int .i64 dk, .int .i64 dn, enS dt, .bool db, .int .i64 df] 26))
          have bG := (Vnew1 w12 (.cells #[.int .i64 dk, .int .i64 dn, enS dt, .bool db, .int .i64 df] 26))
          have bU : Upd W (w12.alloc (.cells #[.int .i64 dk, .int .i64 dn, enS dt, .bool db, .int .i64 df] 26)) (fun _ => False) := (HU12.out.alloc _)
          go_upto_region 16 with fail
          obtain ⟨Z, hZ⟩ : ∃ W, (w12.alloc (.cells #[.int .i64 dk, .int .i64 dn, enS dt, .bool db, .int .i64 df] 26)) = W := ⟨_, rfl⟩
          rw [hZ] at bA0 bC0 bE bF bG bU ⊢
          obtain ⟨ge, hge⟩ : ∃ g, w10.heap.size = g := ⟨_, rfl⟩
          rw [hge] at bE ⊢
          obtain ⟨gf, hgf⟩ : ∃ g, w11.heap.size = g := ⟨_, rfl⟩
          rw [hgf] at bF ⊢
          obtain ⟨gg, hgg⟩ : ∃ g, w12.heap.size = g := ⟨_, rfl⟩
          rw [hgg] at bG ⊢
          obtain ⟨a0, a1, a2, a3, a4⟩ := cells5 bA0
          have al := lt_at bA0
          obtain ⟨c0, c1, c2, c3, c4⟩ := cells5 bC0
          have cl := lt_at bC0
          have HE := hide bE
          have HF := hide bF
          have HGG := hide bG
          have HUZ := hide (HUW.out.then bU (fun _ _ => id))
          have SG : Hid (∀ w', Upd Z w' (fun _ => False) → Sig w') := hide (fun w' h => HG.out.upd (HUZ.out.then h (fun _ _ => id)) id)
          have SP : Hid (∀ w', Upd Z w' (fun _ => False) → Pow w') := hide (fun w' h => HP.out.upd (HUZ.out.then h (fun _ _ => id)) id)
          clear hZ hge hgf hgg bA0 bC0 bE bF bG bU HU12
          go_cut [21] (fun s wx => ∃ h, s = .pointer (some ⟨h, 0, none⟩) ∧ wx.heap[h]? = some (.cells #[.int .i64 dk, .int .i64 dn, enS dt, .bool db, .int .i64 df] 26 (0, 0)) ∧ Upd Z wx (fun _ => False))
          case first =>
            rename_i J0 K0 hJ hK
            have UT := (Upd.refl Z (fun _ => False)).drew
            go_region_law (go_simp; first | (go_at_call 25; with_reducible refine Calls.mono (NG _) ?_; rintro e wy ⟨rfl, uA⟩; (with_reducible (first | (replace UT := Upd.then UT uA (fun _ _ => id); (try replace bT := uA.get bT id)) | (have hsz := UT.size; replace UT := Upd.then (Upd.alloc UT _) uA (fun _ _ => id); have bT := uA.get (Vnew1 _ _) id) | (have hsz := Nat.le_refl Z.heap.size; replace UT := Upd.then (upd_drew Z _) uA (fun _ _ => id); have bT := uA.get (new_drew Z _) id))); (have pa0 := (UT.cell ga 0 al id).trans a0; have pa1 := (UT.cell ga 1 al id).trans a1; have pa2 := (UT.cell ga 2 al id).trans a2; have pa3 := (UT.cell ga 3 al id).trans a3; have pa4 := (UT.cell ga 4 al id).trans a4; have pc0 := (UT.cell gc 0 cl id).trans c0; have pc1 := (UT.cell gc 1 cl id).trans c1; have pc2 := (UT.cell gc 2 cl id).trans c2; have pc3 := (UT.cell gc 3 cl id).trans c3; have pc4 := (UT.cell gc 4 cl id).trans c4; have pal := Nat.lt_of_lt_of_le al UT.size; have pcl := Nat.lt_of_lt_of_le cl UT.size)) | (go_at_call 12; with_reducible refine Calls.mono (L4 _ (SG.out _ UT) (SP.out _ UT)) ?_; rintro e wz ⟨rfl, uB⟩; (try (replace bT := uB.get bT id; obtain ⟨c0, c1, c2, c3, c4⟩ := cells5 bT; have cl := lt_at bT; have f0 := free_at bT 0; have f1 := free_at bT 1; have f2 := free_at bT 2; have f3 := free_at bT 3; have f4 := free_at bT 4)); replace UT := Upd.then UT uB (fun _ _ => id)) | (go_at_call 12; with_reducible refine Calls.mono (L4 _ (SG.out _ (Upd.alloc UT _)) (SP.out _ (Upd.alloc UT _))) ?_; rintro e wz ⟨rfl, uB⟩; have hsz := UT.size; have bT := uB.get (Vnew1 _ _) id; obtain ⟨c0, c1, c2, c3, c4⟩ := cells5 bT; have cl := lt_at bT; have f0 := free_at bT 0; have f1 := free_at bT 1; have f2 := free_at bT 2; have f3 := free_at bT 3; have f4 := free_at bT 4; replace UT := Upd.then (Upd.alloc UT _) uB (fun _ _ => id)))
            all_goals clear NG L4
            all_goals (refine hK _ _ (Met.intro (hJ _ _ ?_)); (repeat apply Exists.intro); refine ⟨?_, rfl⟩)
            all_goals first
              | with_reducible exact ⟨_, rfl, Vnew1 _ _, Upd.alloc UT _⟩
              | (have b5 := block5 (x := ⟨0, 0, [], false, 0⟩) bT; with_reducible exact ⟨_, rfl, b5 _ _ _ _ _, upd5 UT (by omega) _ _ _ _ _⟩)
          case rest =>
            obtain ⟨h, rfl, hbS, hux⟩ := hcut
            clear a0 a1 a2 a3 a4 al c0 c1 c2 c3 c4 cl NG L4 SG SP
            have hbE := hux.get HE.out id
            have hbF := hux.get HF.out id
            have hbG := hux.get HGG.out id
            have HUF := hide (HUZ.out.then hux (fun _ _ => id))
            clear hux HE HF HGG HUZ
            obtain ⟨e0, e1, e2, e3, e4⟩ := cells5 hbE
            have el := lt_at hbE
            obtain ⟨f0, f1, f2, f3, f4⟩ := cells5 hbF
            have fl := lt_at hbF
            obtain ⟨g0, g1, g2, g3, g4⟩ := cells5 hbG
            have gl := lt_at hbG
            obtain ⟨s0, s1, s2, s3, s4⟩ := cells5 hbS
            have sl := lt_at hbS
            clear hbE hbF hbG hbS
            go_wp2_with fail
            go_ret
            exact ⟨rfl, HUF.out⟩
end Go.Proofs.YtmfngdjhkpddoaaGreatDoor
