/- The walk of NumsBin. -/
import Derived.Test.YtmfngdjhkpddoaaGreatDoorJ39
set_option maxRecDepth 100000
namespace Go.Proofs.YtmfngdjhkpddoaaGreatDoor
open Go.RowKit Go.Lat Go.Lib

theorem cut4 (l : List UInt8) : (⟨l.toArray⟩ : ByteArray).extract 0 (min (l.length : Int) 4).toNat = ⟨(l.take 4).toArray⟩ := by
  apply ByteArray.ext
  apply Array.ext'
  have e : (min (l.length : Int) 4).toNat = min l.length 4 := by omega
  rw [e, ByteArray.data_extract]
  simp only [Array.toList_extract, List.extract_eq_take_drop, Nat.sub_zero, List.drop_zero]
  rw [Nat.min_comm, ← List.take_eq_take_min]
set_option maxHeartbeats 12800000 in
theorem NumsBin_any (w : World) (hg : Sig w) (hp : Pow w) (op : List UInt8) (x y : Vl) (hx : x.ok) (hy : y.ok) : Calls Tryz.prog 9 #[enS op, x.val, y.val] w fun e w' => e = .returned (.bool true) ∧ Upd w w' (fun _ => False) := by
  obtain ⟨xk, xn, xt, xb, xf⟩ := x
  obtain ⟨yk, yn, yt, yb, yf⟩ := y
  obtain ⟨at', hc0⟩ : ∃ c, xt.take 300 = c := ⟨_, rfl⟩
  obtain ⟨ct, hc1⟩ : ∃ c, yt.take 300 = c := ⟨_, rfl⟩
  obtain ⟨o4, ho4⟩ : ∃ c, op.take 4 = c := ⟨_, rfl⟩
  have l0 : at'.length ≤ 300 := by rw [← hc0]; simp; omega
  have l1 : ct.length ≤ 300 := by rw [← hc1]; simp; omega
  have V0 := fun w => lawvals9_any w xk xn xt at' xb xf hc0
  have V1 := fun w => lawvals9_any w yk yn yt ct yb yf hc1
  have okx : (Vl.mk xk xn at' xb xf).ok := ⟨hx.k, hx.n, Nat.le_trans l0 (by decide), hx.f⟩
  have oky : (Vl.mk yk yn ct yb yf).ok := ⟨hy.k, hy.n, Nat.le_trans l1 (by decide), hy.f⟩
  have BP := fun n w h1 h2 => Bin_any w h1 h2 n _ _ okx oky (Nat.le_trans l0 (by decide)) (Nat.le_trans l1 (by decide))
  have BR := fun n w => RBin_any w n (Vl.mk xk xn at' xb xf) (Vl.mk yk yn ct yb yf) (Nat.le_trans l0 (by decide)) (Nat.le_trans l1 (by decide))
  have NG := fun w => Neg_any w _ okx (Nat.le_trans l0 (by decide))
  have RNG := fun w => RNeg_any w (Vl.mk xk xn at' xb xf) (Nat.le_trans l0 (by decide))
  have PC := fun w => Pct_any w _ okx (Nat.le_trans l0 (by decide))
  have RPC := fun w => RPct_any w (Vl.mk xk xn at' xb xf) (Nat.le_trans l0 (by decide))
  obtain ⟨⟨gk0, gn, gt, gb, gf⟩, hng⟩ : ∃ p, negV (Vl.mk xk xn at' xb xf) = p := ⟨_, rfl⟩
  obtain ⟨⟨pk, pn, pt, pb, pf⟩, hpc⟩ : ∃ p, pctV (Vl.mk xk xn at' xb xf) = p := ⟨_, rfl⟩
  rw [hng] at NG RNG
  rw [hpc] at PC RPC
  have SM1 := fun w => same9_any w ⟨gk0, gn, gt, gb, gf⟩
  have SM2 := fun w => same9_any w ⟨pk, pn, pt, pb, pf⟩
  unfold Vl.val at NG RNG PC RPC SM1 SM2 ⊢
  simp only at NG RNG PC RPC SM1 SM2 ⊢
  have HG := hide hg
  have HP := hide hp
  have HOP := hide ho4
  have HBP := hide BP
  have HBR := hide BR
  have HU0 : Hid (Upd w w (fun _ => False)) := hide (Upd.refl w _)
  clear l0 l1 hc0 hc1 hx hy hg hp okx oky hng hpc ho4 BP BR
  go_enter Tryz.func9, Tryz.ntmps9
  go_wp2_with fail
  with_reducible refine Calls.mono (V0 _) ?_
  rintro e w1 ⟨rfl, u1⟩
  have HX : Hid (w1.heap[w.heap.size]? = some (.cells #[.int .i64 xk, .int .i64 xn, enS xt, .bool xb, .int .i64 xf] 35 (0, 0))) := hide (u1.get (block_alloc (Vnew1 w (.cells #[.int .i64 xk, .int .i64 xn, enS xt, .bool xb, .int .i64 xf] 35)) (.cells #[.int .i64 yk, .int .i64 yn, enS yt, .bool yb, .int .i64 yf] 35)) id)
  have HY : Hid (w1.heap[w.heap.size + 1]? = some (.cells #[.int .i64 yk, .int .i64 yn, enS yt, .bool yb, .int .i64 yf] 35 (0, 0))) := hide (u1.get (Vnew2 w (.cells #[.int .i64 xk, .int .i64 xn, enS xt, .bool xb, .int .i64 xf] 35) (.cells #[.int .i64 yk, .int .i64 yn, enS yt, .bool yb, .int .i64 yf] 35)) id)
  have HU1 := hide (((HU0.out.alloc _).alloc _).then u1 (fun _ _ => id))
  clear u1
  have bY := HY.out
  obtain ⟨y0, y1, y2, y3, y4⟩ := cells5 bY
  have yl := lt_at bY
  clear bY
  have yl_ : w.heap.size < w1.heap.size := by omega
  go_wp2_with fail
  with_reducible refine Calls.mono (V1 _) ?_
  rintro e w2 ⟨rfl, u2⟩
  have HX := hide (u2.get (block_alloc (block_alloc HX.out (.cells #[.int .i64 xk, .int .i64 xn, enS at', .bool xb, .int .i64 xf] 26)) (.cells #[.int .i64 xk, .int .i64 xn, enS at', .bool xb, .int .i64 xf] 36)) id)
  have HY := hide (u2.get (block_alloc (block_alloc HY.out (.cells #[.int .i64 xk, .int .i64 xn, enS at', .bool xb, .int .i64 xf] 26)) (.cells #[.int .i64 xk, .int .i64 xn, enS at', .bool xb, .int .i64 xf] 36)) id)
  have HA : Hid (w2.heap[w1.heap.size]? = some (.cells #[.int .i64 xk, .int .i64 xn, enS at', .bool xb, .int .i64 xf] 26 (0, 0))) := hide (u2.get (block_alloc (Vnew1 w1 (.cells #[.int .i64 xk, .int .i64 xn, enS at', .bool xb, .int .i64 xf] 26)) (.cells #[.int .i64 xk, .int .i64 xn, enS at', .bool xb, .int .i64 xf] 36)) id)
  have HB : Hid (w2.heap[w1.heap.size + 1]? = some (.cells #[.int .i64 xk, .int .i64 xn, enS at', .bool xb, .int .i64 xf] 36 (0, 0))) := hide (u2.get (Vnew2 w1 (.cells #[.int .i64 xk, .int .i64 xn, enS at', .bool xb, .int .i64 xf] 26) (.cells #[.int .i64 xk, .int .i64 xn, enS at', .bool xb, .int .i64 xf] 36)) id)
  have HU2 := hide (((HU1.out.alloc _).alloc _).then u2 (fun _ _ => id))
  clear u2
  go_wp2_with fail
  clear y0 y1 y2 y3 y4 yl yl_
  simp only [cut4, HOP.out]
  go_wp2_with fail
  have bX := (block_alloc (block_alloc (block_alloc HX.out (.cells #[.int .i64 yk, .int .i64 yn, enS ct, .bool yb, .int .i64 yf] 26)) (.cells #[.int .i64 yk, .int .i64 yn, enS ct, .bool yb, .int .i64 yf] 36)) (.cells #[enS o4, .string ⟨#[43]⟩, .string ⟨#[45]⟩, .string ⟨#[42]⟩, .string ⟨#[47]⟩, .string ⟨#[38]⟩, .string ⟨#[61]⟩, .string ⟨#[60, 62]⟩, .string ⟨#[60]⟩, .string ⟨#[60, 61]⟩, .string ⟨#[62]⟩, .string ⟨#[62, 61]⟩] 9))
  have bY := (block_alloc (block_alloc (block_alloc HY.out (.cells #[.int .i64 yk, .int .i64 yn, enS ct, .bool yb, .int .i64 yf] 26)) (.cells #[.int .i64 yk, .int .i64 yn, enS ct, .bool yb, .int .i64 yf] 36)) (.cells #[enS o4, .string ⟨#[43]⟩, .string ⟨#[45]⟩, .string ⟨#[42]⟩, .string ⟨#[47]⟩, .string ⟨#[38]⟩, .string ⟨#[61]⟩, .string ⟨#[60, 62]⟩, .string ⟨#[60]⟩, .string ⟨#[60, 61]⟩, .string ⟨#[62]⟩, .string ⟨#[62, 61]⟩] 9))
  have bA := (block_alloc (block_alloc (block_alloc HA.out (.cells #[.int .i64 yk, .int .i64 yn, enS ct, .bool yb, .int .i64 yf] 26)) (.cells #[.int .i64 yk, .int .i64 yn, enS ct, .bool yb, .int .i64 yf] 36)) (.cells #[enS o4, .string ⟨#[43]⟩, .string ⟨#[45]⟩, .string ⟨#[42]⟩, .string ⟨#[47]⟩, .string ⟨#[38]⟩, .string ⟨#[61]⟩, .string ⟨#[60, 62]⟩, .string ⟨#[60]⟩, .string ⟨#[60, 61]⟩, .string ⟨#[62]⟩, .string ⟨#[62, 61]⟩] 9))
  have bB := (block_alloc (block_alloc (block_alloc HB.out (.cells #[.int .i64 yk, .int .i64 yn, enS ct, .bool yb, .int .i64 yf] 26)) (.cells #[.int .i64 yk, .int .i64 yn, enS ct, .bool yb, .int .i64 yf] 36)) (.cells #[enS o4, .string ⟨#[43]⟩, .string ⟨#[45]⟩, .string ⟨#[42]⟩, .string ⟨#[47]⟩, .string ⟨#[38]⟩, .string ⟨#[61]⟩, .string ⟨#[60, 62]⟩, .string ⟨#[60]⟩, .string ⟨#[60, 61]⟩, .string ⟨#[62]⟩, .string ⟨#[62, 61]⟩] 9))
  have bC := (block_alloc (block_alloc (Vnew1 w2 (.cells #[.int .i64 yk, .int .i64 yn, enS ct, .bool yb, .int .i64 yf] 26)) (.cells #[.int .i64 yk, .int .i64 yn, enS ct, .bool yb, .int .i64 yf] 36)) (.cells #[enS o4, .string ⟨#[43]⟩, .string ⟨#[45]⟩, .string ⟨#[42]⟩, .string ⟨#[47]⟩, .string ⟨#[38]⟩, .string ⟨#[61]⟩, .string ⟨#[60, 62]⟩, .string ⟨#[60]⟩, .string ⟨#[60, 61]⟩, .string ⟨#[62]⟩, .string ⟨#[62, 61]⟩] 9))
  have bD := (block_alloc (Vnew2 w2 (.cells #[.int .i64 yk, .int .i64 yn, enS ct, .bool yb, .int .i64 yf] 26) (.cells #[.int .i64 yk, .int .i64 yn, enS ct, .bool yb, .int .i64 yf] 36)) (.cells #[enS o4, .string ⟨#[43]⟩, .string ⟨#[45]⟩, .string ⟨#[42]⟩, .string ⟨#[47]⟩, .string ⟨#[38]⟩, .string ⟨#[61]⟩, .string ⟨#[60, 62]⟩, .string ⟨#[60]⟩, .string ⟨#[60, 61]⟩, .string ⟨#[62]⟩, .string ⟨#[62, 61]⟩] 9))
  have bO := (show (((w2.alloc (.cells #[.int .i64 yk, .int .i64 yn, enS ct, .bool yb, .int .i64 yf] 26)).alloc (.cells #[.int .i64 yk, .int .i64 yn, enS ct, .bool yb, .int .i64 yf] 36)).alloc (.cells #[enS o4, .string ⟨#[43]⟩, .string ⟨#[45]⟩, .string ⟨#[42]⟩, .string ⟨#[47]⟩, .string ⟨#[38]⟩, .string ⟨#[61]⟩, .string ⟨#[60, 62]⟩, .string ⟨#[60]⟩, .string ⟨#[60, 61]⟩, .string ⟨#[62]⟩, .string ⟨#[62, 61]⟩] 9)).heap[w2.heap.size + 1 + 1]? = some (.cells #[enS o4, .string ⟨#[43]⟩, .string ⟨#[45]⟩, .string ⟨#[42]⟩, .string ⟨#[47]⟩, .string ⟨#[38]⟩, .string ⟨#[61]⟩, .string ⟨#[60, 62]⟩, .string ⟨#[60]⟩, .string ⟨#[60, 61]⟩, .string ⟨#[62]⟩, .string ⟨#[62, 61]⟩] 9 (0, 0)) from by have := Vnew2 (w2.alloc (.cells #[.int .i64 yk, .int .i64 yn, enS ct, .bool yb, .int .i64 yf] 26)) (.cells #[.int .i64 yk, .int .i64 yn, enS ct, .bool yb, .int .i64 yf] 36) (.cells #[enS o4, .string ⟨#[43]⟩, .string ⟨#[45]⟩, .string ⟨#[42]⟩, .string ⟨#[47]⟩, .string ⟨#[38]⟩, .string ⟨#[61]⟩, .string ⟨#[60, 62]⟩, .string ⟨#[60]⟩, .string ⟨#[60, 61]⟩, .string ⟨#[62]⟩, .string ⟨#[62, 61]⟩] 9); simpa using this)
  have bU : Upd w (((w2.alloc (.cells #[.int .i64 yk, .int .i64 yn, enS ct, .bool yb, .int .i64 yf] 26)).alloc (.cells #[.int .i64 yk, .int .i64 yn, enS ct, .bool yb, .int .i64 yf] 36)).alloc (.cells #[enS o4, .string ⟨#[43]⟩, .string ⟨#[45]⟩, .string ⟨#[42]⟩, .string ⟨#[47]⟩, .string ⟨#[38]⟩, .string ⟨#[61]⟩, .string ⟨#[60, 62]⟩, .string ⟨#[60]⟩, .string ⟨#[60, 61]⟩, .string ⟨#[62]⟩, .string ⟨#[62, 61]⟩] 9)) (fun _ => False) := (((HU2.out.alloc _).alloc _).alloc _)
  obtain ⟨W, hW⟩ : ∃ W, (((w2.alloc (.cells #[.int .i64 yk, .int .i64 yn, enS ct, .bool yb, .int .i64 yf] 26)).alloc (.cells #[.int .i64 yk, .int .i64 yn, enS ct, .bool yb, .int .i64 yf] 36)).alloc (.cells #[enS o4, .string ⟨#[43]⟩, .string ⟨#[45]⟩, .string ⟨#[42]⟩, .string ⟨#[47]⟩, .string ⟨#[38]⟩, .string ⟨#[61]⟩, .string ⟨#[60, 62]⟩, .string ⟨#[60]⟩, .string ⟨#[60, 61]⟩, .string ⟨#[62]⟩, .string ⟨#[62, 61]⟩] 9)) = W := ⟨_, rfl⟩
  rw [hW] at bA bB bC bD bO bU ⊢
  obtain ⟨ga, hga⟩ : ∃ g, w1.heap.size = g := ⟨_, rfl⟩
  rw [hga] at bA bB ⊢
  obtain ⟨gc, hgc⟩ : ∃ g, w2.heap.size = g := ⟨_, rfl⟩
  rw [hgc] at bC bD bO ⊢
  have HA := hide bA
  have HB := hide bB
  have HC := hide bC
  have HD := hide bD
  have HO := hide bO
  have HUW := hide bU
  clear hW bA bB bC bD bO bU HX HY HU2 hga hgc
  go_loopg [35] 12 (fun q iv wr => ∃ i : Nat, i + q = 12 ∧ iv = .int .i64 (i : Int) ∧ Upd W wr (fun _ => False))
  case atStart => exact ⟨0, by omega, rfl, Upd.refl _ _⟩
  case round =>
    obtain ⟨i, hi, rfl, hu⟩ := hrel
    by_cases hlt : i < 12
    · have hcell : ∃ n : List UInt8, (#[enS o4, .string ⟨#[43]⟩, .string ⟨#[45]⟩, .string ⟨#[42]⟩, .string ⟨#[47]⟩, .string ⟨#[38]⟩, .string ⟨#[61]⟩, .string ⟨#[60, 62]⟩, .string ⟨#[60]⟩, .string ⟨#[60, 61]⟩, .string ⟨#[62]⟩, .string ⟨#[62, 61]⟩] : Array Value)[i]? = some (enS n) := by
        match i, hlt with
        | 0, _ => exact ⟨o4, rfl⟩
        | 1, _ => exact ⟨[43], rfl⟩
        | 2, _ => exact ⟨[45], rfl⟩
        | 3, _ => exact ⟨[42], rfl⟩
        | 4, _ => exact ⟨[47], rfl⟩
        | 5, _ => exact ⟨[38], rfl⟩
        | 6, _ => exact ⟨[61], rfl⟩
        | 7, _ => exact ⟨[60, 62], rfl⟩
        | 8, _ => exact ⟨[60], rfl⟩
        | 9, _ => exact ⟨[60, 61], rfl⟩
        | 10, _ => exact ⟨[62], rfl⟩
        | 11, _ => exact ⟨[62, 61], rfl⟩
      obtain ⟨n, hn⟩ := hcell
      have HO0 := hu.get HO.out id
      have ce := cell_at HO0 i _ hn
      have AA := fun w h1 h2 => HBP.out n w h1 h2
      have BB := fun w => HBR.out n w
      obtain ⟨⟨⟨vk, vn, vt, vb, vf⟩, q⟩, hv⟩ : ∃ p, binV n (Vl.mk xk xn at' xb xf) (Vl.mk yk yn ct yb yf) = p := ⟨_, rfl⟩
      rw [hv] at AA BB
      have SM := fun w => same9_any w ⟨vk, vn, vt, vb, vf⟩
      unfold Vl.val at AA BB SM
      simp only at AA BB SM
      have il : (i : Int) < 12 := by omega
      have i0 : (0 : Int) ≤ (i : Int) := by omega
      have HA0 := hide (hu.get HA.out id)
      have HB0 := hide (hu.get HB.out id)
      have HC0 := hide (hu.get HC.out id)
      have HD0 := hide (hu.get HD.out id)
      have HUr := hide hu
      have HUt := hide (HUW.out.then hu (fun _ _ => id))
      clear hu hv hn HO0
      have bA := HA0.out
      obtain ⟨a0, a1, a2, a3, a4⟩ := cells5 bA
      have al := lt_at bA
      clear bA
      have bC := HC0.out
      obtain ⟨c0, c1, c2, c3, c4⟩ := cells5 bC
      have cl := lt_at bC
      clear bC
      go_wp2_with fail
      have HU9 := HUr
      with_reducible refine Calls.mono (AA _ (HG.out.upd HUt.out id) (HP.out.upd HUt.out id)) ?_
      rintro e w10 ⟨rfl, u10⟩
      have HB0 := hide (u10.get HB0.out id)
      have HD0 := hide (u10.get HD0.out id)
      have HU10 := hide (HU9.out.then u10 (fun _ _ => id))
      clear u10
      clear a0 a1 a2 a3 a4 al c0 c1 c2 c3 c4 cl ce
      have bB0 := HB0.out
      obtain ⟨b0, b1, b2, b3, b4⟩ := cells5 bB0
      have bl := lt_at bB0
      clear bB0
      have bD0 := HD0.out
      obtain ⟨d0, d1, d2, d3, d4⟩ := cells5 bD0
      have dl := lt_at bD0
      clear bD0
      go_wp2_with fail
      with_reducible refine Calls.mono (BB _) ?_
      rintro e w11 ⟨rfl, u11⟩
      have HB0 := hide (u11.get (block_alloc HB0.out (.cells #[.int .i64 vk, .int .i64 vn, enS vt, .bool vb, .int .i64 vf] 26)) id)
      have HD0 := hide (u11.get (block_alloc HD0.out (.cells #[.int .i64 vk, .int .i64 vn, enS vt, .bool vb, .int .i64 vf] 26)) id)
      have HE : Hid (w11.heap[w10.heap.size]? = some (.cells #[.int .i64 vk, .int .i64 vn, enS vt, .bool vb, .int .i64 vf] 26 (0, 0))) := hide (u11.get (Vnew1 w10 (.cells #[.int .i64 vk, .int .i64 vn, enS vt, .bool vb, .int .i64 vf] 26)) id)
      have HU11 := hide ((HU10.out.alloc _).then u11 (fun _ _ => id))
      clear u11
      clear b0 b1 b2 b3 b4 bl d0 d1 d2 d3 d4 dl
      have bE := HE.out
      obtain ⟨e0, e1, e2, e3, e4⟩ := cells5 bE
      have el := lt_at bE
      clear bE
      go_wp2_with fail
      with_reducible refine Calls.mono (SM _) ?_
      rintro e w12 ⟨rfl, u12⟩
      have HB0 := hide (u12.get (block_alloc HB0.out (.cells #[.int .i64 vk, .int .i64 vn, enS vt, .bool vb, .int .i64 vf] 36)) id)
      have HD0 := hide (u12.get (block_alloc HD0.out (.cells #[.int .i64 vk, .int .i64 vn, enS vt, .bool vb, .int .i64 vf] 36)) id)
      have HE := hide (u12.get (block_alloc HE.out (.cells #[.int .i64 vk, .int .i64 vn, enS vt, .bool vb, .int .i64 vf] 36)) id)
      have HF : Hid (w12.heap[w11.heap.size]? = some (.cells #[.int .i64 vk, .int .i64 vn, enS vt, .bool vb, .int .i64 vf] 36 (0, 0))) := hide (u12.get (Vnew1 w11 (.cells #[.int .i64 vk, .int .i64 vn, enS vt, .bool vb, .int .i64 vf] 36)) id)
      have HU12 := hide ((HU11.out.alloc _).then u12 (fun _ _ => id))
      clear u12
      go_wp2_with fail
      go_roundg (gk - 1)
      case measure => omega
      case rel => exact ⟨i + 1, by omega, by go_num, HU12.out⟩
    · obtain rfl : i = 12 := by omega
      have bA := hu.get HA.out id
      have bB := hu.get HB.out id
      obtain ⟨a0, a1, a2, a3, a4⟩ := cells5 bA
      have al := lt_at bA
      obtain ⟨b0, b1, b2, b3, b4⟩ := cells5 bB
      have bl := lt_at bB
      have HUt := hide (HUW.out.then hu (fun _ _ => id))
      have SGd : Sig wr.drew := HG.out.upd HUt.out.drew id
      have PWd : Pow wr.drew := HP.out.upd HUt.out.drew id
      have HSG := hide SGd
      have HPW := hide PWd
      clear hu hi bA bB SGd PWd HBP HBR HC HD HO
      go_wp2_with fail
      go_region_held3 (fun w' => w'.cell? ⟨ga, 0, none⟩ = some (.int .i64 xk) ∧ w'.cell? ⟨ga, 1, none⟩ = some (.int .i64 xn) ∧ w'.cell? ⟨ga, 2, none⟩ = some (enS at') ∧ w'.cell? ⟨ga, 3, none⟩ = some (.bool xb) ∧ w'.cell? ⟨ga, 4, none⟩ = some (.int .i64 xf) ∧ w'.cell? ⟨(ga + 1), 0, none⟩ = some (.int .i64 xk) ∧ w'.cell? ⟨(ga + 1), 1, none⟩ = some (.int .i64 xn) ∧ w'.cell? ⟨(ga + 1), 2, none⟩ = some (enS at') ∧ w'.cell? ⟨(ga + 1), 3, none⟩ = some (.bool xb) ∧ w'.cell? ⟨(ga + 1), 4, none⟩ = some (.int .i64 xf) ∧ Upd wr w' (fun _ => False))
        (first | (go_keep; done) | exact ⟨a0, a1, a2, a3, a4, b0, b1, b2, b3, b4, (Upd.refl wr _).drew⟩ | (have hz : Upd wr _ (fun _ => False) := Upd.then (And.right (And.right (And.right (And.right (And.right (And.right (And.right (And.right (And.right (And.right (by assumption))))))))))) uA (fun _ _ => id); with_reducible exact ⟨(hz.cell ga 0 al id).trans a0, (hz.cell ga 1 al id).trans a1, (hz.cell ga 2 al id).trans a2, (hz.cell ga 3 al id).trans a3, (hz.cell ga 4 al id).trans a4, (hz.cell (ga + 1) 0 bl id).trans b0, (hz.cell (ga + 1) 1 bl id).trans b1, (hz.cell (ga + 1) 2 bl id).trans b2, (hz.cell (ga + 1) 3 bl id).trans b3, (hz.cell (ga + 1) 4 bl id).trans b4, hz⟩) | (have hz : Upd wr _ (fun _ => False) := Upd.then (And.right (And.right (And.right (And.right (And.right (And.right (And.right (And.right (And.right (And.right (by assumption))))))))))) uB (fun _ _ => id); with_reducible exact ⟨(hz.cell ga 0 al id).trans a0, (hz.cell ga 1 al id).trans a1, (hz.cell ga 2 al id).trans a2, (hz.cell ga 3 al id).trans a3, (hz.cell ga 4 al id).trans a4, (hz.cell (ga + 1) 0 bl id).trans b0, (hz.cell (ga + 1) 1 bl id).trans b1, (hz.cell (ga + 1) 2 bl id).trans b2, (hz.cell (ga + 1) 3 bl id).trans b3, (hz.cell (ga + 1) 4 bl id).trans b4, hz⟩) | (have hz : Upd wr _ (fun _ => False) := Upd.then (And.right (And.right (And.right (And.right (And.right (And.right (And.right (And.right (And.right (And.right (by assumption))))))))))) uC (fun _ _ => id); with_reducible exact ⟨(hz.cell ga 0 al id).trans a0, (hz.cell ga 1 al id).trans a1, (hz.cell ga 2 al id).trans a2, (hz.cell ga 3 al id).trans a3, (hz.cell ga 4 al id).trans a4, (hz.cell (ga + 1) 0 bl id).trans b0, (hz.cell (ga + 1) 1 bl id).trans b1, (hz.cell (ga + 1) 2 bl id).trans b2, (hz.cell (ga + 1) 3 bl id).trans b3, (hz.cell (ga + 1) 4 bl id).trans b4, hz⟩) | (have hz : Upd wr _ (fun _ => False) := Upd.then (And.right (And.right (And.right (And.right (And.right (And.right (And.right (And.right (And.right (And.right (by assumption))))))))))) uD (fun _ _ => id); with_reducible exact ⟨(hz.cell ga 0 al id).trans a0, (hz.cell ga 1 al id).trans a1, (hz.cell ga 2 al id).trans a2, (hz.cell ga 3 al id).trans a3, (hz.cell ga 4 al id).trans a4, (hz.cell (ga + 1) 0 bl id).trans b0, (hz.cell (ga + 1) 1 bl id).trans b1, (hz.cell (ga + 1) 2 bl id).trans b2, (hz.cell (ga + 1) 3 bl id).trans b3, (hz.cell (ga + 1) 4 bl id).trans b4, hz⟩) | (have hz : Upd wr _ (fun _ => False) := Upd.then (And.right (And.right (And.right (And.right (And.right (And.right (And.right (And.right (And.right (And.right (by assumption))))))))))) uE (fun _ _ => id); with_reducible exact ⟨(hz.cell ga 0 al id).trans a0, (hz.cell ga 1 al id).trans a1, (hz.cell ga 2 al id).trans a2, (hz.cell ga 3 al id).trans a3, (hz.cell ga 4 al id).trans a4, (hz.cell (ga + 1) 0 bl id).trans b0, (hz.cell (ga + 1) 1 bl id).trans b1, (hz.cell (ga + 1) 2 bl id).trans b2, (hz.cell (ga + 1) 3 bl id).trans b3, (hz.cell (ga + 1) 4 bl id).trans b4, hz⟩) | (have hz : Upd wr _ (fun _ => False) := Upd.then (And.right (And.right (And.right (And.right (And.right (And.right (And.right (And.right (And.right (And.right (by assumption))))))))))) uF (fun _ _ => id); with_reducible exact ⟨(hz.cell ga 0 al id).trans a0, (hz.cell ga 1 al id).trans a1, (hz.cell ga 2 al id).trans a2, (hz.cell ga 3 al id).trans a3, (hz.cell ga 4 al id).trans a4, (hz.cell (ga + 1) 0 bl id).trans b0, (hz.cell (ga + 1) 1 bl id).trans b1, (hz.cell (ga + 1) 2 bl id).trans b2, (hz.cell (ga + 1) 3 bl id).trans b3, (hz.cell (ga + 1) 4 bl id).trans b4, hz⟩) | (have hz : Upd wr _ (fun _ => False) := Upd.then (And.right (And.right (And.right (And.right (And.right (And.right (And.right (And.right (And.right (And.right (by assumption))))))))))) uG (fun _ _ => id); with_reducible exact ⟨(hz.cell ga 0 al id).trans a0, (hz.cell ga 1 al id).trans a1, (hz.cell ga 2 al id).trans a2, (hz.cell ga 3 al id).trans a3, (hz.cell ga 4 al id).trans a4, (hz.cell (ga + 1) 0 bl id).trans b0, (hz.cell (ga + 1) 1 bl id).trans b1, (hz.cell (ga + 1) 2 bl id).trans b2, (hz.cell (ga + 1) 3 bl id).trans b3, (hz.cell (ga + 1) 4 bl id).trans b4, hz⟩))
        (first | (go_at_call 16; with_reducible refine Calls.mono (wakes9_any _ HSG.out HPW.out) ?_; rintro e wz ⟨rfl, uA⟩) | (go_at_call 25; with_reducible refine Calls.mono (NG _) ?_; rintro e wz ⟨rfl, uB⟩) | (go_at_call 26; with_reducible refine Calls.mono (RNG _) ?_; rintro e wz ⟨rfl, uC⟩) | (go_at_call 17; with_reducible refine Calls.mono (SM1 _) ?_; rintro e wz ⟨rfl, uD⟩) | (go_at_call 27; with_reducible refine Calls.mono (PC _) ?_; rintro e wz ⟨rfl, uE⟩) | (go_at_call 28; with_reducible refine Calls.mono (RPC _) ?_; rintro e wz ⟨rfl, uF⟩) | (go_at_call 17; with_reducible refine Calls.mono (SM2 _) ?_; rintro e wz ⟨rfl, uG⟩))
      all_goals go_wp2_with fail
      all_goals go_ret
      all_goals exact ⟨rfl, HUt.out.then (And.right (And.right (And.right (And.right (And.right (And.right (And.right (And.right (And.right (And.right (by assumption))))))))))) (fun _ _ => id)⟩
end Go.Proofs.YtmfngdjhkpddoaaGreatDoor
