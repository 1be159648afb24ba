/- The walk of NumsPower. -/
import Derived.Test.YtmfngdjhkpddoaaGreatDoorJ39
import Derived.Test.YtmfngdjhkpddoaaGreatDoorJ01
import Derived.ProofKit
import Derived.Deep.Slices
import Derived.Deep.Fields
import Derived.ChangeSame
import Derived.Test.YtmfngdjhkpddoaaGreatDoorJ14
import Derived.Test.YtmfngdjhkpddoaaGreatDoorJ02
import Derived.Test.YtmfngdjhkpddoaaGreatDoorRows
import Derived.OpenShut
import Derived.LaidMore
import Derived.Lay
import Derived.Stop.Joined
import Derived.ChangeMaps5
/- The walk of NumsPower. -/
set_option maxRecDepth 100000
namespace Go.Proofs.YtmfngdjhkpddoaaGreatDoor
open Go.RowKit Go.Lat Go.Lib

set_option maxHeartbeats 6400000 in
theorem NumsPower_any (w : World) (hg : Sig w) (hp : Pow w) (x y : Vl) (hx : x.ok) (hy : y.ok) : Calls Tryz.prog 4 #[x.val, y.val] w fun e w' => e = .returned (.bool true) ∧ Upd w w' (fun _ => False) := by
  obtain ⟨xk, xn, xt, xb, xf⟩ := x
  obtain ⟨yk, yn, yt, yb, yf⟩ := y
  obtain ⟨at', hc0⟩ : ∃ c, xt.take 300 = c := ⟨_, rfl⟩
  obtain ⟨ct, hc1⟩ : ∃ c, yt.take 300 = c := ⟨_, rfl⟩
  have l0 : at'.length ≤ 300 := by rw [← hc0]; simp; omega
  have l1 : ct.length ≤ 300 := by rw [← hc1]; simp; omega
  have hm := tmod_rng yn 10010000 (by decide)
  obtain ⟨m, hmm⟩ : ∃ m, yn.tmod 10010000 = m := ⟨_, rfl⟩
  rw [hmm] at hm
  have wm : IntKind.i64.wrap m = m := by rw [IntWalk.i64_in _ (by omega)]
  have V0 := fun w => lawvals9_any w xk xn xt at' xb xf hc0
  have V1 := fun w => lawvals9_any w yk m yt ct yb yf hc1
  have okx : (Vl.mk xk xn at' xb xf).ok := ⟨hx.k, hx.n, Nat.le_trans l0 (by decide), hx.f⟩
  have oky : (Vl.mk yk m ct yb yf).ok := ⟨hy.k, ⟨by show -9223372036854775808 ≤ m; omega, by show m ≤ 9223372036854775807; omega⟩, Nat.le_trans l1 (by decide), hy.f⟩
  have A := fun w h1 h2 => Bin_any w h1 h2 [94] _ _ okx oky (Nat.le_trans l0 (by decide)) (Nat.le_trans l1 (by decide))
  have B := fun w => RBin_any w [94] (Vl.mk xk xn at' xb xf) (Vl.mk yk m ct yb yf) (Nat.le_trans l0 (by decide)) (Nat.le_trans l1 (by decide))
  obtain ⟨⟨⟨vk, vn, vt, vb, vf⟩, q⟩, hv⟩ : ∃ p, binV [94] (Vl.mk xk xn at' xb xf) (Vl.mk yk m ct yb yf) = p := ⟨_, rfl⟩
  rw [hv] at A B
  have SM := fun w => same9_any w ⟨vk, vn, vt, vb, vf⟩
  unfold Vl.val at A B SM ⊢
  simp only at A B SM ⊢
  have HG := hide hg
  have HP := hide hp
  have HU0 : Hid (Upd w w (fun _ => False)) := hide (Upd.refl w _)
  clear hv l0 l1 hc0 hc1 hx hy hg hp okx oky hm
  go_enter Tryz.func4, Tryz.ntmps4
  go_wp2_with fail
  with_reducible refine Calls.mono (V0 _) ?_
  rintro e w1 ⟨rfl, u1⟩
  have HX : Hid (w1.heap[w.heap.size]? = some (.cells #[.int .i64 xk, .int .i64 xn, enS xt, .bool xb, .int .i64 xf] 35 (0, 0))) := hide (u1.get (block_alloc (Vnew1 w (.cells #[.int .i64 xk, .int .i64 xn, enS xt, .bool xb, .int .i64 xf] 35)) (.cells #[.int .i64 yk, .int .i64 yn, enS yt, .bool yb, .int .i64 yf] 35)) id)
  have HY : Hid (w1.heap[w.heap.size + 1]? = some (.cells #[.int .i64 yk, .int .i64 yn, enS yt, .bool yb, .int .i64 yf] 35 (0, 0))) := hide (u1.get (Vnew2 w (.cells #[.int .i64 xk, .int .i64 xn, enS xt, .bool xb, .int .i64 xf] 35) (.cells #[.int .i64 yk, .int .i64 yn, enS yt, .bool yb, .int .i64 yf] 35)) id)
  have HU1 := hide (((HU0.out.alloc _).alloc _).then u1 (fun _ _ => id))
  clear u1
  have bY := HY.out
  obtain ⟨y0, y1, y2, y3, y4⟩ := cells5 bY
  have yl := lt_at bY
  have fy0 := free_at bY 0
  have fy1 := free_at bY 1
  have fy2 := free_at bY 2
  have fy3 := free_at bY 3
  have fy4 := free_at bY 4
  clear bY
  have yl_ : w.heap.size < w1.heap.size := by omega
  go_wp2_with fail
  have hyl : w.heap.size + 1 < w1.heap.size := yl
  have sU : Upd w (World.setCell w1 ⟨w.heap.size + 1, 1, none⟩ (.int .i64 m)) (fun _ => False) := Upd.setCell HU1.out ⟨w.heap.size + 1, 1, none⟩ (.int .i64 m) (.inl (Nat.le_succ _))
  obtain ⟨W1, hW1⟩ : ∃ W, World.setCell w1 ⟨w.heap.size + 1, 1, none⟩ (.int .i64 m) = W := ⟨_, rfl⟩
  have hs : W1.heap.size = w1.heap.size := by rw [← hW1]; simp [World.setCell]
  rw [hW1] at sU ⊢
  have sA := block_alloc (Vnew1 W1 (.cells #[.int .i64 xk, .int .i64 xn, enS at', .bool xb, .int .i64 xf] 26)) (.cells #[.int .i64 xk, .int .i64 xn, enS at', .bool xb, .int .i64 xf] 36)
  have sB := Vnew2 W1 (.cells #[.int .i64 xk, .int .i64 xn, enS at', .bool xb, .int .i64 xf] 26) (.cells #[.int .i64 xk, .int .i64 xn, enS at', .bool xb, .int .i64 xf] 36)
  have sU2 := (sU.alloc (.cells #[.int .i64 xk, .int .i64 xn, enS at', .bool xb, .int .i64 xf] 26)).alloc (.cells #[.int .i64 xk, .int .i64 xn, enS at', .bool xb, .int .i64 xf] 36)
  rw [hs] at sA sB
  clear y0 y1 y2 y3 y4 yl yl_ fy0 fy1 fy2 fy3 fy4
  obtain ⟨W, hW⟩ : ∃ W, (W1.alloc (.cells #[.int .i64 xk, .int .i64 xn, enS at', .bool xb, .int .i64 xf] 26)).alloc (.cells #[.int .i64 xk, .int .i64 xn, enS at', .bool xb, .int .i64 xf] 36) = W := ⟨_, rfl⟩
  rw [hW] at sA sB sU2 ⊢
  have HA := hide sA
  have HB := hide sB
  have HU2 := hide sU2
  clear hW1 hs hW sA sB sU sU2 HY HX HU1
  with_reducible refine Calls.mono (V1 _) ?_
  rintro e w3 ⟨rfl, u3⟩
  have HA := hide (u3.get HA.out id)
  have HB := hide (u3.get HB.out id)
  have HU3 := hide (HU2.out.then u3 (fun _ _ => id))
  clear u3
  have bA := HA.out
  obtain ⟨a0, a1, a2, a3, a4⟩ := cells5 bA
  have al := lt_at bA
  clear bA
  go_wp2_with fail
  with_reducible refine Calls.mono (A _ (HG.out.upd ((HU3.out.alloc _).alloc _) id) (HP.out.upd ((HU3.out.alloc _).alloc _) id)) ?_
  rintro e w4 ⟨rfl, u4⟩
  have HA := hide (u4.get (block_alloc (block_alloc HA.out (.cells #[.int .i64 yk, .int .i64 m, enS ct, .bool yb, .int .i64 yf] 26)) (.cells #[.int .i64 yk, .int .i64 m, enS ct, .bool yb, .int .i64 yf] 36)) id)
  have HB := hide (u4.get (block_alloc (block_alloc HB.out (.cells #[.int .i64 yk, .int .i64 m, enS ct, .bool yb, .int .i64 yf] 26)) (.cells #[.int .i64 yk, .int .i64 m, enS ct, .bool yb, .int .i64 yf] 36)) id)
  have HC : Hid (w4.heap[w3.heap.size]? = some (.cells #[.int .i64 yk, .int .i64 m, enS ct, .bool yb, .int .i64 yf] 26 (0, 0))) := hide (u4.get (block_alloc (Vnew1 w3 (.cells #[.int .i64 yk, .int .i64 m, enS ct, .bool yb, .int .i64 yf] 26)) (.cells #[.int .i64 yk, .int .i64 m, enS ct, .bool yb, .int .i64 yf] 36)) id)
  have HD : Hid (w4.heap[w3.heap.size + 1]? = some (.cells #[.int .i64 yk, .int .i64 m, enS ct, .bool yb, .int .i64 yf] 36 (0, 0))) := hide (u4.get (Vnew2 w3 (.cells #[.int .i64 yk, .int .i64 m, enS ct, .bool yb, .int .i64 yf] 26) (.cells #[.int .i64 yk, .int .i64 m, enS ct, .bool yb, .int .i64 yf] 36)) id)
  have HU4 := hide (((HU3.out.alloc _).alloc _).then u4 (fun _ _ => id))
  clear u4
  have bB := HB.out
  obtain ⟨b0, b1, b2, b3, b4⟩ := cells5 bB
  have bl := lt_at bB
  clear bB
  have bl_ : w1.heap.size < w4.heap.size := by omega
  have bD := HD.out
  obtain ⟨d0, d1, d2, d3, d4⟩ := cells5 bD
  have dl := lt_at bD
  clear bD
  have dl_ : w3.heap.size < w4.heap.size := by omega
  go_wp2_with fail
  with_reducible refine Calls.mono (B _) ?_
  rintro e w5 ⟨rfl, u5⟩
  have HA := hide (u5.get (block_alloc HA.out (.cells #[.int .i64 vk, .int .i64 vn, enS vt, .bool vb, .int .i64 vf] 26)) id)
  have HB := hide (u5.get (block_alloc HB.out (.cells #[.int .i64 vk, .int .i64 vn, enS vt, .bool vb, .int .i64 vf] 26)) id)
  have HC := hide (u5.get (block_alloc HC.out (.cells #[.int .i64 vk, .int .i64 vn, enS vt, .bool vb, .int .i64 vf] 26)) id)
  have HD := hide (u5.get (block_alloc HD.out (.cells #[.int .i64 vk, .int .i64 vn, enS vt, .bool vb, .int .i64 vf] 26)) id)
  have HE : Hid (w5.heap[w4.heap.size]? = some (.cells #[.int .i64 vk, .int .i64 vn, enS vt, .bool vb, .int .i64 vf] 26 (0, 0))) := hide (u5.get (Vnew1 w4 (.cells #[.int .i64 vk, .int .i64 vn, enS vt, .bool vb, .int .i64 vf] 26)) id)
  have HU5 := hide ((HU4.out.alloc _).then u5 (fun _ _ => id))
  clear u5
  go_wp2_with fail
  with_reducible refine Calls.mono (wakes9_any _ (HG.out.upd (HU5.out.alloc _) id) (HP.out.upd (HU5.out.alloc _) id)) ?_
  rintro e w6 ⟨rfl, u6⟩
  have HA := hide (u6.get (block_alloc HA.out (.cells #[.int .i64 vk, .int .i64 vn, enS vt, .bool vb, .int .i64 vf] 36)) id)
  have HB := hide (u6.get (block_alloc HB.out (.cells #[.int .i64 vk, .int .i64 vn, enS vt, .bool vb, .int .i64 vf] 36)) id)
  have HC := hide (u6.get (block_alloc HC.out (.cells #[.int .i64 vk, .int .i64 vn, enS vt, .bool vb, .int .i64 vf] 36)) id)
  have HD := hide (u6.get (block_alloc HD.out (.cells #[.int .i64 vk, .int .i64 vn, enS vt, .bool vb, .int .i64 vf] 36)) id)
  have HE := hide (u6.get (block_alloc HE.out (.cells #[.int .i64 vk, .int .i64 vn, enS vt, .bool vb, .int .i64 vf] 36)) id)
  have HF : Hid (w6.heap[w5.heap.size]? = some (.cells #[.int .i64 vk, .int .i64 vn, enS vt, .bool vb, .int .i64 vf] 36 (0, 0))) := hide (u6.get (Vnew1 w5 (.cells #[.int .i64 vk, .int .i64 vn, enS vt, .bool vb, .int .i64 vf] 36)) id)
  have HU6 := hide ((HU5.out.alloc _).then u6 (fun _ _ => id))
  clear u6
  have bE := HE.out
  obtain ⟨e0, e1, e2, e3, e4⟩ := cells5 bE
  have el := lt_at bE
  clear bE
  have bF := HF.out
  obtain ⟨f0, f1, f2, f3, f4⟩ := cells5 bF
  have fl := lt_at bF
  clear bF
  go_wp2_with fail
  with_reducible refine Calls.mono (SM _) ?_
  rintro e w7 ⟨rfl, u7⟩
  have HA := hide (u7.get HA.out id)
  have HB := hide (u7.get HB.out id)
  have HC := hide (u7.get HC.out id)
  have HD := hide (u7.get HD.out id)
  have HE := hide (u7.get HE.out id)
  have HF := hide (u7.get HF.out id)
  have HU7 := hide (HU6.out.then u7 (fun _ _ => id))
  clear u7
  go_wp2_with fail
  go_ret
  exact ⟨by simp, HU7.out⟩
end Go.Proofs.YtmfngdjhkpddoaaGreatDoor
/- From a law's walk to its row: the parts that are alike for every law. -/
namespace Go.Lat
open Go.ChangeShapes Go.WideShapes Go.ChangeAt Go.RowKit Go.Deep

theorem trodAll_below {H : Type} {enc : TypeId × Value → H} {P : Program} (hl : laidOutB P = true) {W W' : World} (hb : Below W.heap.size W W') :
    ∀ (ts : List TypeId) (vs : List Value) (ds : List (DataW H)) (ps : List MemPlace), (∀ t ∈ ts, P.readableRec t = true ∧ t < P.types.size) →
      DataW.TrodAll enc P W 0 (fun _ => true) true ts vs ds ps → (∀ x ∈ ps, x.block < W.heap.size) → DataW.TrodAll enc P W' 0 (fun b => decide (b < W.heap.size)) true ts vs ds ps
  | [], [], [], ps, _, h, _ => h
  | t :: ts, v :: vs, d :: ds, ps, hr, h, hlt => by
    obtain ⟨p, q, h1, h2, rfl⟩ := h
    refine ⟨p, q, Below.trod hl (hr t (by simp)).1 (hr t (by simp)).2 h1 hb (fun x hx => hlt x (by simp [hx])), ?_, rfl⟩
    exact trodAll_below hl hb ts vs ds q (fun t ht => hr t (by simp [ht])) h2 (fun x hx => hlt x (by simp [hx]))
  | [], [], _ :: _, _, _, h, _ => h.elim
  | [], _ :: _, _, _, _, h, _ => h.elim
  | _ :: _, [], _, _, _, h, _ => h.elim
  | _ :: _, _ :: _, [], _, _, h, _ => h.elim

/-- A law that leaves all that was there alone and answers true. -/
theorem law_post {H : Type} {enc : TypeId × Value → H} {P : Program} {f : Func} {s : ChangeSpec} {W W' : World} {args : Array Value} {ds gs : List (DataW H)} {before : List MemPlace} {tb : TypeId}
    (hl : laidOutB P = true) (hW : DataW.Whole enc P f.params.toList s.vars false W args.toList ds gs before) (hvars : s.vars = [])
    (hfn : s.fn H (ds ++ gs) = { results := [.lit (.bool true)], args := ds }) (hread0 : f.params.toList.all (fun t => P.readableRec t && decide (t < P.types.size)) = true)
    (hrt : f.resultTypes = #[tb]) (htb : P.underlying tb = some .bool) (hb : Upd W W' (fun _ => False)) :
    s.post enc P f false true false false W args (.bool true) W' := by
  have hread : ∀ t ∈ f.params.toList, P.readableRec t = true ∧ t < P.types.size := fun t ht => by have := List.all_eq_true.1 hread0 t ht; simpa using this
  have hlt := hW.lt
  obtain ⟨p, q, h1, h2, rfl, hz, ha⟩ := hW
  have hrt' : f.resultTypes.toList = [tb] := by rw [hrt]
  have hrs : f.resultTypes.size = 1 := by rw [hrt]; rfl
  refine ⟨ds, gs, _, [], p, [], ⟨p, q, h1, h2, rfl, hz, ha⟩, ?_, ?_, ?_, hb.below.frame _, fun h => by cases h⟩
  · rw [hfn, hrt', hrs]
    exact trodAll_mk1 (shut_bool htb true)
  · rw [hfn]
    exact trodAll_below hl hb.below _ _ _ _ hread h1 (fun x hx => hlt x (by simp [hx]))
  · rw [hfn, hvars]
    rfl

section
variable {H : Type} {enc : TypeId × Value → H} {P : Program} {w : World} {base : Nat} {spare : Nat → Bool} {held : Bool}
end
end Go.Lat
/- Arguments that are values; what the row's listed variables give the walks. -/
set_option maxRecDepth 100000
namespace Go.Proofs.YtmfngdjhkpddoaaGreatDoor
open Go.ChangeShapes Go.WideShapes Go.ChangeAt Go.RowKit Go.Lat

theorem Tryz.own : ownKnob Tryz.prog.godebug = none := by kernel_rfl
theorem Tryz.laidOut : laidOutB Tryz.prog = true := by kernel_rfl

theorem pow_of_laid {W : World} (h : laidMetH Tryz.prog Rows.numsPowerRow.laid W) : Pow W := by
  rw [MakeChecks.laidMetH_plain _ _ _ (by kernel_rfl)] at h
  obtain ⟨ps, ⟨g0, t0, cs0, f0, p0, q0, hg0, ht0, hv0, hd0, ⟨g1, t1, cs1, f1, p1, q1, hg1, ht1, hv1, hd1, ⟨g, t, cs, fuel, p, q, hg, ht, hv, hd, _, _⟩, _⟩, _⟩, _, _⟩ := h
  have h5 : (some 9 : Option Nat) = some g := by rw [← hg]; kernel_rfl
  obtain rfl := Option.some.inj h5
  have h6 : (some 226 : Option Nat) = some t := by rw [← ht]; kernel_rfl
  obtain rfl := Option.some.inj h6
  obtain ⟨xs, m, _, ex, _, hl, hel⟩ := DataW.trod_array Tryz.underlying226 hd
  have c5 : Tryz.prog.cellsOf 124 = 1 := by kernel_rfl
  have e3 : (xs.map (·.1)) = (List.range 20).map fun r => (.lit (.int .u64 ((10 ^ r : Nat) : Int)) : DataW Unit) := (DataW.agg.inj (Prod.mk.inj ex).1).symm.trans (by kernel_rfl)
  have key : ∀ r : Nat, r < 20 → W.cell? ⟨9, r, none⟩ = some (.int .u64 ((10 ^ r : Nat) : Int)) := by
    intro r hr
    have hE := hel r hr
    rw [c5, Nat.mul_one, List.getElem?_eq_getElem (by omega)] at hE
    obtain ⟨z, e1, e2, _⟩ := DataW.trod_int Tryz.underlying124 hE
    have e4 : (xs.map (·.1))[r]? = ((List.range 20).map fun r => (.lit (.int .u64 ((10 ^ r : Nat) : Int)) : DataW Unit))[r]? := by rw [e3]
    rw [List.getElem?_map, List.getElem?_map, List.getElem?_eq_getElem (by omega : r < xs.length), List.getElem?_range hr, e2] at e4
    have hz : z = ((10 ^ r : Nat) : Int) := by
      simp only [Option.map_some, Option.some.injEq, DataW.lit.injEq, Lit.int.injEq, true_and] at e4
      exact e4
    rw [World.var?_cell hg hv r, ← hz]
    have : cs.toList[r]? = some (.int .u64 z) := by
      have h0 : ((cs.toList.drop r).take 1)[0]? = some (.int .u64 z) := by rw [e1]; rfl
      simpa using h0
    simpa using this
  refine ⟨?_, key⟩
  have h0 := key 0 (by omega)
  exact World.block_lt_of_cell? _ _ h0

theorem sig_of_laid {W : World} (h : laidMetH Tryz.prog Rows.numsPowerRow.laid W) : Sig W := by
  rw [MakeChecks.laidMetH_plain _ _ _ (by kernel_rfl)] at h
  obtain ⟨ps, ⟨g0, t0, cs0, f0, p0, q0, hg0, ht0, hv0, hd0, ⟨g1, t1, cs1, f1, p1, q1, hg1, ht1, hv1, hd1, ⟨g2, t2, cs2, f2, p2, q2, hg2, ht2, hv2, hd2, ⟨g3, t3, cs3, f3, p3, q3, hg3, ht3, hv3, hd3, ⟨g4, t4, cs4, f4, p4, q4, hg4, ht4, hv4, hd4, ⟨g5, t5, cs5, f5, p5, q5, hg5, ht5, hv5, hd5, ⟨g, t, cs, fuel, p, q, hg, ht, hv, hd, _, _⟩, _⟩, _⟩, _⟩, _⟩, _⟩, _⟩, _, _⟩ := h
  have h5 : (some 3 : Option Nat) = some g := by rw [← hg]; kernel_rfl
  obtain rfl := Option.some.inj h5
  have h6 : (some 196 : Option Nat) = some t := by rw [← ht]; kernel_rfl
  obtain rfl := Option.some.inj h6
  obtain ⟨xs, m, _, ex, _, hl, hel⟩ := DataW.trod_array Tryz.underlying196 hd
  have c5 : Tryz.prog.cellsOf 9 = 1 := by kernel_rfl
  have e3 : (xs.map (·.1)) = signL.map fun x => (.lit (.string x) : DataW Unit) := (DataW.agg.inj (Prod.mk.inj ex).1).symm.trans (by kernel_rfl)
  have key : ∀ (r : Nat) (x : List UInt8), signL[r]? = some x → W.cell? ⟨3, r, none⟩ = some (enS x) := by
    intro r x hx
    have hr : r < 9 := (List.getElem?_eq_some_iff.1 hx).1
    have hE := hel r hr
    rw [c5, Nat.mul_one, List.getElem?_eq_getElem (by omega)] at hE
    obtain ⟨z, e1, e2, _⟩ := DataW.trod_string Tryz.underlying9 hE
    have e4 : (xs.map (·.1))[r]? = (signL.map fun x => (.lit (.string x) : DataW Unit))[r]? := by rw [e3]
    rw [List.getElem?_map, List.getElem?_map, List.getElem?_eq_getElem (by omega : r < xs.length), hx, e2] at e4
    have hz : z.data.toList = x := by
      simp only [Option.map_some, Option.some.injEq, DataW.lit.injEq, Lit.string.injEq] at e4
      exact e4
    rw [World.var?_cell hg hv r]
    have : cs.toList[r]? = some (.string z) := by
      have h0 : ((cs.toList.drop r).take 1)[0]? = some (.string z) := by rw [e1]; rfl
      simpa using h0
    have h2 : enS x = .string z := by rw [← hz]
    rw [h2]
    simpa using this
  refine ⟨?_, key⟩
  have h0 := key 0 [] rfl
  exact World.block_lt_of_cell? _ _ h0

theorem take1c {cs : List Value} {j : Nat} (h : j < cs.length) : (cs.drop j).take 1 = [cs[j]] := by
  rw [List.drop_eq_getElem_cons h]
  rfl
theorem i64ok_of_wf {z : Int} (h : (Lit.int .i64 z).wf = true) : i64ok z := by
  simp [Lit.wf, IntKind.min, IntKind.max, IntKind.signed, IntKind.bits] at h
  exact ⟨by omega, by omega⟩
theorem value_open {H : Type} {enc : TypeId × Value → H} {W : World} {base : Nat} {sp : Nat → Bool} {held : Bool} {r : Reach} {b0 : Nat} {v : Value} {d : DataW H} {ps : List MemPlace}
    (hval : Value.okWide Tryz.prog W r b0 35 v) (hd : DataW.Trod enc Tryz.prog W base sp held 35 v d ps) : ∃ x : Vl, v = x.val ∧ x.ok := by
  obtain ⟨cs, rfl, -⟩ := okWide_struct Tryz.underlying35 hval
  obtain ⟨fuel, h0⟩ := hd
  have h : DataW.trod enc Tryz.prog W base sp held fuel 35 cs.toList = some (d, ps) := h0
  obtain ⟨ys, m, -, -, hl, hyl, hf⟩ := DataW.trod_struct Tryz.underlying35 h
  have h5 : Tryz.prog.cellsOf 35 = 5 := by kernel_rfl
  have hs : Tryz.prog.cellsOf 9 = 1 := by kernel_rfl
  have hi : Tryz.prog.cellsOf 3 = 1 := by kernel_rfl
  have hn : Tryz.prog.cellsOf 2 = 1 := by kernel_rfl
  have hb : Tryz.prog.cellsOf 4 = 1 := by kernel_rfl
  rw [h5] at hl
  have f0 := hf 0 _ rfl
  have f1 := hf 1 _ rfl
  have f2 := hf 2 _ rfl
  have f3 := hf 3 _ rfl
  have f4 := hf 4 _ rfl
  change DataW.trod enc Tryz.prog W base sp held _ 3 ((cs.toList.drop 0).take (Tryz.prog.cellsOf 3)) = _ at f0
  change DataW.trod enc Tryz.prog W base sp held _ 2 ((cs.toList.drop 1).take (Tryz.prog.cellsOf 2)) = _ at f1
  change DataW.trod enc Tryz.prog W base sp held _ 9 ((cs.toList.drop 2).take (Tryz.prog.cellsOf 9)) = _ at f2
  change DataW.trod enc Tryz.prog W base sp held _ 4 ((cs.toList.drop 3).take (Tryz.prog.cellsOf 4)) = _ at f3
  change DataW.trod enc Tryz.prog W base sp held _ 3 ((cs.toList.drop 4).take (Tryz.prog.cellsOf 3)) = _ at f4
  rw [hi] at f0 f4
  rw [hn] at f1
  rw [hs] at f2
  rw [hb] at f3
  have hyl5 : ys.length = 5 := hyl
  rw [take1c (by omega), List.getElem?_eq_getElem (by omega)] at f0 f1 f2 f3 f4
  obtain ⟨k, e0, _, wk⟩ := DataW.trod_int Tryz.underlying3 f0
  obtain ⟨n, e1, _, wn⟩ := DataW.trod_int Tryz.underlying2 f1
  obtain ⟨s, e2, _, ws⟩ := DataW.trod_string Tryz.underlying9 f2
  obtain ⟨b, e3, _⟩ := DataW.trod_bool Tryz.underlying4 f3
  obtain ⟨f, e4, _, wf⟩ := DataW.trod_int Tryz.underlying3 f4
  simp only [List.cons.injEq, and_true] at e0 e1 e2 e3 e4
  have es : enS s.data.toList = .string s := by
    show Value.string ⟨s.data.toList.toArray⟩ = .string s
    simp
  refine ⟨⟨k, n, s.data.toList, b, f⟩, ?_, ⟨i64ok_of_wf wk, i64ok_of_wf wn, ws, i64ok_of_wf wf⟩⟩
  unfold Vl.val
  simp only [es]
  congr 1
  apply Array.ext'
  apply List.ext_getElem?
  intro j
  match j with
  | 0 => rw [List.getElem?_eq_getElem (by omega), e0]; rfl
  | 1 => rw [List.getElem?_eq_getElem (by omega), e1]; rfl
  | 2 => rw [List.getElem?_eq_getElem (by omega), e2]; rfl
  | 3 => rw [List.getElem?_eq_getElem (by omega), e3]; rfl
  | 4 => rw [List.getElem?_eq_getElem (by omega), e4]; rfl
  | j + 5 => rw [List.getElem?_eq_none (by omega), List.getElem?_eq_none (by simp)]
end Go.Proofs.YtmfngdjhkpddoaaGreatDoor
