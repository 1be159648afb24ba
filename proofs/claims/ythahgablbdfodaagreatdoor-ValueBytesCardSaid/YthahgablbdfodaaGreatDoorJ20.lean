/- The walk of the law's same, at two values that are alike. -/
import Derived.Test.YthahgablbdfodaaGreatDoorJ14
import Derived.Test.YthahgablbdfodaaGreatDoorJ16
import Derived.Test.YthahgablbdfodaaGreatDoorJ03
/- The walk of the law's same, at two values that are alike. -/
set_option maxRecDepth 100000
namespace Go.Proofs.YthahgablbdfodaaGreatDoor
open Go.RowKit Go.Lat Go.Lib

set_option maxHeartbeats 3200000 in
theorem same_any (w : World) (x : Vl) : Calls Tryz.prog 11 #[x.val, x.val] w fun e w' => e = .returned (.bool true) ∧ Upd w w' (fun _ => False) := by
  obtain ⟨k, n, t, b, f⟩ := x
  unfold Vl.val
  simp only
  go_enter Tryz.func11, Tryz.ntmps11
  go_wp2_with fail
  go_ret
  exact ⟨by simp, ((Upd.refl w _).alloc _).alloc _⟩
end Go.Proofs.YthahgablbdfodaaGreatDoor
/- The walk of ValueMakes. -/
set_option maxRecDepth 100000
namespace Go.Proofs.YthahgablbdfodaaGreatDoor
open Go.RowKit Go.Lat Go.Lib

set_option maxHeartbeats 12800000 in
theorem makes_at (w : World) (hg : Sig w) (k0 n0 : Int) (t0 : List UInt8) (b9 : Bool) (e0 : Int) (hx : (Vl.mk k0 n0 t0 b9 e0).ok) (s cs : List UInt8) (hcs : s.take 300 = cs) (n F : Int) (hF : Int.tmod n 20 = F) : Calls Tryz.prog 3 #[.agg #[.int .i64 k0, .int .i64 n0, enS t0, .bool b9, .int .i64 e0], enS s, .int .i64 n] w fun e w' => e = .returned (.bool true) ∧ Upd w w' (fun _ => False) := by
  obtain ⟨c0, hc0⟩ : ∃ c, t0.take 300 = c := ⟨_, rfl⟩
  have l0 : c0.length ≤ 300 := by rw [← hc0]; simp; omega
  have lcs : cs.length ≤ 1000000 := by rw [← hcs]; simp; omega
  have V0 := fun w => values_any w k0 n0 t0 c0 b9 e0 hc0
  have ok : (Vl.mk k0 n0 c0 b9 e0).ok := ⟨hx.k, hx.n, Nat.le_trans l0 (by decide), hx.f⟩
  have GA := fun w => Good_any w _ ok
  have GB := fun w => RGood_any w ⟨k0, n0, c0, b9, e0⟩
  generalize goodV ⟨k0, n0, c0, b9, e0⟩ = gq at GA GB
  unfold Vl.val at GA GB
  simp only at GA GB
  have WK := fun w hg => wakes_any w hg
  have NA := fun w => N_any w n
  have NB := fun w => RN_any w n
  have TA := fun w => T_any w cs
  have TB := fun w => RT_any w cs
  have EA := fun w => E_any w F
  have EB := fun w => RE_any w F
  have BA := fun w => B_any w b9
  have BB := fun w => RB_any w b9
  have FA : ∀ w, Sig w → Calls Tryz.prog 18 #[.int .i64 F] w fun e w' => e = .returned (enS (signT F)) ∧ Upd w w' (fun _ => False) := fun w hs => Calls.mono (FailText_any w hs F) (by rintro e w' ⟨rfl, rfl⟩; exact ⟨rfl, Upd.refl _ _⟩)
  have FB := fun w => RSigns_any w F
  generalize signT F = fz at FA FB
  have LA := fun w => Lower_any w cs lcs
  have LB := fun w => RLower_any w cs lcs
  have UA := fun w => Upper_any w cs lcs
  have UB := fun w => RUpper_any w cs lcs
  unfold lowS at LA
  unfold upS at UA
  generalize cs.map lowB = lz at LA LB
  generalize cs.map upB = uz at UA UB
  obtain ⟨vN, hvN⟩ : ∃ v, mkN n = v := ⟨_, rfl⟩
  rw [hvN] at NA NB
  have S1 := fun w => same_any w vN
  obtain ⟨vNk, vNn, vNt, vNb, vNf⟩ := vN
  unfold Vl.val at NA NB S1
  simp only at NA NB S1
  clear hvN
  obtain ⟨vT, hvT⟩ : ∃ v, mkT cs = v := ⟨_, rfl⟩
  rw [hvT] at TA TB
  have S2 := fun w => same_any w vT
  obtain ⟨vTk, vTn, vTt, vTb, vTf⟩ := vT
  unfold Vl.val at TA TB S2
  simp only at TA TB S2
  clear hvT
  obtain ⟨vE, hvE⟩ : ∃ v, mkE F = v := ⟨_, rfl⟩
  rw [hvE] at EA EB
  have S3 := fun w => same_any w vE
  obtain ⟨vEk, vEn, vEt, vEb, vEf⟩ := vE
  unfold Vl.val at EA EB S3
  simp only at EA EB S3
  clear hvE
  obtain ⟨vB, hvB⟩ : ∃ v, mkB b9 = v := ⟨_, rfl⟩
  rw [hvB] at BA BB
  have S4 := fun w => same_any w vB
  obtain ⟨vBk, vBn, vBt, vBb, vBf⟩ := vB
  unfold Vl.val at BA BB S4
  simp only at BA BB S4
  clear hvB
  have HG := hide hg
  have HCS := hide hcs
  clear l0 hc0 hx hg ok lcs hcs
  go_enter Tryz.func3, Tryz.ntmps3
  go_wp2_with fail
  refine Calls.mono (V0 _) ?_
  rintro e w1 ⟨rfl, u1⟩
  have HX1 := hide (u1.get (Vnew1 w (.cells (Vl.mk k0 n0 t0 b9 e0).cs 23)) id)
  have HU1 := hide (((Upd.refl w _).alloc _).then u1 (fun _ _ => id))
  clear u1 V0
  go_wp2_with fail
  simp only [cut300, HCS.out]
  go_wp2_with fail
  obtain ⟨W, hW⟩ : ∃ W, (w1.alloc (.cells #[.int .i64 k0, .int .i64 n0, .string ⟨c0.toArray⟩, .bool b9, .int .i64 e0] 28)).alloc (.cells #[.int .i64 k0, .int .i64 n0, .string ⟨c0.toArray⟩, .bool b9, .int .i64 e0] 29) = W := ⟨_, rfl⟩
  have HA : Hid (W.heap[w1.heap.size]? = _) := hide (hW ▸ (block_alloc (Vnew1 w1 (.cells (Vl.mk k0 n0 c0 b9 e0).cs 28)) (.cells (Vl.mk k0 n0 c0 b9 e0).cs 29)))
  have HB : Hid (W.heap[w1.heap.size + 1]? = _) := hide (hW ▸ (Vnew2 w1 (.cells (Vl.mk k0 n0 c0 b9 e0).cs 28) (.cells (Vl.mk k0 n0 c0 b9 e0).cs 29)))
  have HX : Hid (W.heap[w.heap.size]? = _) := hide (hW ▸ (block_alloc (block_alloc HX1.out _) _))
  have HU : Hid (Upd w W (fun _ => False)) := hide (hW ▸ ((HU1.out.alloc _).alloc _))
  rw [hW]
  clear hW HX1 HU1 HCS
  obtain ⟨a0, a1, a2, a3, a4⟩ := cells5 HA.out
  obtain ⟨b0, b1, b2, b3, b4⟩ := cells5 HB.out
  obtain ⟨x0, x1, x2, x3, x4⟩ := cells5 HX.out
  have al := lt_at HA.out
  have bl := lt_at HB.out
  have xl := lt_at HX.out
  clear x0 x1 x2 x4
  go_region_held3 (fun w' => w'.cell? ⟨w.heap.size, 3, none⟩ = some (.bool b9) ∧ w'.cell? ⟨w1.heap.size, 0, none⟩ = some (.int .i64 k0) ∧ w'.cell? ⟨w1.heap.size, 1, none⟩ = some (.int .i64 n0) ∧ w'.cell? ⟨w1.heap.size, 2, none⟩ = some (.string ⟨c0.toArray⟩) ∧ w'.cell? ⟨w1.heap.size, 3, none⟩ = some (.bool b9) ∧ w'.cell? ⟨w1.heap.size, 4, none⟩ = some (.int .i64 e0) ∧ w'.cell? ⟨w1.heap.size + 1, 0, none⟩ = some (.int .i64 k0) ∧ w'.cell? ⟨w1.heap.size + 1, 1, none⟩ = some (.int .i64 n0) ∧ w'.cell? ⟨w1.heap.size + 1, 2, none⟩ = some (.string ⟨c0.toArray⟩) ∧ w'.cell? ⟨w1.heap.size + 1, 3, none⟩ = some (.bool b9) ∧ w'.cell? ⟨w1.heap.size + 1, 4, none⟩ = some (.int .i64 e0) ∧ Upd W w' (fun _ => False))
    (first | (go_keep; done) | exact ⟨x3, a0, a1, a2, a3, a4, b0, b1, b2, b3, b4, (Upd.refl W _).drew⟩ | (have hz : Upd W _ (fun _ => False) := Upd.then (And.right (And.right (And.right (And.right (And.right (And.right (And.right (And.right (And.right (And.right (And.right (by assumption)))))))))))) u9 (fun _ _ => id); exact ⟨(hz.cell w.heap.size 3 xl id).trans x3, (hz.cell w1.heap.size 0 al id).trans a0, (hz.cell w1.heap.size 1 al id).trans a1, (hz.cell w1.heap.size 2 al id).trans a2, (hz.cell w1.heap.size 3 al id).trans a3, (hz.cell w1.heap.size 4 al id).trans a4, (hz.cell (w1.heap.size + 1) 0 bl id).trans b0, (hz.cell (w1.heap.size + 1) 1 bl id).trans b1, (hz.cell (w1.heap.size + 1) 2 bl id).trans b2, (hz.cell (w1.heap.size + 1) 3 bl id).trans b3, (hz.cell (w1.heap.size + 1) 4 bl id).trans b4, hz⟩))
    (first
    | (go_at_call 8; with_reducible refine Calls.mono (WK _ (HG.out.upd HU.out.drew id)) ?_; rintro e w9 ⟨rfl, u9⟩)
    | (go_at_call 9; with_reducible refine Calls.mono (GA _) ?_; rintro e w9 ⟨rfl, u9⟩)
    | (go_at_call 10; with_reducible refine Calls.mono (GB _) ?_; rintro e w9 ⟨rfl, u9⟩)
    | (go_at_call 12; with_reducible refine Calls.mono (NA _) ?_; rintro e w9 ⟨rfl, u9⟩)
    | (go_at_call 13; with_reducible refine Calls.mono (NB _) ?_; rintro e w9 ⟨rfl, u9⟩)
    | (go_at_call 14; with_reducible refine Calls.mono (TA _) ?_; rintro e w9 ⟨rfl, u9⟩)
    | (go_at_call 15; with_reducible refine Calls.mono (TB _) ?_; rintro e w9 ⟨rfl, u9⟩)
    | (go_at_call 16; with_reducible refine Calls.mono (EA _) ?_; rintro e w9 ⟨rfl, u9⟩)
    | (go_at_call 17; with_reducible refine Calls.mono (EB _) ?_; rintro e w9 ⟨rfl, u9⟩)
    | (go_at_call 18; with_reducible refine Calls.mono (FA _ (HG.out.upd (HU.out.then (And.right (And.right (And.right (And.right (And.right (And.right (And.right (And.right (And.right (And.right (And.right (by assumption)))))))))))) (fun _ _ => id)) id)) ?_; rintro e w9 ⟨rfl, u9⟩)
    | (go_at_call 19; with_reducible refine Calls.mono (FB _) ?_; rintro e w9 ⟨rfl, u9⟩)
    | (go_at_call 20; with_reducible refine Calls.mono (BA _) ?_; rintro e w9 ⟨rfl, u9⟩)
    | (go_at_call 21; with_reducible refine Calls.mono (BB _) ?_; rintro e w9 ⟨rfl, u9⟩)
    | (go_at_call 22; with_reducible refine Calls.mono (LA _) ?_; rintro e w9 ⟨rfl, u9⟩)
    | (go_at_call 23; with_reducible refine Calls.mono (LB _) ?_; rintro e w9 ⟨rfl, u9⟩)
    | (go_at_call 24; with_reducible refine Calls.mono (UA _) ?_; rintro e w9 ⟨rfl, u9⟩)
    | (go_at_call 25; with_reducible refine Calls.mono (UB _) ?_; rintro e w9 ⟨rfl, u9⟩)
    | (go_at_call 11; with_reducible refine Calls.mono (S1 _) ?_; rintro e w9 ⟨rfl, u9⟩)
    | (go_at_call 11; with_reducible refine Calls.mono (S2 _) ?_; rintro e w9 ⟨rfl, u9⟩)
    | (go_at_call 11; with_reducible refine Calls.mono (S3 _) ?_; rintro e w9 ⟨rfl, u9⟩)
    | (go_at_call 11; with_reducible refine Calls.mono (S4 _) ?_; rintro e w9 ⟨rfl, u9⟩))
  all_goals go_wp2_with fail
  all_goals go_ret
  all_goals exact ⟨by simp, HU.out.then (And.right (And.right (And.right (And.right (And.right (And.right (And.right (And.right (And.right (And.right (And.right (by assumption)))))))))))) (fun _ _ => id)⟩

theorem ValueMakes_any (w : World) (hg : Sig w) (x : Vl) (hx : x.ok) (s : ByteArray) (n : Int) : Calls Tryz.prog 3 #[x.val, .string s, .int .i64 n] w fun e w' => e = .returned (.bool true) ∧ Upd w w' (fun _ => False) := by
  have h := makes_at w hg x.k x.n x.t x.b x.f hx s.data.toList _ rfl n _ rfl
  have e : enS s.data.toList = .string s := by
    show Value.string ⟨s.data.toList.toArray⟩ = .string s
    simp
  rw [e] at h
  exact h
end Go.Proofs.YthahgablbdfodaaGreatDoor
