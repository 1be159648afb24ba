/- The walk of ValueChain. -/
import Derived.Test.YthahgablbdfodaaDoorJ07
import Derived.Test.YthahgablbdfodaaDoorJ01
import Derived.ProofKit
import Derived.Deep.Slices
import Derived.Deep.Fields
import Derived.ChangeSame
import Derived.Test.YthahgablbdfodaaDoorJ03
import Derived.Test.YthahgablbdfodaaDoorJ05
import Derived.Test.YthahgablbdfodaaDoorRows
import Derived.OpenShut
import Derived.LaidMore
import Derived.Lay
import Derived.Stop.Joined
import Derived.ChangeMaps5
/- The walk of ValueChain. -/
set_option maxRecDepth 100000
namespace Go.Proofs.YthahgablbdfodaaDoor
open Go.RowKit Go.Lat Go.Lib

theorem ord2_range (a b : Vl) : -1 ≤ ord2 a b ∧ ord2 a b ≤ 1 := by
  unfold ord2 cmpI cmpS
  repeat' split
  all_goals decide
theorem orderV_range (x y : Vl) : -1 ≤ (orderV x y).1 ∧ (orderV x y).1 ≤ 1 := by
  unfold orderV
  split
  · exact ⟨by show (-1 : Int) ≤ 0; decide, by show (0 : Int) ≤ 1; decide⟩
  · split
    · exact ⟨by show (-1 : Int) ≤ 0; decide, by show (0 : Int) ≤ 1; decide⟩
    · exact ord2_range _ _
theorem Vnew3 (w : World) (A B C : Obj) : (((w.alloc A).alloc B).alloc C).heap[w.heap.size + 2]? = some C := by
  have := Vnew2 (w.alloc A) B C
  simpa using this
set_option maxHeartbeats 6400000 in
theorem chain_e (w : World) (hg : Sig w) (k0 n0 : Int) (t0 : List UInt8) (B0 : Bool) (f0 k1 n1 : Int) (t1 : List UInt8) (B1 : Bool) (f1 k2 n2 : Int) (t2 : List UInt8) (B2 : Bool) (f2 : Int) (c0 c1 c2 : List UInt8) (hc0 : t0.take 300 = c0) (hc1 : t1.take 300 = c1) (hc2 : t2.take 300 = c2)
    (p e q f r g s h : Int)
    (A : ∀ w, Calls Tryd.prog 6 #[.agg #[.int .i64 k0, .int .i64 n0, enS c0, .bool B0, .int .i64 f0], .agg #[.int .i64 k1, .int .i64 n1, enS c1, .bool B1, .int .i64 f1]] w (OrdPost w (p, e)))
    (B : ∀ w, Calls Tryd.prog 6 #[.agg #[.int .i64 k1, .int .i64 n1, enS c1, .bool B1, .int .i64 f1], .agg #[.int .i64 k0, .int .i64 n0, enS c0, .bool B0, .int .i64 f0]] w (OrdPost w (q, f)))
    (C : ∀ w, Calls Tryd.prog 6 #[.agg #[.int .i64 k1, .int .i64 n1, enS c1, .bool B1, .int .i64 f1], .agg #[.int .i64 k2, .int .i64 n2, enS c2, .bool B2, .int .i64 f2]] w (OrdPost w (r, g)))
    (D : ∀ w, Calls Tryd.prog 6 #[.agg #[.int .i64 k0, .int .i64 n0, enS c0, .bool B0, .int .i64 f0], .agg #[.int .i64 k2, .int .i64 n2, enS c2, .bool B2, .int .i64 f2]] w (OrdPost w (s, h)))
    (he : (e == 0) = false) (hf : (f == 0) = false) :
    Calls Tryd.prog 3 #[.agg #[.int .i64 k0, .int .i64 n0, enS t0, .bool B0, .int .i64 f0], .agg #[.int .i64 k1, .int .i64 n1, enS t1, .bool B1, .int .i64 f1], .agg #[.int .i64 k2, .int .i64 n2, enS t2, .bool B2, .int .i64 f2]] w fun e w' => e = .returned (.bool true) ∧ Upd w w' (fun _ => False) := by
  have V0 := fun w => values_any w k0 n0 t0 c0 B0 f0 hc0
  have V1 := fun w => values_any w k1 n1 t1 c1 B1 f1 hc1
  have V2 := fun w => values_any w k2 n2 t2 c2 B2 f2 hc2
  have HG := hide hg
  have he2 : (e != 0) = true := by simp [bne, he]
  clear hg hc0 hc1 hc2
  go_enter Tryd.func3, Tryd.ntmps3
  go_wp2_with fail
  refine Calls.mono (V0 _) ?_
  rintro e' w1 ⟨rfl, u1⟩
  have Hy := hide (u1.get (block_alloc (Vnew2 w (.cells (Vl.mk k0 n0 t0 B0 f0).cs 23) (.cells (Vl.mk k1 n1 t1 B1 f1).cs 23)) (.cells (Vl.mk k2 n2 t2 B2 f2).cs 23)) id)
  have Hz := hide (u1.get (Vnew3 w (.cells (Vl.mk k0 n0 t0 B0 f0).cs 23) (.cells (Vl.mk k1 n1 t1 B1 f1).cs 23) (.cells (Vl.mk k2 n2 t2 B2 f2).cs 23)) id)
  have HU1 := hide (((((Upd.refl w (fun _ => False)).alloc _).alloc _).alloc _).then u1 (fun _ _ => id))
  clear u1 V0
  obtain ⟨y0, y1, y2, y3, y4⟩ := cells5 Hy.out
  have yl := lt_at Hy.out
  have yl' : w.heap.size < w1.heap.size := by omega
  have HL1 := hide yl'
  go_wp2_with fail
  refine Calls.mono (V1 _) ?_
  rintro e' w2 ⟨rfl, u2⟩
  clear y0 y1 y2 y3 y4 yl
  clear yl' Hy
  have Ha := hide (u2.get (block_alloc (Vnew1 w1 (.cells (Vl.mk k0 n0 c0 B0 f0).cs 28)) (.cells (Vl.mk k0 n0 c0 B0 f0).cs 29)) id)
  have hz2 := u2.get (block_alloc (block_alloc Hz.out (.cells (Vl.mk k0 n0 c0 B0 f0).cs 28)) (.cells (Vl.mk k0 n0 c0 B0 f0).cs 29)) id
  clear Hz
  have Hz := hide hz2
  clear hz2
  have HU2 := hide (((HU1.out.alloc _).alloc _).then u2 (fun _ _ => id))
  have l2 : w1.heap.size + 2 ≤ w2.heap.size := by have := u2.size; simpa using this
  clear u2 V1 HU1
  obtain ⟨z0, z1, z2, z3, z4⟩ := cells5 Hz.out
  have zl := lt_at Hz.out
  have zl1 : w.heap.size + 1 < w2.heap.size := by omega
  have zl' : w.heap.size < w2.heap.size := by omega
  have HL2 := hide l2
  go_wp2_with fail
  refine Calls.mono (V2 _) ?_
  rintro e' w3 ⟨rfl, u3⟩
  clear z0 z1 z2 z3 z4 zl
  clear zl' zl1 Hz
  have Hb := hide (u3.get (block_alloc (Vnew1 w2 (.cells (Vl.mk k1 n1 c1 B1 f1).cs 28)) (.cells (Vl.mk k1 n1 c1 B1 f1).cs 29)) id)
  have ha3 := u3.get (block_alloc (block_alloc Ha.out (.cells (Vl.mk k1 n1 c1 B1 f1).cs 28)) (.cells (Vl.mk k1 n1 c1 B1 f1).cs 29)) id
  clear Ha
  have Ha := hide ha3
  clear ha3
  have HU3 := hide (((HU2.out.alloc _).alloc _).then u3 (fun _ _ => id))
  have l3 : w2.heap.size + 2 ≤ w3.heap.size := by have := u3.size; simpa using this
  clear u3 V2 HU2
  obtain ⟨a0, a1, a2, a3, a4⟩ := cells5 Ha.out
  have al := lt_at Ha.out
  obtain ⟨b0, b1, b2, b3, b4⟩ := cells5 Hb.out
  have bl := lt_at Hb.out
  have al2 : w1.heap.size < w3.heap.size := by omega
  have bl2 : w2.heap.size < w3.heap.size := by omega
  go_wp2_with fail
  refine Calls.mono (A _) ?_
  rintro e' w4 ⟨rfl, u4⟩
  clear a0 a1 a2 a3 a4 al b0 b1 b2 b3 b4 bl
  clear al2 bl2
  have Hc := hide (u4.get (block_alloc (Vnew1 w3 (.cells (Vl.mk k2 n2 c2 B2 f2).cs 28)) (.cells (Vl.mk k2 n2 c2 B2 f2).cs 29)) id)
  have ha4 := u4.get (block_alloc (block_alloc Ha.out (.cells (Vl.mk k2 n2 c2 B2 f2).cs 28)) (.cells (Vl.mk k2 n2 c2 B2 f2).cs 29)) id
  have hb4 := u4.get (block_alloc (block_alloc Hb.out (.cells (Vl.mk k2 n2 c2 B2 f2).cs 28)) (.cells (Vl.mk k2 n2 c2 B2 f2).cs 29)) id
  clear Ha Hb
  have Ha := hide ha4
  have Hb := hide hb4
  clear ha4 hb4
  have HU4 := hide (((HU3.out.alloc _).alloc _).then u4 (fun _ _ => id))
  clear u4 A HU3
  obtain ⟨a0, a1, a2, a3, a4⟩ := cells5 Ha.out
  have al := lt_at Ha.out
  obtain ⟨b0, b1, b2, b3, b4⟩ := cells5 Hb.out
  have bl := lt_at Hb.out
  obtain ⟨c0, c1, c2, c3, c4⟩ := cells5 Hc.out
  have cl := lt_at Hc.out
  go_wp2_with fail
  refine Calls.mono (B _) ?_
  rintro e' w5 ⟨rfl, u5⟩
  clear a0 a1 a2 a3 a4 al b0 b1 b2 b3 b4 bl c0 c1 c2 c3 c4 cl
  have Ka := hide (u5.get Ha.out id)
  clear Ha
  have Ha := Ka
  clear Ka
  have Kb := hide (u5.get Hb.out id)
  clear Hb
  have Hb := Kb
  clear Kb
  have Kc := hide (u5.get Hc.out id)
  clear Hc
  have Hc := Kc
  clear Kc
  have HU5 := hide (HU4.out.then u5 (fun _ _ => id))
  clear u5 HU4 B
  obtain ⟨a0, a1, a2, a3, a4⟩ := cells5 Ha.out
  have al := lt_at Ha.out
  obtain ⟨b0, b1, b2, b3, b4⟩ := cells5 Hb.out
  have bl := lt_at Hb.out
  obtain ⟨c0, c1, c2, c3, c4⟩ := cells5 Hc.out
  have cl := lt_at Hc.out
  go_wp2_with fail
  refine Calls.mono (wakes_any _ (HG.out.upd HU5.out id)) ?_
  rintro e' w6 ⟨rfl, u6⟩
  clear a0 a1 a2 a3 a4 al b0 b1 b2 b3 b4 bl c0 c1 c2 c3 c4 cl
  have Ka := hide (u6.get Ha.out id)
  clear Ha
  have Ha := Ka
  clear Ka
  have Kb := hide (u6.get Hb.out id)
  clear Hb
  have Hb := Kb
  clear Kb
  have Kc := hide (u6.get Hc.out id)
  clear Hc
  have Hc := Kc
  clear Kc
  have HU6 := hide (HU5.out.then u6 (fun _ _ => id))
  clear u6 HU5 
  obtain ⟨a0, a1, a2, a3, a4⟩ := cells5 Ha.out
  have al := lt_at Ha.out
  obtain ⟨b0, b1, b2, b3, b4⟩ := cells5 Hb.out
  have bl := lt_at Hb.out
  obtain ⟨c0, c1, c2, c3, c4⟩ := cells5 Hc.out
  have cl := lt_at Hc.out
  go_wp2_with fail
  refine Calls.mono (C _) ?_
  rintro e' w7 ⟨rfl, u7⟩
  clear a0 a1 a2 a3 a4 al b0 b1 b2 b3 b4 bl c0 c1 c2 c3 c4 cl
  have Ka := hide (u7.get Ha.out id)
  clear Ha
  have Ha := Ka
  clear Ka
  have Kb := hide (u7.get Hb.out id)
  clear Hb
  have Hb := Kb
  clear Kb
  have Kc := hide (u7.get Hc.out id)
  clear Hc
  have Hc := Kc
  clear Kc
  have HU7 := hide (HU6.out.then u7 (fun _ _ => id))
  clear u7 HU6 C
  obtain ⟨a0, a1, a2, a3, a4⟩ := cells5 Ha.out
  have al := lt_at Ha.out
  obtain ⟨b0, b1, b2, b3, b4⟩ := cells5 Hb.out
  have bl := lt_at Hb.out
  obtain ⟨c0, c1, c2, c3, c4⟩ := cells5 Hc.out
  have cl := lt_at Hc.out
  go_wp2_with fail
  refine Calls.mono (D _) ?_
  rintro e' w8 ⟨rfl, u8⟩
  clear a0 a1 a2 a3 a4 al b0 b1 b2 b3 b4 bl c0 c1 c2 c3 c4 cl
  have Ka := hide (u8.get Ha.out id)
  clear Ha
  have Ha := Ka
  clear Ka
  have Kb := hide (u8.get Hb.out id)
  clear Hb
  have Hb := Kb
  clear Kb
  have Kc := hide (u8.get Hc.out id)
  clear Hc
  have Hc := Kc
  clear Kc
  have HU8 := hide (HU7.out.then u8 (fun _ _ => id))
  clear u8 HU7 D
  obtain ⟨a0, a1, a2, a3, a4⟩ := cells5 Ha.out
  have al := lt_at Ha.out
  obtain ⟨b0, b1, b2, b3, b4⟩ := cells5 Hb.out
  have bl := lt_at Hb.out
  obtain ⟨c0, c1, c2, c3, c4⟩ := cells5 Hc.out
  have cl := lt_at Hc.out
  go_wp2_with fail
  all_goals go_ret
  all_goals exact ⟨rfl, HU8.out⟩
set_option maxHeartbeats 6400000 in
theorem chain_0 (w : World) (hg : Sig w) (k0 n0 : Int) (t0 : List UInt8) (B0 : Bool) (f0 k1 n1 : Int) (t1 : List UInt8) (B1 : Bool) (f1 k2 n2 : Int) (t2 : List UInt8) (B2 : Bool) (f2 : Int) (c0 c1 c2 : List UInt8) (hc0 : t0.take 300 = c0) (hc1 : t1.take 300 = c1) (hc2 : t2.take 300 = c2)
    (p e q f r g s h : Int)
    (A : ∀ w, Calls Tryd.prog 6 #[.agg #[.int .i64 k0, .int .i64 n0, enS c0, .bool B0, .int .i64 f0], .agg #[.int .i64 k1, .int .i64 n1, enS c1, .bool B1, .int .i64 f1]] w (OrdPost w (p, e)))
    (B : ∀ w, Calls Tryd.prog 6 #[.agg #[.int .i64 k1, .int .i64 n1, enS c1, .bool B1, .int .i64 f1], .agg #[.int .i64 k0, .int .i64 n0, enS c0, .bool B0, .int .i64 f0]] w (OrdPost w (q, f)))
    (C : ∀ w, Calls Tryd.prog 6 #[.agg #[.int .i64 k1, .int .i64 n1, enS c1, .bool B1, .int .i64 f1], .agg #[.int .i64 k2, .int .i64 n2, enS c2, .bool B2, .int .i64 f2]] w (OrdPost w (r, g)))
    (D : ∀ w, Calls Tryd.prog 6 #[.agg #[.int .i64 k0, .int .i64 n0, enS c0, .bool B0, .int .i64 f0], .agg #[.int .i64 k2, .int .i64 n2, enS c2, .bool B2, .int .i64 f2]] w (OrdPost w (s, h)))
    (he : e = 0) (hf : f = 0) (hpq : p = -q) (hq : -1 ≤ q ∧ q ≤ 1) (hch : g = 0 → h = 0 → k0 ≠ 0 → k1 ≠ 0 → k2 ≠ 0 → ¬ (p ≤ 0 ∧ r ≤ 0 ∧ s > 0) ∧ ¬ (p ≥ 0 ∧ r ≥ 0 ∧ s < 0)) :
    Calls Tryd.prog 3 #[.agg #[.int .i64 k0, .int .i64 n0, enS t0, .bool B0, .int .i64 f0], .agg #[.int .i64 k1, .int .i64 n1, enS t1, .bool B1, .int .i64 f1], .agg #[.int .i64 k2, .int .i64 n2, enS t2, .bool B2, .int .i64 f2]] w fun e w' => e = .returned (.bool true) ∧ Upd w w' (fun _ => False) := by
  have V0 := fun w => values_any w k0 n0 t0 c0 B0 f0 hc0
  have V1 := fun w => values_any w k1 n1 t1 c1 B1 f1 hc1
  have V2 := fun w => values_any w k2 n2 t2 c2 B2 f2 hc2
  have HG := hide hg
  subst he
  subst hf
  have hwq : IntKind.i64.wrap (-q) = p := by rw [IntWalk.i64_in _ (by omega)]; omega
  have hwq2 : wrap64 (-q) = p := by rw [IntWalk.wrap64_in _ (by omega)]; omega
  have HCH := hide hch
  clear hch hpq hq
  clear hg hc0 hc1 hc2
  go_enter Tryd.func3, Tryd.ntmps3
  go_wp2_with fail
  refine Calls.mono (V0 _) ?_
  rintro e' w1 ⟨rfl, u1⟩
  have Hy := hide (u1.get (block_alloc (Vnew2 w (.cells (Vl.mk k0 n0 t0 B0 f0).cs 23) (.cells (Vl.mk k1 n1 t1 B1 f1).cs 23)) (.cells (Vl.mk k2 n2 t2 B2 f2).cs 23)) id)
  have Hz := hide (u1.get (Vnew3 w (.cells (Vl.mk k0 n0 t0 B0 f0).cs 23) (.cells (Vl.mk k1 n1 t1 B1 f1).cs 23) (.cells (Vl.mk k2 n2 t2 B2 f2).cs 23)) id)
  have HU1 := hide (((((Upd.refl w (fun _ => False)).alloc _).alloc _).alloc _).then u1 (fun _ _ => id))
  clear u1 V0
  obtain ⟨y0, y1, y2, y3, y4⟩ := cells5 Hy.out
  have yl := lt_at Hy.out
  have yl' : w.heap.size < w1.heap.size := by omega
  have HL1 := hide yl'
  go_wp2_with fail
  refine Calls.mono (V1 _) ?_
  rintro e' w2 ⟨rfl, u2⟩
  clear y0 y1 y2 y3 y4 yl
  clear yl' Hy
  have Ha := hide (u2.get (block_alloc (Vnew1 w1 (.cells (Vl.mk k0 n0 c0 B0 f0).cs 28)) (.cells (Vl.mk k0 n0 c0 B0 f0).cs 29)) id)
  have hz2 := u2.get (block_alloc (block_alloc Hz.out (.cells (Vl.mk k0 n0 c0 B0 f0).cs 28)) (.cells (Vl.mk k0 n0 c0 B0 f0).cs 29)) id
  clear Hz
  have Hz := hide hz2
  clear hz2
  have HU2 := hide (((HU1.out.alloc _).alloc _).then u2 (fun _ _ => id))
  have l2 : w1.heap.size + 2 ≤ w2.heap.size := by have := u2.size; simpa using this
  clear u2 V1 HU1
  obtain ⟨z0, z1, z2, z3, z4⟩ := cells5 Hz.out
  have zl := lt_at Hz.out
  have zl1 : w.heap.size + 1 < w2.heap.size := by omega
  have zl' : w.heap.size < w2.heap.size := by omega
  have HL2 := hide l2
  go_wp2_with fail
  refine Calls.mono (V2 _) ?_
  rintro e' w3 ⟨rfl, u3⟩
  clear z0 z1 z2 z3 z4 zl
  clear zl' zl1 Hz
  have Hb := hide (u3.get (block_alloc (Vnew1 w2 (.cells (Vl.mk k1 n1 c1 B1 f1).cs 28)) (.cells (Vl.mk k1 n1 c1 B1 f1).cs 29)) id)
  have ha3 := u3.get (block_alloc (block_alloc Ha.out (.cells (Vl.mk k1 n1 c1 B1 f1).cs 28)) (.cells (Vl.mk k1 n1 c1 B1 f1).cs 29)) id
  clear Ha
  have Ha := hide ha3
  clear ha3
  have HU3 := hide (((HU2.out.alloc _).alloc _).then u3 (fun _ _ => id))
  have l3 : w2.heap.size + 2 ≤ w3.heap.size := by have := u3.size; simpa using this
  clear u3 V2 HU2
  obtain ⟨a0, a1, a2, a3, a4⟩ := cells5 Ha.out
  have al := lt_at Ha.out
  obtain ⟨b0, b1, b2, b3, b4⟩ := cells5 Hb.out
  have bl := lt_at Hb.out
  have al2 : w1.heap.size < w3.heap.size := by omega
  have bl2 : w2.heap.size < w3.heap.size := by omega
  go_wp2_with fail
  refine Calls.mono (A _) ?_
  rintro e' w4 ⟨rfl, u4⟩
  clear a0 a1 a2 a3 a4 al b0 b1 b2 b3 b4 bl
  clear al2 bl2
  have Hc := hide (u4.get (block_alloc (Vnew1 w3 (.cells (Vl.mk k2 n2 c2 B2 f2).cs 28)) (.cells (Vl.mk k2 n2 c2 B2 f2).cs 29)) id)
  have ha4 := u4.get (block_alloc (block_alloc Ha.out (.cells (Vl.mk k2 n2 c2 B2 f2).cs 28)) (.cells (Vl.mk k2 n2 c2 B2 f2).cs 29)) id
  have hb4 := u4.get (block_alloc (block_alloc Hb.out (.cells (Vl.mk k2 n2 c2 B2 f2).cs 28)) (.cells (Vl.mk k2 n2 c2 B2 f2).cs 29)) id
  clear Ha Hb
  have Ha := hide ha4
  have Hb := hide hb4
  clear ha4 hb4
  have HU4 := hide (((HU3.out.alloc _).alloc _).then u4 (fun _ _ => id))
  clear u4 A HU3
  obtain ⟨a0, a1, a2, a3, a4⟩ := cells5 Ha.out
  have al := lt_at Ha.out
  obtain ⟨b0, b1, b2, b3, b4⟩ := cells5 Hb.out
  have bl := lt_at Hb.out
  obtain ⟨c0, c1, c2, c3, c4⟩ := cells5 Hc.out
  have cl := lt_at Hc.out
  go_wp2_with fail
  refine Calls.mono (B _) ?_
  rintro e' w5 ⟨rfl, u5⟩
  clear a0 a1 a2 a3 a4 al b0 b1 b2 b3 b4 bl c0 c1 c2 c3 c4 cl
  have Ka := hide (u5.get Ha.out id)
  clear Ha
  have Ha := Ka
  clear Ka
  have Kb := hide (u5.get Hb.out id)
  clear Hb
  have Hb := Kb
  clear Kb
  have Kc := hide (u5.get Hc.out id)
  clear Hc
  have Hc := Kc
  clear Kc
  have HU5 := hide (HU4.out.then u5 (fun _ _ => id))
  clear u5 HU4 B
  obtain ⟨a0, a1, a2, a3, a4⟩ := cells5 Ha.out
  have al := lt_at Ha.out
  obtain ⟨b0, b1, b2, b3, b4⟩ := cells5 Hb.out
  have bl := lt_at Hb.out
  obtain ⟨c0, c1, c2, c3, c4⟩ := cells5 Hc.out
  have cl := lt_at Hc.out
  go_wp2_with fail
  refine Calls.mono (wakes_any _ (HG.out.upd HU5.out id)) ?_
  rintro e' w6 ⟨rfl, u6⟩
  clear a0 a1 a2 a3 a4 al b0 b1 b2 b3 b4 bl c0 c1 c2 c3 c4 cl
  have Ka := hide (u6.get Ha.out id)
  clear Ha
  have Ha := Ka
  clear Ka
  have Kb := hide (u6.get Hb.out id)
  clear Hb
  have Hb := Kb
  clear Kb
  have Kc := hide (u6.get Hc.out id)
  clear Hc
  have Hc := Kc
  clear Kc
  have HU6 := hide (HU5.out.then u6 (fun _ _ => id))
  clear u6 HU5 
  obtain ⟨a0, a1, a2, a3, a4⟩ := cells5 Ha.out
  have al := lt_at Ha.out
  obtain ⟨b0, b1, b2, b3, b4⟩ := cells5 Hb.out
  have bl := lt_at Hb.out
  obtain ⟨c0, c1, c2, c3, c4⟩ := cells5 Hc.out
  have cl := lt_at Hc.out
  go_wp2_with fail
  refine Calls.mono (C _) ?_
  rintro e' w7 ⟨rfl, u7⟩
  clear a0 a1 a2 a3 a4 al b0 b1 b2 b3 b4 bl c0 c1 c2 c3 c4 cl
  have Ka := hide (u7.get Ha.out id)
  clear Ha
  have Ha := Ka
  clear Ka
  have Kb := hide (u7.get Hb.out id)
  clear Hb
  have Hb := Kb
  clear Kb
  have Kc := hide (u7.get Hc.out id)
  clear Hc
  have Hc := Kc
  clear Kc
  have HU7 := hide (HU6.out.then u7 (fun _ _ => id))
  clear u7 HU6 C
  obtain ⟨a0, a1, a2, a3, a4⟩ := cells5 Ha.out
  have al := lt_at Ha.out
  obtain ⟨b0, b1, b2, b3, b4⟩ := cells5 Hb.out
  have bl := lt_at Hb.out
  obtain ⟨c0, c1, c2, c3, c4⟩ := cells5 Hc.out
  have cl := lt_at Hc.out
  go_wp2_with fail
  refine Calls.mono (D _) ?_
  rintro e' w8 ⟨rfl, u8⟩
  clear a0 a1 a2 a3 a4 al b0 b1 b2 b3 b4 bl c0 c1 c2 c3 c4 cl
  have Ka := hide (u8.get Ha.out id)
  clear Ha
  have Ha := Ka
  clear Ka
  have Kb := hide (u8.get Hb.out id)
  clear Hb
  have Hb := Kb
  clear Kb
  have Kc := hide (u8.get Hc.out id)
  clear Hc
  have Hc := Kc
  clear Kc
  have HU8 := hide (HU7.out.then u8 (fun _ _ => id))
  clear u8 HU7 D
  obtain ⟨a0, a1, a2, a3, a4⟩ := cells5 Ha.out
  have al := lt_at Ha.out
  obtain ⟨b0, b1, b2, b3, b4⟩ := cells5 Hb.out
  have bl := lt_at Hb.out
  obtain ⟨c0, c1, c2, c3, c4⟩ := cells5 Hc.out
  have cl := lt_at Hc.out
  by_cases g0 : g = 0
  · subst g0
    by_cases h0 : h = 0
    · subst h0
      by_cases z0 : k0 = 0
      · subst z0
        go_wp2_with fail
        all_goals go_ret
        all_goals exact ⟨rfl, HU8.out⟩
      · have z0' : (k0 == 0) = false := by simpa using z0
        by_cases z1 : k1 = 0
        · subst z1
          clear z0
          go_wp2_with fail
          all_goals go_ret
          all_goals exact ⟨rfl, HU8.out⟩
        · have z1' : (k1 == 0) = false := by simpa using z1
          by_cases z2 : k2 = 0
          · subst z2
            clear z0 z1
            go_wp2_with fail
            all_goals go_ret
            all_goals exact ⟨rfl, HU8.out⟩
          · have z2' : (k2 == 0) = false := by simpa using z2
            have HX := hide (HCH.out rfl rfl z0 z1 z2)
            clear z0 z1 z2
            go_wp2_with fail
            all_goals go_ret
            all_goals (refine ⟨?_, HU8.out⟩; have hx := HX.out; simp_all)
            all_goals omega
    · have h0' : (h == 0) = false := by simpa using h0
      have h0'' : (h != 0) = true := by simp [bne, h0']
      clear h0
      go_wp2_with fail
      all_goals go_ret
      all_goals exact ⟨rfl, HU8.out⟩
  · have g0' : (g == 0) = false := by simpa using g0
    have g0'' : (g != 0) = true := by simp [bne, g0']
    clear g0
    go_wp2_with fail
    all_goals go_ret
    all_goals exact ⟨rfl, HU8.out⟩
theorem ValueChain_any (w : World) (hg : Sig w) (x y z : Vl) (hx : x.ok) (hy : y.ok) (hz : z.ok) : Calls Tryd.prog 3 #[x.val, y.val, z.val] w fun e w' => e = .returned (.bool true) ∧ Upd w w' (fun _ => False) := by
  have l : ∀ t : List UInt8, (t.take 300).length ≤ 300 := fun t => by simp; omega
  have ok : ∀ v : Vl, v.ok → (cutV v).ok := fun v hv => ⟨hv.k, hv.n, Nat.le_trans (l _) (by decide), hv.f⟩
  have l6 : ∀ v : Vl, (cutV v).t.length ≤ 1000000 := fun v => Nat.le_trans (l _) (by decide)
  have A := fun w => Order_any w (cutV x) (cutV y) (ok x hx) (ok y hy) (l6 x) (l6 y)
  have B := fun w => Order_any w (cutV y) (cutV x) (ok y hy) (ok x hx) (l6 y) (l6 x)
  have C := fun w => Order_any w (cutV y) (cutV z) (ok y hy) (ok z hz) (l6 y) (l6 z)
  have D := fun w => Order_any w (cutV x) (cutV z) (ok x hx) (ok z hz) (l6 x) (l6 z)
  obtain ⟨h1, h2⟩ := order_turned (cutV x) (cutV y)
  by_cases he : (orderV (cutV x) (cutV y)).2 = 0
  · exact chain_0 w hg x.k x.n x.t x.b x.f y.k y.n y.t y.b y.f z.k z.n z.t z.b z.f _ _ _ rfl rfl rfl _ _ _ _ _ _ _ _ A B C D he (h1.1 he) (h2 he) (orderV_range _ _)
      (fun hg hh k0 k1 k2 => order_chain he hg hh k0 k1 k2)
  · exact chain_e w hg x.k x.n x.t x.b x.f y.k y.n y.t y.b y.f z.k z.n z.t z.b z.f _ _ _ rfl rfl rfl _ _ _ _ _ _ _ _ A B C D (beq_eq_false_iff_ne.2 he) (beq_eq_false_iff_ne.2 (fun k => he (h1.2 k)))
end Go.Proofs.YthahgablbdfodaaDoor
/- From a law's walk to its row: the parts that are alike for every law. -/
namespace Go.Lat
open Go.ChangeShapes Go.WideShapes Go.ChangeAt Go.RowKit Go.Deep

theorem trodAll_below {H : Type} {enc : TypeId × Value → H} {P : Program} (hl : laidOutB P = true) {W W' : World} (hb : Below W.heap.size W W') :
    ∀ (ts : List TypeId) (vs : List Value) (ds : List (DataW H)) (ps : List MemPlace), (∀ t ∈ ts, P.readableRec t = true ∧ t < P.types.size) →
      DataW.TrodAll enc P W 0 (fun _ => true) true ts vs ds ps → (∀ x ∈ ps, x.block < W.heap.size) → DataW.TrodAll enc P W' 0 (fun b => decide (b < W.heap.size)) true ts vs ds ps
  | [], [], [], ps, _, h, _ => h
  | t :: ts, v :: vs, d :: ds, ps, hr, h, hlt => by
    obtain ⟨p, q, h1, h2, rfl⟩ := h
    refine ⟨p, q, Below.trod hl (hr t (by simp)).1 (hr t (by simp)).2 h1 hb (fun x hx => hlt x (by simp [hx])), ?_, rfl⟩
    exact trodAll_below hl hb ts vs ds q (fun t ht => hr t (by simp [ht])) h2 (fun x hx => hlt x (by simp [hx]))
  | [], [], _ :: _, _, _, h, _ => h.elim
  | [], _ :: _, _, _, _, h, _ => h.elim
  | _ :: _, [], _, _, _, h, _ => h.elim
  | _ :: _, _ :: _, [], _, _, h, _ => h.elim

/-- A law that leaves all that was there alone and answers true. -/
theorem law_post {H : Type} {enc : TypeId × Value → H} {P : Program} {f : Func} {s : ChangeSpec} {W W' : World} {args : Array Value} {ds gs : List (DataW H)} {before : List MemPlace} {tb : TypeId}
    (hl : laidOutB P = true) (hW : DataW.Whole enc P f.params.toList s.vars false W args.toList ds gs before) (hvars : s.vars = [])
    (hfn : s.fn H (ds ++ gs) = { results := [.lit (.bool true)], args := ds }) (hread0 : f.params.toList.all (fun t => P.readableRec t && decide (t < P.types.size)) = true)
    (hrt : f.resultTypes = #[tb]) (htb : P.underlying tb = some .bool) (hb : Upd W W' (fun _ => False)) :
    s.post enc P f false true false false W args (.bool true) W' := by
  have hread : ∀ t ∈ f.params.toList, P.readableRec t = true ∧ t < P.types.size := fun t ht => by have := List.all_eq_true.1 hread0 t ht; simpa using this
  have hlt := hW.lt
  obtain ⟨p, q, h1, h2, rfl, hz, ha⟩ := hW
  have hrt' : f.resultTypes.toList = [tb] := by rw [hrt]
  have hrs : f.resultTypes.size = 1 := by rw [hrt]; rfl
  refine ⟨ds, gs, _, [], p, [], ⟨p, q, h1, h2, rfl, hz, ha⟩, ?_, ?_, ?_, hb.below.frame _, fun h => by cases h⟩
  · rw [hfn, hrt', hrs]
    exact trodAll_mk1 (shut_bool htb true)
  · rw [hfn]
    exact trodAll_below hl hb.below _ _ _ _ hread h1 (fun x hx => hlt x (by simp [hx]))
  · rw [hfn, hvars]
    rfl

section
variable {H : Type} {enc : TypeId × Value → H} {P : Program} {w : World} {base : Nat} {spare : Nat → Bool} {held : Bool}
/-- An argument that is a slice of structs of one-cell fields: each element's cells and their readings. -/
theorem open_slice_fields {t e : TypeId} {fs : Array Field} {fuel : Nat} {cs : List Value} {x : DataW H × List MemPlace} (ht : P.underlying t = some (.slice e)) (he : P.underlying e = some (.struct fs))
    (hone : oneCellFields P fs = true) (hC : P.cellsOf e = fs.size) (h : DataW.trod enc P w base spare held fuel t cs = some x) :
    cs = [.slice none 0 0] ∨
    ∃ (a : Addr) (len cap : Nat), cs = [.slice (some a) len cap] ∧ len ≤ cap ∧ cap ≤ maxLen ∧
      ∀ i, i < len → ∃ n : Nat, ∀ (j : Nat) (f : Field), fs[j]? = some f → ∃ (v : Value) (y : DataW H × List MemPlace), w.cell? (a.add (i * fs.size + j)) = some v ∧ DataW.trod enc P w base spare held n f.type [v] = some y := by
  rcases open_slice ht h with h0 | ⟨a, len, cap, m, n, D, Pl, hcs, hb, hl, hm, hmm, hx, hi⟩
  · exact .inl h0.1
  · refine .inr ⟨a, len, cap, hcs, hl, hm, fun i him => ?_⟩
    obtain ⟨cs', hc, ht'⟩ := hi i (by rw [hmm]; split <;> omega)
    rw [hC] at hc
    obtain ⟨ys, n', hn', hy, hlen, hyl, hf⟩ := DataW.trod_struct he ht'
    obtain ⟨_, hcl, hat⟩ := World.cells?_some hc
    refine ⟨n', fun j f hj => ?_⟩
    obtain ⟨ho, hk⟩ := hone_of hone j f hj
    have hjl : j < fs.size := (Array.getElem?_eq_some_iff.1 hj).1
    have hcell := hat j hjl
    have hv : cs'[j]? = some (cs'[j]'(by omega)) := List.getElem?_eq_getElem (by omega)
    have h1 := hf j f hj
    rw [ho, hk] at h1
    have hone' : (cs'.drop j).take 1 = [cs'[j]'(by omega)] := by
      rw [List.drop_eq_getElem_cons (by omega)]
      rfl
    rw [hone'] at h1
    have hys : ys[j]? = some (ys[j]'(by omega)) := List.getElem?_eq_getElem (by omega)
    refine ⟨_, _, ?_, h1.trans hys⟩
    rw [← Go.Deep.add_add, hcell, hv]
end
/-- A cell that is there has a plain address. -/
theorem cell_spot {w : World} {a : Addr} {v : Value} (h : w.cell? a = some v) : a.spot = none := by
  unfold World.cell? at h
  split at h
  · split at h
    · cases h
    · rename_i h'; simpa using h'
  · cases h

theorem choose_fn {α : Type} (d : α) {n : Nat} {p : Nat → α → Prop} (h : ∀ i, i < n → ∃ x, p i x) : ∃ f : Nat → α, ∀ i, i < n → p i (f i) := by
  classical
  exact ⟨fun i => if hi : i < n then (h i hi).choose else d, fun i hi => by simp only [hi, dif_pos]; exact (h i hi).choose_spec⟩
theorem bounds_int {n : Int} (h : (Lit.int .i64 n).wf = true) : -9223372036854775808 ≤ n ∧ n ≤ 9223372036854775807 := by
  simp [Lit.wf, IntKind.min, IntKind.max, IntKind.signed, IntKind.bits] at h
  omega
end Go.Lat
/- Arguments that are values; what the row's listed variables give the walks. -/
set_option maxRecDepth 100000
namespace Go.Proofs.YthahgablbdfodaaDoor
open Go.ChangeShapes Go.WideShapes Go.ChangeAt Go.RowKit Go.Lat

theorem Tryd.own : ownKnob Tryd.prog.godebug = none := by kernel_rfl
theorem Tryd.laidOut : laidOutB Tryd.prog = true := by kernel_rfl

theorem pow_of_laid {W : World} (h : laidMetH Tryd.prog Rows.valueChainRow.laid W) : Pow W := by
  rw [MakeChecks.laidMetH_plain _ _ _ (by kernel_rfl)] at h
  obtain ⟨ps, ⟨g0, t0, cs0, f0, p0, q0, hg0, ht0, hv0, hd0, ⟨g1, t1, cs1, f1, p1, q1, hg1, ht1, hv1, hd1, ⟨g, t, cs, fuel, p, q, hg, ht, hv, hd, _, _⟩, _⟩, _⟩, _, _⟩ := h
  have h5 : (some 4 : Option Nat) = some g := by rw [← hg]; kernel_rfl
  obtain rfl := Option.some.inj h5
  have h6 : (some 114 : Option Nat) = some t := by rw [← ht]; kernel_rfl
  obtain rfl := Option.some.inj h6
  obtain ⟨xs, m, _, ex, _, hl, hel⟩ := DataW.trod_array Tryd.underlying114 hd
  have c5 : Tryd.prog.cellsOf 56 = 1 := by kernel_rfl
  have e3 : (xs.map (·.1)) = (List.range 20).map fun r => (.lit (.int .u64 ((10 ^ r : Nat) : Int)) : DataW Unit) := (DataW.agg.inj (Prod.mk.inj ex).1).symm.trans (by kernel_rfl)
  have key : ∀ r : Nat, r < 20 → W.cell? ⟨4, r, none⟩ = some (.int .u64 ((10 ^ r : Nat) : Int)) := by
    intro r hr
    have hE := hel r hr
    rw [c5, Nat.mul_one, List.getElem?_eq_getElem (by omega)] at hE
    obtain ⟨z, e1, e2, _⟩ := DataW.trod_int Tryd.underlying56 hE
    have e4 : (xs.map (·.1))[r]? = ((List.range 20).map fun r => (.lit (.int .u64 ((10 ^ r : Nat) : Int)) : DataW Unit))[r]? := by rw [e3]
    rw [List.getElem?_map, List.getElem?_map, List.getElem?_eq_getElem (by omega : r < xs.length), List.getElem?_range hr, e2] at e4
    have hz : z = ((10 ^ r : Nat) : Int) := by
      simp only [Option.map_some, Option.some.injEq, DataW.lit.injEq, Lit.int.injEq, true_and] at e4
      exact e4
    rw [World.var?_cell hg hv r, ← hz]
    have : cs.toList[r]? = some (.int .u64 z) := by
      have h0 : ((cs.toList.drop r).take 1)[0]? = some (.int .u64 z) := by rw [e1]; rfl
      simpa using h0
    simpa using this
  refine ⟨?_, key⟩
  have h0 := key 0 (by omega)
  exact World.block_lt_of_cell? _ _ h0

theorem sig_of_laid {W : World} (h : laidMetH Tryd.prog Rows.valueChainRow.laid W) : Sig W := by
  rw [MakeChecks.laidMetH_plain _ _ _ (by kernel_rfl)] at h
  obtain ⟨ps, ⟨g0, t0, cs0, f0, p0, q0, hg0, ht0, hv0, hd0, ⟨g1, t1, cs1, f1, p1, q1, hg1, ht1, hv1, hd1, ⟨g2, t2, cs2, f2, p2, q2, hg2, ht2, hv2, hd2, ⟨g3, t3, cs3, f3, p3, q3, hg3, ht3, hv3, hd3, ⟨g4, t4, cs4, f4, p4, q4, hg4, ht4, hv4, hd4, ⟨g5, t5, cs5, f5, p5, q5, hg5, ht5, hv5, hd5, ⟨g, t, cs, fuel, p, q, hg, ht, hv, hd, _, _⟩, _⟩, _⟩, _⟩, _⟩, _⟩, _⟩, _, _⟩ := h
  have h5 : (some 0 : Option Nat) = some g := by rw [← hg]; kernel_rfl
  obtain rfl := Option.some.inj h5
  have h6 : (some 76 : Option Nat) = some t := by rw [← ht]; kernel_rfl
  obtain rfl := Option.some.inj h6
  obtain ⟨xs, m, _, ex, _, hl, hel⟩ := DataW.trod_array Tryd.underlying76 hd
  have c5 : Tryd.prog.cellsOf 9 = 1 := by kernel_rfl
  have e3 : (xs.map (·.1)) = signL.map fun x => (.lit (.string x) : DataW Unit) := (DataW.agg.inj (Prod.mk.inj ex).1).symm.trans (by kernel_rfl)
  have key : ∀ (r : Nat) (x : List UInt8), signL[r]? = some x → W.cell? ⟨0, r, none⟩ = some (enS x) := by
    intro r x hx
    have hr : r < 9 := (List.getElem?_eq_some_iff.1 hx).1
    have hE := hel r hr
    rw [c5, Nat.mul_one, List.getElem?_eq_getElem (by omega)] at hE
    obtain ⟨z, e1, e2, _⟩ := DataW.trod_string Tryd.underlying9 hE
    have e4 : (xs.map (·.1))[r]? = (signL.map fun x => (.lit (.string x) : DataW Unit))[r]? := by rw [e3]
    rw [List.getElem?_map, List.getElem?_map, List.getElem?_eq_getElem (by omega : r < xs.length), hx, e2] at e4
    have hz : z.data.toList = x := by
      simp only [Option.map_some, Option.some.injEq, DataW.lit.injEq, Lit.string.injEq] at e4
      exact e4
    rw [World.var?_cell hg hv r]
    have : cs.toList[r]? = some (.string z) := by
      have h0 : ((cs.toList.drop r).take 1)[0]? = some (.string z) := by rw [e1]; rfl
      simpa using h0
    have h2 : enS x = .string z := by rw [← hz]
    rw [h2]
    simpa using this
  refine ⟨?_, key⟩
  have h0 := key 0 [] rfl
  exact World.block_lt_of_cell? _ _ h0

theorem take1c {cs : List Value} {j : Nat} (h : j < cs.length) : (cs.drop j).take 1 = [cs[j]] := by
  rw [List.drop_eq_getElem_cons h]
  rfl
theorem i64ok_of_wf {z : Int} (h : (Lit.int .i64 z).wf = true) : i64ok z := by
  simp [Lit.wf, IntKind.min, IntKind.max, IntKind.signed, IntKind.bits] at h
  exact ⟨by omega, by omega⟩
theorem value_open {H : Type} {enc : TypeId × Value → H} {W : World} {base : Nat} {sp : Nat → Bool} {held : Bool} {r : Reach} {b0 : Nat} {v : Value} {d : DataW H} {ps : List MemPlace}
    (hval : Value.okWide Tryd.prog W r b0 23 v) (hd : DataW.Trod enc Tryd.prog W base sp held 23 v d ps) : ∃ x : Vl, v = x.val ∧ x.ok := by
  obtain ⟨cs, rfl, -⟩ := okWide_struct Tryd.underlying23 hval
  obtain ⟨fuel, h0⟩ := hd
  have h : DataW.trod enc Tryd.prog W base sp held fuel 23 cs.toList = some (d, ps) := h0
  obtain ⟨ys, m, -, -, hl, hyl, hf⟩ := DataW.trod_struct Tryd.underlying23 h
  have h5 : Tryd.prog.cellsOf 23 = 5 := by kernel_rfl
  have hs : Tryd.prog.cellsOf 9 = 1 := by kernel_rfl
  have hi : Tryd.prog.cellsOf 3 = 1 := by kernel_rfl
  have hn : Tryd.prog.cellsOf 2 = 1 := by kernel_rfl
  have hb : Tryd.prog.cellsOf 4 = 1 := by kernel_rfl
  rw [h5] at hl
  have f0 := hf 0 _ rfl
  have f1 := hf 1 _ rfl
  have f2 := hf 2 _ rfl
  have f3 := hf 3 _ rfl
  have f4 := hf 4 _ rfl
  change DataW.trod enc Tryd.prog W base sp held _ 3 ((cs.toList.drop 0).take (Tryd.prog.cellsOf 3)) = _ at f0
  change DataW.trod enc Tryd.prog W base sp held _ 2 ((cs.toList.drop 1).take (Tryd.prog.cellsOf 2)) = _ at f1
  change DataW.trod enc Tryd.prog W base sp held _ 9 ((cs.toList.drop 2).take (Tryd.prog.cellsOf 9)) = _ at f2
  change DataW.trod enc Tryd.prog W base sp held _ 4 ((cs.toList.drop 3).take (Tryd.prog.cellsOf 4)) = _ at f3
  change DataW.trod enc Tryd.prog W base sp held _ 3 ((cs.toList.drop 4).take (Tryd.prog.cellsOf 3)) = _ at f4
  rw [hi] at f0 f4
  rw [hn] at f1
  rw [hs] at f2
  rw [hb] at f3
  have hyl5 : ys.length = 5 := hyl
  rw [take1c (by omega), List.getElem?_eq_getElem (by omega)] at f0 f1 f2 f3 f4
  obtain ⟨k, e0, _, wk⟩ := DataW.trod_int Tryd.underlying3 f0
  obtain ⟨n, e1, _, wn⟩ := DataW.trod_int Tryd.underlying2 f1
  obtain ⟨s, e2, _, ws⟩ := DataW.trod_string Tryd.underlying9 f2
  obtain ⟨b, e3, _⟩ := DataW.trod_bool Tryd.underlying4 f3
  obtain ⟨f, e4, _, wf⟩ := DataW.trod_int Tryd.underlying3 f4
  simp only [List.cons.injEq, and_true] at e0 e1 e2 e3 e4
  have es : enS s.data.toList = .string s := by
    show Value.string ⟨s.data.toList.toArray⟩ = .string s
    simp
  refine ⟨⟨k, n, s.data.toList, b, f⟩, ?_, ⟨i64ok_of_wf wk, i64ok_of_wf wn, ws, i64ok_of_wf wf⟩⟩
  unfold Vl.val
  simp only [es]
  congr 1
  apply Array.ext'
  apply List.ext_getElem?
  intro j
  match j with
  | 0 => rw [List.getElem?_eq_getElem (by omega), e0]; rfl
  | 1 => rw [List.getElem?_eq_getElem (by omega), e1]; rfl
  | 2 => rw [List.getElem?_eq_getElem (by omega), e2]; rfl
  | 3 => rw [List.getElem?_eq_getElem (by omega), e3]; rfl
  | 4 => rw [List.getElem?_eq_getElem (by omega), e4]; rfl
  | j + 5 => rw [List.getElem?_eq_none (by omega), List.getElem?_eq_none (by simp)]
end Go.Proofs.YthahgablbdfodaaDoor
