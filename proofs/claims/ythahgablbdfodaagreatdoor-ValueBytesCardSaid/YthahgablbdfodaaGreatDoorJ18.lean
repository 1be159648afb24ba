/- The walks of AsBool, both sides. -/
import Derived.Test.YthahgablbdfodaaGreatDoorJ16
import Derived.Test.YthahgablbdfodaaGreatDoorJ14
import Derived.Test.YthahgablbdfodaaGreatDoorJ17
import Derived.Test.YthahgablbdfodaaGreatDoorJ01
import Derived.ProofKit
import Derived.Deep.Slices
import Derived.Deep.Fields
import Derived.ChangeSame
/- The walks of AsBool, both sides. -/
set_option maxRecDepth 100000
namespace Go.Proofs.YthahgablbdfodaaGreatDoor
open Go.RowKit Go.Lat Go.Lib

/-- A value as true, or false. -/
def asBoolV (y : Vl) : Bool × Int :=
  if y.k = 0 then (false, 0) else if y.k = 1 then (y.n != 0, 0) else if y.k = 2 then (if (truthV y.t).2 then ((truthV y.t).1, 0) else (false, 3)) else if y.k = 3 then (y.b, 0) else (false, y.f)
set_option maxHeartbeats 1600000 in
theorem AsBool_k0 (w : World) (x : Vl) (hx : x.ok) (n : Int) (t : List UInt8) (b : Bool) (f : Int) (h : soundV x = ⟨0, n, t, b, f⟩) :
    Calls Tryz.prog 32 #[x.val] w fun e w' => e = .returned (.tuple #[.bool false, .int .i64 0]) ∧ Upd w w' (fun _ => False) := by
  have SA := fun w => sound_any w x hx
  rw [h] at SA
  obtain ⟨k0, n0, t0, b0, e0⟩ := x
  unfold Vl.val at SA ⊢
  simp only at SA ⊢
  clear h
  go_enter Tryz.func32, Tryz.ntmps32
  go_wp2_with fail
  refine Calls.mono (SA _) ?_
  rintro e w1 ⟨rfl, u1⟩
  have bX := u1.get (Vnew1 w (.cells (Vl.mk k0 n0 t0 b0 e0).cs 28)) id
  obtain ⟨c0, c1, c2, c3, c4⟩ := cells5 bX
  have xl := lt_at bX
  have f0 := free_at bX 0
  have f1 := free_at bX 1
  have f2 := free_at bX 2
  have f3 := free_at bX 3
  have f4 := free_at bX 4
  have HX := hide bX
  have HU := hide (((Upd.refl w _).alloc _).then u1 (fun _ _ => id))
  clear bX u1 SA
  go_wp2_with fail
  have UU := hide (upd5 (W := w1) HU.out (g := w.heap.size) (Nat.le_refl _) (.int .i64 0) (.int .i64 n) (.string ⟨t.toArray⟩) (.bool b) (.int .i64 f))
  (try simp only [Exit.inBlock, Exit.then])
  go_ret2
  exact ⟨rfl, UU.out⟩
set_option maxHeartbeats 1600000 in
theorem AsBool_k1 (w : World) (x : Vl) (hx : x.ok) (n : Int) (t : List UInt8) (b : Bool) (f : Int) (h : soundV x = ⟨1, n, t, b, f⟩) :
    Calls Tryz.prog 32 #[x.val] w fun e w' => e = .returned (.tuple #[.bool (n != 0), .int .i64 0]) ∧ Upd w w' (fun _ => False) := by
  have SA := fun w => sound_any w x hx
  rw [h] at SA
  obtain ⟨k0, n0, t0, b0, e0⟩ := x
  unfold Vl.val at SA ⊢
  simp only at SA ⊢
  clear h
  go_enter Tryz.func32, Tryz.ntmps32
  go_wp2_with fail
  refine Calls.mono (SA _) ?_
  rintro e w1 ⟨rfl, u1⟩
  have bX := u1.get (Vnew1 w (.cells (Vl.mk k0 n0 t0 b0 e0).cs 28)) id
  obtain ⟨c0, c1, c2, c3, c4⟩ := cells5 bX
  have xl := lt_at bX
  have f0 := free_at bX 0
  have f1 := free_at bX 1
  have f2 := free_at bX 2
  have f3 := free_at bX 3
  have f4 := free_at bX 4
  have HX := hide bX
  have HU := hide (((Upd.refl w _).alloc _).then u1 (fun _ _ => id))
  clear bX u1 SA
  go_wp2_with fail
  have UU := hide (upd5 (W := w1) HU.out (g := w.heap.size) (Nat.le_refl _) (.int .i64 1) (.int .i64 n) (.string ⟨t.toArray⟩) (.bool b) (.int .i64 f))
  (try simp only [Exit.inBlock, Exit.then])
  go_ret2
  exact ⟨rfl, UU.out⟩
set_option maxHeartbeats 1600000 in
theorem AsBool_k2t (w : World) (x : Vl) (hx : x.ok) (n : Int) (t : List UInt8) (b : Bool) (f : Int) (h : soundV x = ⟨2, n, t, b, f⟩) (htl : t.length ≤ 1000000) (hT : truthV t = (true, true)) :
    Calls Tryz.prog 32 #[x.val] w fun e w' => e = .returned (.tuple #[.bool true, .int .i64 0]) ∧ Upd w w' (fun _ => False) := by
  have SA := fun w => sound_any w x hx
  rw [h] at SA
  obtain ⟨k0, n0, t0, b0, e0⟩ := x
  unfold Vl.val at SA ⊢
  simp only at SA ⊢
  clear h
  have TR := fun w => truth_any w t htl
  rw [hT] at TR
  simp only at TR
  clear hT htl
  go_enter Tryz.func32, Tryz.ntmps32
  go_wp2_with fail
  refine Calls.mono (SA _) ?_
  rintro e w1 ⟨rfl, u1⟩
  have bX := u1.get (Vnew1 w (.cells (Vl.mk k0 n0 t0 b0 e0).cs 28)) id
  obtain ⟨c0, c1, c2, c3, c4⟩ := cells5 bX
  have xl := lt_at bX
  have f0 := free_at bX 0
  have f1 := free_at bX 1
  have f2 := free_at bX 2
  have f3 := free_at bX 3
  have f4 := free_at bX 4
  have HX := hide bX
  have HU := hide (((Upd.refl w _).alloc _).then u1 (fun _ _ => id))
  clear bX u1 SA
  go_wp2_with fail
  have UU := hide (upd5 (W := w1) HU.out (g := w.heap.size) (Nat.le_refl _) (.int .i64 2) (.int .i64 n) (.string ⟨t.toArray⟩) (.bool b) (.int .i64 f))
  refine Calls.mono (TR _) ?_
  rintro e w2 ⟨rfl, u2⟩
  clear TR
  have HU2 := hide (UU.out.then u2 (fun _ _ => id))
  clear u2
  go_wp2_with fail
  (try simp only [Exit.inBlock, Exit.then])
  go_ret2
  exact ⟨rfl, HU2.out⟩
set_option maxHeartbeats 1600000 in
theorem AsBool_k2f (w : World) (x : Vl) (hx : x.ok) (n : Int) (t : List UInt8) (b : Bool) (f : Int) (h : soundV x = ⟨2, n, t, b, f⟩) (htl : t.length ≤ 1000000) (hT : truthV t = (false, true)) :
    Calls Tryz.prog 32 #[x.val] w fun e w' => e = .returned (.tuple #[.bool false, .int .i64 0]) ∧ Upd w w' (fun _ => False) := by
  have SA := fun w => sound_any w x hx
  rw [h] at SA
  obtain ⟨k0, n0, t0, b0, e0⟩ := x
  unfold Vl.val at SA ⊢
  simp only at SA ⊢
  clear h
  have TR := fun w => truth_any w t htl
  rw [hT] at TR
  simp only at TR
  clear hT htl
  go_enter Tryz.func32, Tryz.ntmps32
  go_wp2_with fail
  refine Calls.mono (SA _) ?_
  rintro e w1 ⟨rfl, u1⟩
  have bX := u1.get (Vnew1 w (.cells (Vl.mk k0 n0 t0 b0 e0).cs 28)) id
  obtain ⟨c0, c1, c2, c3, c4⟩ := cells5 bX
  have xl := lt_at bX
  have f0 := free_at bX 0
  have f1 := free_at bX 1
  have f2 := free_at bX 2
  have f3 := free_at bX 3
  have f4 := free_at bX 4
  have HX := hide bX
  have HU := hide (((Upd.refl w _).alloc _).then u1 (fun _ _ => id))
  clear bX u1 SA
  go_wp2_with fail
  have UU := hide (upd5 (W := w1) HU.out (g := w.heap.size) (Nat.le_refl _) (.int .i64 2) (.int .i64 n) (.string ⟨t.toArray⟩) (.bool b) (.int .i64 f))
  refine Calls.mono (TR _) ?_
  rintro e w2 ⟨rfl, u2⟩
  clear TR
  have HU2 := hide (UU.out.then u2 (fun _ _ => id))
  clear u2
  go_wp2_with fail
  (try simp only [Exit.inBlock, Exit.then])
  go_ret2
  exact ⟨rfl, HU2.out⟩
set_option maxHeartbeats 1600000 in
theorem AsBool_k2n (w : World) (x : Vl) (hx : x.ok) (n : Int) (t : List UInt8) (b : Bool) (f : Int) (h : soundV x = ⟨2, n, t, b, f⟩) (htl : t.length ≤ 1000000) (hT : truthV t = (false, false)) :
    Calls Tryz.prog 32 #[x.val] w fun e w' => e = .returned (.tuple #[.bool false, .int .i64 3]) ∧ Upd w w' (fun _ => False) := by
  have SA := fun w => sound_any w x hx
  rw [h] at SA
  obtain ⟨k0, n0, t0, b0, e0⟩ := x
  unfold Vl.val at SA ⊢
  simp only at SA ⊢
  clear h
  have TR := fun w => truth_any w t htl
  rw [hT] at TR
  simp only at TR
  clear hT htl
  go_enter Tryz.func32, Tryz.ntmps32
  go_wp2_with fail
  refine Calls.mono (SA _) ?_
  rintro e w1 ⟨rfl, u1⟩
  have bX := u1.get (Vnew1 w (.cells (Vl.mk k0 n0 t0 b0 e0).cs 28)) id
  obtain ⟨c0, c1, c2, c3, c4⟩ := cells5 bX
  have xl := lt_at bX
  have f0 := free_at bX 0
  have f1 := free_at bX 1
  have f2 := free_at bX 2
  have f3 := free_at bX 3
  have f4 := free_at bX 4
  have HX := hide bX
  have HU := hide (((Upd.refl w _).alloc _).then u1 (fun _ _ => id))
  clear bX u1 SA
  go_wp2_with fail
  have UU := hide (upd5 (W := w1) HU.out (g := w.heap.size) (Nat.le_refl _) (.int .i64 2) (.int .i64 n) (.string ⟨t.toArray⟩) (.bool b) (.int .i64 f))
  refine Calls.mono (TR _) ?_
  rintro e w2 ⟨rfl, u2⟩
  clear TR
  have HU2 := hide (UU.out.then u2 (fun _ _ => id))
  clear u2
  go_wp2_with fail
  (try simp only [Exit.inBlock, Exit.then])
  go_ret2
  exact ⟨rfl, HU2.out⟩
set_option maxHeartbeats 1600000 in
theorem AsBool_k3 (w : World) (x : Vl) (hx : x.ok) (n : Int) (t : List UInt8) (b : Bool) (f : Int) (h : soundV x = ⟨3, n, t, b, f⟩) :
    Calls Tryz.prog 32 #[x.val] w fun e w' => e = .returned (.tuple #[.bool b, .int .i64 0]) ∧ Upd w w' (fun _ => False) := by
  have SA := fun w => sound_any w x hx
  rw [h] at SA
  obtain ⟨k0, n0, t0, b0, e0⟩ := x
  unfold Vl.val at SA ⊢
  simp only at SA ⊢
  clear h
  go_enter Tryz.func32, Tryz.ntmps32
  go_wp2_with fail
  refine Calls.mono (SA _) ?_
  rintro e w1 ⟨rfl, u1⟩
  have bX := u1.get (Vnew1 w (.cells (Vl.mk k0 n0 t0 b0 e0).cs 28)) id
  obtain ⟨c0, c1, c2, c3, c4⟩ := cells5 bX
  have xl := lt_at bX
  have f0 := free_at bX 0
  have f1 := free_at bX 1
  have f2 := free_at bX 2
  have f3 := free_at bX 3
  have f4 := free_at bX 4
  have HX := hide bX
  have HU := hide (((Upd.refl w _).alloc _).then u1 (fun _ _ => id))
  clear bX u1 SA
  go_wp2_with fail
  have UU := hide (upd5 (W := w1) HU.out (g := w.heap.size) (Nat.le_refl _) (.int .i64 3) (.int .i64 n) (.string ⟨t.toArray⟩) (.bool b) (.int .i64 f))
  (try simp only [Exit.inBlock, Exit.then])
  go_ret2
  exact ⟨rfl, UU.out⟩
set_option maxHeartbeats 1600000 in
theorem AsBool_k4 (w : World) (x : Vl) (hx : x.ok) (n : Int) (t : List UInt8) (b : Bool) (f : Int) (h : soundV x = ⟨4, n, t, b, f⟩) :
    Calls Tryz.prog 32 #[x.val] w fun e w' => e = .returned (.tuple #[.bool false, .int .i64 f]) ∧ Upd w w' (fun _ => False) := by
  have SA := fun w => sound_any w x hx
  rw [h] at SA
  obtain ⟨k0, n0, t0, b0, e0⟩ := x
  unfold Vl.val at SA ⊢
  simp only at SA ⊢
  clear h
  go_enter Tryz.func32, Tryz.ntmps32
  go_wp2_with fail
  refine Calls.mono (SA _) ?_
  rintro e w1 ⟨rfl, u1⟩
  have bX := u1.get (Vnew1 w (.cells (Vl.mk k0 n0 t0 b0 e0).cs 28)) id
  obtain ⟨c0, c1, c2, c3, c4⟩ := cells5 bX
  have xl := lt_at bX
  have f0 := free_at bX 0
  have f1 := free_at bX 1
  have f2 := free_at bX 2
  have f3 := free_at bX 3
  have f4 := free_at bX 4
  have HX := hide bX
  have HU := hide (((Upd.refl w _).alloc _).then u1 (fun _ _ => id))
  clear bX u1 SA
  go_wp2_with fail
  have UU := hide (upd5 (W := w1) HU.out (g := w.heap.size) (Nat.le_refl _) (.int .i64 4) (.int .i64 n) (.string ⟨t.toArray⟩) (.bool b) (.int .i64 f))
  go_quiet (fail)
  go_wp2_with fail
  (try simp only [Exit.inBlock, Exit.then])
  go_ret2
  exact ⟨rfl, UU.out.drewN _⟩
theorem AsBool_any (w : World) (x : Vl) (hx : x.ok) (htl : x.t.length ≤ 1000000) :
    Calls Tryz.prog 32 #[x.val] w fun e w' => e = .returned (.tuple #[.bool (asBoolV (soundV x)).1, .int .i64 (asBoolV (soundV x)).2]) ∧ Upd w w' (fun _ => False) := by
  have htl' := sound_t htl
  obtain ⟨y, hy⟩ : ∃ y, soundV x = y := ⟨_, rfl⟩
  have hk := soundV_kind x
  rw [hy] at hk htl' ⊢
  obtain ⟨k, n, t, b, f⟩ := y
  simp only at hk htl'
  rcases hk with rfl | rfl | rfl | rfl | rfl
  · exact AsBool_k0 w x hx n t b f hy
  · exact AsBool_k1 w x hx n t b f hy
  ·
    by_cases h1 : upS t = tTrue
    · have e : truthV t = (true, true) := by unfold truthV; rw [if_pos h1]
      have e2 : asBoolV ⟨2, n, t, b, f⟩ = (true, 0) := by simp [asBoolV, e]
      rw [e2]
      exact AsBool_k2t w x hx n t b f hy htl' e
    · by_cases h2 : upS t = tFalse
      · have e : truthV t = (false, true) := by unfold truthV; rw [if_neg h1, if_pos h2]
        have e2 : asBoolV ⟨2, n, t, b, f⟩ = (false, 0) := by simp [asBoolV, e]
        rw [e2]
        exact AsBool_k2f w x hx n t b f hy htl' e
      · have e : truthV t = (false, false) := by unfold truthV; rw [if_neg h1, if_neg h2]
        have e2 : asBoolV ⟨2, n, t, b, f⟩ = (false, 3) := by simp [asBoolV, e]
        rw [e2]
        exact AsBool_k2n w x hx n t b f hy htl' e
  · exact AsBool_k3 w x hx n t b f hy
  · exact AsBool_k4 w x hx n t b f hy
set_option maxHeartbeats 1600000 in
theorem RAsBool_k0 (w : World) (x : Vl) (n : Int) (t : List UInt8) (b : Bool) (f : Int) (h : soundV x = ⟨0, n, t, b, f⟩) :
    Calls Tryz.prog 33 #[x.val] w fun e w' => e = .returned (.tuple #[.bool false, .int .i64 0]) ∧ Upd w w' (fun _ => False) := by
  have SA := fun w => RSound_any w x
  rw [h] at SA
  obtain ⟨k0, n0, t0, b0, e0⟩ := x
  unfold Vl.val at SA ⊢
  simp only at SA ⊢
  clear h
  go_enter Tryz.func33, Tryz.ntmps33
  go_wp2_with fail
  refine Calls.mono (SA _) ?_
  rintro e w1 ⟨rfl, u1⟩
  have bX := u1.get (Vnew1 w (.cells (Vl.mk k0 n0 t0 b0 e0).cs 29)) id
  obtain ⟨c0, c1, c2, c3, c4⟩ := cells5 bX
  have xl := lt_at bX
  have f0 := free_at bX 0
  have f1 := free_at bX 1
  have f2 := free_at bX 2
  have f3 := free_at bX 3
  have f4 := free_at bX 4
  have HX := hide bX
  have HU := hide (((Upd.refl w _).alloc _).then u1 (fun _ _ => id))
  clear bX u1 SA
  go_wp2_with fail
  have UU := hide (upd5 (W := w1) HU.out (g := w.heap.size) (Nat.le_refl _) (.int .i64 0) (.int .i64 n) (.string ⟨t.toArray⟩) (.bool b) (.int .i64 f))
  (try simp only [Exit.inBlock, Exit.then])
  go_ret2
  exact ⟨rfl, UU.out⟩
set_option maxHeartbeats 1600000 in
theorem RAsBool_k1 (w : World) (x : Vl) (n : Int) (t : List UInt8) (b : Bool) (f : Int) (h : soundV x = ⟨1, n, t, b, f⟩) :
    Calls Tryz.prog 33 #[x.val] w fun e w' => e = .returned (.tuple #[.bool (n != 0), .int .i64 0]) ∧ Upd w w' (fun _ => False) := by
  have SA := fun w => RSound_any w x
  rw [h] at SA
  obtain ⟨k0, n0, t0, b0, e0⟩ := x
  unfold Vl.val at SA ⊢
  simp only at SA ⊢
  clear h
  go_enter Tryz.func33, Tryz.ntmps33
  go_wp2_with fail
  refine Calls.mono (SA _) ?_
  rintro e w1 ⟨rfl, u1⟩
  have bX := u1.get (Vnew1 w (.cells (Vl.mk k0 n0 t0 b0 e0).cs 29)) id
  obtain ⟨c0, c1, c2, c3, c4⟩ := cells5 bX
  have xl := lt_at bX
  have f0 := free_at bX 0
  have f1 := free_at bX 1
  have f2 := free_at bX 2
  have f3 := free_at bX 3
  have f4 := free_at bX 4
  have HX := hide bX
  have HU := hide (((Upd.refl w _).alloc _).then u1 (fun _ _ => id))
  clear bX u1 SA
  go_wp2_with fail
  have UU := hide (upd5 (W := w1) HU.out (g := w.heap.size) (Nat.le_refl _) (.int .i64 1) (.int .i64 n) (.string ⟨t.toArray⟩) (.bool b) (.int .i64 f))
  (try simp only [Exit.inBlock, Exit.then])
  go_ret2
  exact ⟨rfl, UU.out⟩
set_option maxHeartbeats 1600000 in
theorem RAsBool_k2t (w : World) (x : Vl) (n : Int) (t : List UInt8) (b : Bool) (f : Int) (h : soundV x = ⟨2, n, t, b, f⟩) (htl : t.length ≤ 1000000) (hT : lowS t = lTrue) :
    Calls Tryz.prog 33 #[x.val] w fun e w' => e = .returned (.tuple #[.bool true, .int .i64 0]) ∧ Upd w w' (fun _ => False) := by
  have SA := fun w => RSound_any w x
  rw [h] at SA
  obtain ⟨k0, n0, t0, b0, e0⟩ := x
  unfold Vl.val at SA ⊢
  simp only at SA ⊢
  clear h
  have TR := fun w => RLower_any w t htl
  have hT2 : t.map lowB = [116, 114, 117, 101] := hT
  rw [hT2] at TR
  clear hT2
  clear hT htl
  go_enter Tryz.func33, Tryz.ntmps33
  go_wp2_with fail
  refine Calls.mono (SA _) ?_
  rintro e w1 ⟨rfl, u1⟩
  have bX := u1.get (Vnew1 w (.cells (Vl.mk k0 n0 t0 b0 e0).cs 29)) id
  obtain ⟨c0, c1, c2, c3, c4⟩ := cells5 bX
  have xl := lt_at bX
  have f0 := free_at bX 0
  have f1 := free_at bX 1
  have f2 := free_at bX 2
  have f3 := free_at bX 3
  have f4 := free_at bX 4
  have HX := hide bX
  have HU := hide (((Upd.refl w _).alloc _).then u1 (fun _ _ => id))
  clear bX u1 SA
  go_wp2_with fail
  have UU := hide (upd5 (W := w1) HU.out (g := w.heap.size) (Nat.le_refl _) (.int .i64 2) (.int .i64 n) (.string ⟨t.toArray⟩) (.bool b) (.int .i64 f))
  refine Calls.mono (TR _) ?_
  rintro e w2 ⟨rfl, u2⟩
  clear TR
  have HU2 := hide (UU.out.then u2 (fun _ _ => id))
  clear u2
  go_wp2_with fail
  (try simp only [Exit.inBlock, Exit.then])
  go_ret2
  exact ⟨rfl, HU2.out⟩
set_option maxHeartbeats 1600000 in
theorem RAsBool_k2f (w : World) (x : Vl) (n : Int) (t : List UInt8) (b : Bool) (f : Int) (h : soundV x = ⟨2, n, t, b, f⟩) (htl : t.length ≤ 1000000) (hT : lowS t = lFalse) :
    Calls Tryz.prog 33 #[x.val] w fun e w' => e = .returned (.tuple #[.bool false, .int .i64 0]) ∧ Upd w w' (fun _ => False) := by
  have SA := fun w => RSound_any w x
  rw [h] at SA
  obtain ⟨k0, n0, t0, b0, e0⟩ := x
  unfold Vl.val at SA ⊢
  simp only at SA ⊢
  clear h
  have TR := fun w => RLower_any w t htl
  have hT2 : t.map lowB = [102, 97, 108, 115, 101] := hT
  rw [hT2] at TR
  clear hT2
  clear hT htl
  go_enter Tryz.func33, Tryz.ntmps33
  go_wp2_with fail
  refine Calls.mono (SA _) ?_
  rintro e w1 ⟨rfl, u1⟩
  have bX := u1.get (Vnew1 w (.cells (Vl.mk k0 n0 t0 b0 e0).cs 29)) id
  obtain ⟨c0, c1, c2, c3, c4⟩ := cells5 bX
  have xl := lt_at bX
  have f0 := free_at bX 0
  have f1 := free_at bX 1
  have f2 := free_at bX 2
  have f3 := free_at bX 3
  have f4 := free_at bX 4
  have HX := hide bX
  have HU := hide (((Upd.refl w _).alloc _).then u1 (fun _ _ => id))
  clear bX u1 SA
  go_wp2_with fail
  have UU := hide (upd5 (W := w1) HU.out (g := w.heap.size) (Nat.le_refl _) (.int .i64 2) (.int .i64 n) (.string ⟨t.toArray⟩) (.bool b) (.int .i64 f))
  refine Calls.mono (TR _) ?_
  rintro e w2 ⟨rfl, u2⟩
  clear TR
  have HU2 := hide (UU.out.then u2 (fun _ _ => id))
  clear u2
  go_wp2_with fail
  (try simp only [Exit.inBlock, Exit.then])
  go_ret2
  exact ⟨rfl, HU2.out⟩
set_option maxHeartbeats 1600000 in
theorem RAsBool_k2n (w : World) (x : Vl) (n : Int) (t : List UInt8) (b : Bool) (f : Int) (h : soundV x = ⟨2, n, t, b, f⟩) (htl : t.length ≤ 1000000) (hT : lowS t ≠ lTrue ∧ lowS t ≠ lFalse) :
    Calls Tryz.prog 33 #[x.val] w fun e w' => e = .returned (.tuple #[.bool false, .int .i64 3]) ∧ Upd w w' (fun _ => False) := by
  have SA := fun w => RSound_any w x
  rw [h] at SA
  obtain ⟨k0, n0, t0, b0, e0⟩ := x
  unfold Vl.val at SA ⊢
  simp only at SA ⊢
  clear h
  have TR := fun w => RLower_any w t htl
  obtain ⟨z, hz⟩ : ∃ z, t.map lowB = z := ⟨_, rfl⟩
  have b1 : (z == [116, 114, 117, 101]) = false := by rw [← hz]; simpa [lTrue, lowS] using hT.1
  have b2 : (z == [102, 97, 108, 115, 101]) = false := by rw [← hz]; simpa [lFalse, lowS] using hT.2
  rw [hz] at TR
  clear hz
  clear hT htl
  go_enter Tryz.func33, Tryz.ntmps33
  go_wp2_with fail
  refine Calls.mono (SA _) ?_
  rintro e w1 ⟨rfl, u1⟩
  have bX := u1.get (Vnew1 w (.cells (Vl.mk k0 n0 t0 b0 e0).cs 29)) id
  obtain ⟨c0, c1, c2, c3, c4⟩ := cells5 bX
  have xl := lt_at bX
  have f0 := free_at bX 0
  have f1 := free_at bX 1
  have f2 := free_at bX 2
  have f3 := free_at bX 3
  have f4 := free_at bX 4
  have HX := hide bX
  have HU := hide (((Upd.refl w _).alloc _).then u1 (fun _ _ => id))
  clear bX u1 SA
  go_wp2_with fail
  have UU := hide (upd5 (W := w1) HU.out (g := w.heap.size) (Nat.le_refl _) (.int .i64 2) (.int .i64 n) (.string ⟨t.toArray⟩) (.bool b) (.int .i64 f))
  refine Calls.mono (TR _) ?_
  rintro e w2 ⟨rfl, u2⟩
  clear TR
  have HU2 := hide (UU.out.then u2 (fun _ _ => id))
  clear u2
  go_wp2_with fail
  (try simp only [Exit.inBlock, Exit.then])
  go_ret2
  exact ⟨rfl, HU2.out⟩
set_option maxHeartbeats 1600000 in
theorem RAsBool_k3 (w : World) (x : Vl) (n : Int) (t : List UInt8) (b : Bool) (f : Int) (h : soundV x = ⟨3, n, t, b, f⟩) :
    Calls Tryz.prog 33 #[x.val] w fun e w' => e = .returned (.tuple #[.bool b, .int .i64 0]) ∧ Upd w w' (fun _ => False) := by
  have SA := fun w => RSound_any w x
  rw [h] at SA
  obtain ⟨k0, n0, t0, b0, e0⟩ := x
  unfold Vl.val at SA ⊢
  simp only at SA ⊢
  clear h
  go_enter Tryz.func33, Tryz.ntmps33
  go_wp2_with fail
  refine Calls.mono (SA _) ?_
  rintro e w1 ⟨rfl, u1⟩
  have bX := u1.get (Vnew1 w (.cells (Vl.mk k0 n0 t0 b0 e0).cs 29)) id
  obtain ⟨c0, c1, c2, c3, c4⟩ := cells5 bX
  have xl := lt_at bX
  have f0 := free_at bX 0
  have f1 := free_at bX 1
  have f2 := free_at bX 2
  have f3 := free_at bX 3
  have f4 := free_at bX 4
  have HX := hide bX
  have HU := hide (((Upd.refl w _).alloc _).then u1 (fun _ _ => id))
  clear bX u1 SA
  go_wp2_with fail
  have UU := hide (upd5 (W := w1) HU.out (g := w.heap.size) (Nat.le_refl _) (.int .i64 3) (.int .i64 n) (.string ⟨t.toArray⟩) (.bool b) (.int .i64 f))
  (try simp only [Exit.inBlock, Exit.then])
  go_ret2
  exact ⟨rfl, UU.out⟩
set_option maxHeartbeats 1600000 in
theorem RAsBool_k4 (w : World) (x : Vl) (n : Int) (t : List UInt8) (b : Bool) (f : Int) (h : soundV x = ⟨4, n, t, b, f⟩) :
    Calls Tryz.prog 33 #[x.val] w fun e w' => e = .returned (.tuple #[.bool false, .int .i64 f]) ∧ Upd w w' (fun _ => False) := by
  have SA := fun w => RSound_any w x
  rw [h] at SA
  obtain ⟨k0, n0, t0, b0, e0⟩ := x
  unfold Vl.val at SA ⊢
  simp only at SA ⊢
  clear h
  go_enter Tryz.func33, Tryz.ntmps33
  go_wp2_with fail
  refine Calls.mono (SA _) ?_
  rintro e w1 ⟨rfl, u1⟩
  have bX := u1.get (Vnew1 w (.cells (Vl.mk k0 n0 t0 b0 e0).cs 29)) id
  obtain ⟨c0, c1, c2, c3, c4⟩ := cells5 bX
  have xl := lt_at bX
  have f0 := free_at bX 0
  have f1 := free_at bX 1
  have f2 := free_at bX 2
  have f3 := free_at bX 3
  have f4 := free_at bX 4
  have HX := hide bX
  have HU := hide (((Upd.refl w _).alloc _).then u1 (fun _ _ => id))
  clear bX u1 SA
  go_wp2_with fail
  have UU := hide (upd5 (W := w1) HU.out (g := w.heap.size) (Nat.le_refl _) (.int .i64 4) (.int .i64 n) (.string ⟨t.toArray⟩) (.bool b) (.int .i64 f))
  go_quiet (fail)
  go_wp2_with fail
  (try simp only [Exit.inBlock, Exit.then])
  go_ret2
  exact ⟨rfl, UU.out.drewN _⟩
theorem RAsBool_any (w : World) (x : Vl) (htl : x.t.length ≤ 1000000) :
    Calls Tryz.prog 33 #[x.val] w fun e w' => e = .returned (.tuple #[.bool (asBoolV (soundV x)).1, .int .i64 (asBoolV (soundV x)).2]) ∧ Upd w w' (fun _ => False) := by
  have htl' := sound_t htl
  obtain ⟨y, hy⟩ : ∃ y, soundV x = y := ⟨_, rfl⟩
  have hk := soundV_kind x
  rw [hy] at hk htl' ⊢
  obtain ⟨k, n, t, b, f⟩ := y
  simp only at hk htl'
  rcases hk with rfl | rfl | rfl | rfl | rfl
  · exact RAsBool_k0 w x n t b f hy
  · exact RAsBool_k1 w x n t b f hy
  ·
    by_cases h1 : lowS t = lTrue
    · have e : truthV t = (true, true) := by rw [truth_low, if_pos h1]
      have e2 : asBoolV ⟨2, n, t, b, f⟩ = (true, 0) := by simp [asBoolV, e]
      rw [e2]
      exact RAsBool_k2t w x n t b f hy htl' h1
    · by_cases h2 : lowS t = lFalse
      · have e : truthV t = (false, true) := by rw [truth_low, if_neg h1, if_pos h2]
        have e2 : asBoolV ⟨2, n, t, b, f⟩ = (false, 0) := by simp [asBoolV, e]
        rw [e2]
        exact RAsBool_k2f w x n t b f hy htl' h2
      · have e : truthV t = (false, false) := by rw [truth_low, if_neg h1, if_neg h2]
        have e2 : asBoolV ⟨2, n, t, b, f⟩ = (false, 3) := by simp [asBoolV, e]
        rw [e2]
        exact RAsBool_k2n w x n t b f hy htl' ⟨h1, h2⟩
  · exact RAsBool_k3 w x n t b f hy
  · exact RAsBool_k4 w x n t b f hy
end Go.Proofs.YthahgablbdfodaaGreatDoor
/- The walk of ValueShows. -/
set_option maxRecDepth 100000
namespace Go.Proofs.YthahgablbdfodaaGreatDoor
open Go.RowKit Go.Lat Go.Lib

theorem enS_back (t : ByteArray) : enS t.data.toList = .string t := by
  show Value.string ⟨t.data.toList.toArray⟩ = .string t
  simp
theorem signedV (a : Int) : ∃ (s : Bool) (n : Nat), a = (if s then -(n : Int) else (n : Int)) ∧ (s = true → 0 < n) ∧ decide (a < 0) = s ∧ n = a.natAbs := by
  by_cases h : a < 0
  · exact ⟨true, a.natAbs, (by simp; omega), (fun _ => by omega), (by simpa using h), rfl⟩
  · exact ⟨false, a.natAbs, (by simp; omega), (fun h => Bool.noConfusion h), (by simpa using h), rfl⟩
theorem Text_both (a : Int) : ∃ t : List UInt8,
    (∀ w, Pow w → Calls Tryz.prog 60 #[.int .i64 a] w fun e w' => e = .returned (enS t) ∧ Upd w w' (fun _ => False)) ∧
    (∀ w, Calls Tryz.prog 61 #[.int .i64 a] w fun e w' => e = .returned (enS t) ∧ Upd w w' (fun _ => False)) := by
  cases h : okNum a with
  | false => exact ⟨[], fun w _ => Text_bad w a h, fun w => RefText_bad w a h⟩
  | true =>
    have ba := okNum_true h
    obtain ⟨s, x, ea, h0, hs, hx⟩ := signedV a
    have hx9 : x ≤ 9000000000000000000 := by omega
    refine ⟨txt s x, fun w ht => ?_, fun w => ?_⟩
    · have := Text_any s x hx9 h0 w ht
      rw [← ea] at this
      exact this
    · have key : Calls Tryz.prog 61 #[.int .i64 a] w fun e w' => (∃ t : ByteArray, e = .returned (.string t) ∧ t.data.toList = txt s x) ∧ Upd w w' (fun _ => False) := by
        cases hsb : s with
        | true =>
          rw [← hsb]
          exact RefText_neg w a h s hsb x ea hs hx9
        | false =>
          rw [← hsb]
          exact RefText_pos w a h s hsb x ea hs hx9
      refine Calls.mono key ?_
      rintro e w' ⟨⟨t, rfl, et⟩, u⟩
      exact ⟨by rw [← et, enS_back], u⟩
theorem dropW_len (p : UInt8 → Bool) (l : List UInt8) : (l.dropWhile p).length ≤ l.length := by
  induction l with
  | nil => exact Nat.le_refl _
  | cons a l ih =>
    rw [List.dropWhile_cons]
    split
    · exact Nat.le_succ_of_le ih
    · exact Nat.le_refl _
theorem trimB_len (l : List UInt8) (c : UInt8) : (trimB l c).length ≤ l.length := by
  unfold trimB trimLeftB trimRightB
  have h1 := dropW_len (· == c) (l.reverse.dropWhile (· == c)).reverse
  have h2 := dropW_len (· == c) l.reverse
  rw [List.length_reverse] at h1 h2
  omega

set_option maxHeartbeats 6400000 in
theorem ValueShows_any (w : World) (hg : Sig w) (hp : Pow w) (x : Vl) (hx : x.ok) : Calls Tryz.prog 5 #[x.val] w fun e w' => e = .returned (.bool true) ∧ Upd w w' (fun _ => False) := by
  obtain ⟨k0, n0, t0, b9, e0⟩ := x
  obtain ⟨c0, hc0⟩ : ∃ c, t0.take 300 = c := ⟨_, rfl⟩
  have l0 : c0.length ≤ 300 := by rw [← hc0]; simp; omega
  have V0 := fun w => values_any w k0 n0 t0 c0 b9 e0 hc0
  have ok : (Vl.mk k0 n0 c0 b9 e0).ok := ⟨hx.k, hx.n, Nat.le_trans l0 (by decide), hx.f⟩
  have ht6 : (Vl.mk k0 n0 c0 b9 e0).t.length ≤ 1000000 := Nat.le_trans l0 (by decide)
  have hts : (soundV ⟨k0, n0, c0, b9, e0⟩).t.length ≤ 300 := sound_t (show (Vl.mk k0 n0 c0 b9 e0).t.length ≤ 300 from l0)
  obtain ⟨tx, T1, T2⟩ := Text_both (soundV ⟨k0, n0, c0, b9, e0⟩).n
  obtain ⟨V, E, P1, P2⟩ := Parse_both ⟨(trimB (soundV ⟨k0, n0, c0, b9, e0⟩).t 32).toArray⟩ (by
    have h1 := trimB_len (soundV ⟨k0, n0, c0, b9, e0⟩).t 32
    have h2 : (⟨(trimB (soundV ⟨k0, n0, c0, b9, e0⟩).t 32).toArray⟩ : ByteArray).size = (trimB (soundV ⟨k0, n0, c0, b9, e0⟩).t 32).length := rfl
    omega)
  have A1 := fun w => AsNum_any w _ ok ht6 V E P1
  have B1 := fun w => RAsNum_any w _ ht6 V E P2
  have A2 := fun w hg hp => AsText_any w hg hp _ ok tx T1
  have B2 := fun w => RAsText_any w _ tx T2
  have A3 := fun w => AsBool_any w _ ok ht6
  have B3 := fun w => RAsBool_any w _ ht6
  have A4 := fun w hg hp => Show_any w hg hp _ ok tx T1
  have B4 := fun w => RShow_any w _ tx T2
  clear T1 T2 P1 P2
  generalize soundV ⟨k0, n0, c0, b9, e0⟩ = y at A1 B1 A2 B2 A3 B3 A4 B4
  generalize showV y tx = z4 at A4 B4
  generalize asBoolV y = z3 at A3 B3
  generalize asTextV y tx = z2 at A2 B2
  generalize asNumV y V E = z1 at A1 B1
  obtain ⟨p1, q1⟩ := z1
  obtain ⟨p2, q2⟩ := z2
  obtain ⟨p3, q3⟩ := z3
  unfold Vl.val at A1 B1 A2 B2 A3 B3 A4 B4 ⊢
  simp only at A1 B1 A2 B2 A3 B3 A4 B4 ⊢
  have HG := hide hg
  have HP := hide hp
  clear l0 hc0 hx hg hp hts ht6 ok
  go_enter Tryz.func5, Tryz.ntmps5
  go_wp2_with fail
  refine Calls.mono (V0 _) ?_
  rintro e w1 ⟨rfl, u1⟩
  have HU1 := hide (((Upd.refl w _).alloc _).then u1 (fun _ _ => id))
  clear u1 V0
  go_wp2_with fail
  refine Calls.mono (A1 _) ?_
  rintro e w2 ⟨rfl, u2⟩
  have HA2 := hide (u2.get (block_alloc (Vnew1 w1 (.cells (Vl.mk k0 n0 c0 b9 e0).cs 28)) (.cells (Vl.mk k0 n0 c0 b9 e0).cs 29)) id)
  have HB2 := hide (u2.get (Vnew2 w1 (.cells (Vl.mk k0 n0 c0 b9 e0).cs 28) (.cells (Vl.mk k0 n0 c0 b9 e0).cs 29)) id)
  have HU2 := hide (((HU1.out.alloc _).alloc _).then u2 (fun _ _ => id))
  clear u2 A1 HU1
  obtain ⟨a0, a1, a2, a3, a4⟩ := cells5 HA2.out
  obtain ⟨b0, b1, b2, b3, b4⟩ := cells5 HB2.out
  have al := lt_at HA2.out
  have bl := lt_at HB2.out
  go_wp2_with fail
  refine Calls.mono (B1 _) ?_
  rintro e w3 ⟨rfl, u3⟩
  have HA3 := hide (u3.get HA2.out id)
  have HB3 := hide (u3.get HB2.out id)
  have HU3 := hide (HU2.out.then u3 (fun _ _ => id))
  clear u3 B1 a0 a1 a2 a3 a4 b0 b1 b2 b3 b4 al bl HA2 HB2 HU2
  obtain ⟨a0, a1, a2, a3, a4⟩ := cells5 HA3.out
  obtain ⟨b0, b1, b2, b3, b4⟩ := cells5 HB3.out
  have al := lt_at HA3.out
  have bl := lt_at HB3.out
  go_wp2_with fail
  refine Calls.mono (A2 _ (HG.out.upd HU3.out id) (HP.out.upd HU3.out id)) ?_
  rintro e w4 ⟨rfl, u4⟩
  have HA4 := hide (u4.get HA3.out id)
  have HB4 := hide (u4.get HB3.out id)
  have HU4 := hide (HU3.out.then u4 (fun _ _ => id))
  clear u4 A2 a0 a1 a2 a3 a4 b0 b1 b2 b3 b4 al bl HA3 HB3 HU3
  obtain ⟨a0, a1, a2, a3, a4⟩ := cells5 HA4.out
  obtain ⟨b0, b1, b2, b3, b4⟩ := cells5 HB4.out
  have al := lt_at HA4.out
  have bl := lt_at HB4.out
  go_wp2_with fail
  refine Calls.mono (B2 _) ?_
  rintro e w5 ⟨rfl, u5⟩
  have HA5 := hide (u5.get HA4.out id)
  have HB5 := hide (u5.get HB4.out id)
  have HU5 := hide (HU4.out.then u5 (fun _ _ => id))
  clear u5 B2 a0 a1 a2 a3 a4 b0 b1 b2 b3 b4 al bl HA4 HB4 HU4
  obtain ⟨a0, a1, a2, a3, a4⟩ := cells5 HA5.out
  obtain ⟨b0, b1, b2, b3, b4⟩ := cells5 HB5.out
  have al := lt_at HA5.out
  have bl := lt_at HB5.out
  go_wp2_with fail
  refine Calls.mono (A3 _) ?_
  rintro e w6 ⟨rfl, u6⟩
  have HA6 := hide (u6.get HA5.out id)
  have HB6 := hide (u6.get HB5.out id)
  have HU6 := hide (HU5.out.then u6 (fun _ _ => id))
  clear u6 A3 a0 a1 a2 a3 a4 b0 b1 b2 b3 b4 al bl HA5 HB5 HU5
  obtain ⟨a0, a1, a2, a3, a4⟩ := cells5 HA6.out
  obtain ⟨b0, b1, b2, b3, b4⟩ := cells5 HB6.out
  have al := lt_at HA6.out
  have bl := lt_at HB6.out
  go_wp2_with fail
  refine Calls.mono (B3 _) ?_
  rintro e w7 ⟨rfl, u7⟩
  have HA7 := hide (u7.get HA6.out id)
  have HB7 := hide (u7.get HB6.out id)
  have HU7 := hide (HU6.out.then u7 (fun _ _ => id))
  clear u7 B3 a0 a1 a2 a3 a4 b0 b1 b2 b3 b4 al bl HA6 HB6 HU6
  obtain ⟨a0, a1, a2, a3, a4⟩ := cells5 HA7.out
  obtain ⟨b0, b1, b2, b3, b4⟩ := cells5 HB7.out
  have al := lt_at HA7.out
  have bl := lt_at HB7.out
  go_wp2_with fail
  go_region_held3 (fun w' => w'.cell? ⟨w1.heap.size, 0, none⟩ = some (.int .i64 k0) ∧ w'.cell? ⟨w1.heap.size, 1, none⟩ = some (.int .i64 n0) ∧ w'.cell? ⟨w1.heap.size, 2, none⟩ = some (.string ⟨c0.toArray⟩) ∧ w'.cell? ⟨w1.heap.size, 3, none⟩ = some (.bool b9) ∧ w'.cell? ⟨w1.heap.size, 4, none⟩ = some (.int .i64 e0) ∧ w'.cell? ⟨w1.heap.size + 1, 0, none⟩ = some (.int .i64 k0) ∧ w'.cell? ⟨w1.heap.size + 1, 1, none⟩ = some (.int .i64 n0) ∧ w'.cell? ⟨w1.heap.size + 1, 2, none⟩ = some (.string ⟨c0.toArray⟩) ∧ w'.cell? ⟨w1.heap.size + 1, 3, none⟩ = some (.bool b9) ∧ w'.cell? ⟨w1.heap.size + 1, 4, none⟩ = some (.int .i64 e0) ∧ Upd w7 w' (fun _ => False))
    (first | (go_keep; done) | exact ⟨a0, a1, a2, a3, a4, b0, b1, b2, b3, b4, (Upd.refl w7 _).drew⟩ | (have hz : Upd w7 _ (fun _ => False) := Upd.then (And.right (And.right (And.right (And.right (And.right (And.right (And.right (And.right (And.right (And.right (by assumption))))))))))) u11 (fun _ _ => id); exact ⟨(hz.cell w1.heap.size 0 al id).trans a0, (hz.cell w1.heap.size 1 al id).trans a1, (hz.cell w1.heap.size 2 al id).trans a2, (hz.cell w1.heap.size 3 al id).trans a3, (hz.cell w1.heap.size 4 al id).trans a4, (hz.cell (w1.heap.size + 1) 0 bl id).trans b0, (hz.cell (w1.heap.size + 1) 1 bl id).trans b1, (hz.cell (w1.heap.size + 1) 2 bl id).trans b2, (hz.cell (w1.heap.size + 1) 3 bl id).trans b3, (hz.cell (w1.heap.size + 1) 4 bl id).trans b4, hz⟩) | (have hz : Upd w7 _ (fun _ => False) := Upd.then (And.right (And.right (And.right (And.right (And.right (And.right (And.right (And.right (And.right (And.right (by assumption))))))))))) u10 (fun _ _ => id); exact ⟨(hz.cell w1.heap.size 0 al id).trans a0, (hz.cell w1.heap.size 1 al id).trans a1, (hz.cell w1.heap.size 2 al id).trans a2, (hz.cell w1.heap.size 3 al id).trans a3, (hz.cell w1.heap.size 4 al id).trans a4, (hz.cell (w1.heap.size + 1) 0 bl id).trans b0, (hz.cell (w1.heap.size + 1) 1 bl id).trans b1, (hz.cell (w1.heap.size + 1) 2 bl id).trans b2, (hz.cell (w1.heap.size + 1) 3 bl id).trans b3, (hz.cell (w1.heap.size + 1) 4 bl id).trans b4, hz⟩) | (have hz : Upd w7 _ (fun _ => False) := Upd.then (And.right (And.right (And.right (And.right (And.right (And.right (And.right (And.right (And.right (And.right (by assumption))))))))))) u9 (fun _ _ => id); exact ⟨(hz.cell w1.heap.size 0 al id).trans a0, (hz.cell w1.heap.size 1 al id).trans a1, (hz.cell w1.heap.size 2 al id).trans a2, (hz.cell w1.heap.size 3 al id).trans a3, (hz.cell w1.heap.size 4 al id).trans a4, (hz.cell (w1.heap.size + 1) 0 bl id).trans b0, (hz.cell (w1.heap.size + 1) 1 bl id).trans b1, (hz.cell (w1.heap.size + 1) 2 bl id).trans b2, (hz.cell (w1.heap.size + 1) 3 bl id).trans b3, (hz.cell (w1.heap.size + 1) 4 bl id).trans b4, hz⟩))
    (first
    | (go_at_call 8; refine Calls.mono (wakes_any _ (HG.out.upd (HU7.out.drew) id)) ?_; rintro e w9 ⟨rfl, u9⟩)
    | (go_at_call 34; refine Calls.mono (A4 _ (HG.out.upd (HU7.out.then (And.right (And.right (And.right (And.right (And.right (And.right (And.right (And.right (And.right (And.right (by assumption))))))))))) (fun _ _ => id)) id) (HP.out.upd (HU7.out.then (And.right (And.right (And.right (And.right (And.right (And.right (And.right (And.right (And.right (And.right (by assumption))))))))))) (fun _ _ => id)) id)) ?_; rintro e w10 ⟨rfl, u10⟩)
    | (go_at_call 35; refine Calls.mono (B4 _) ?_; rintro e w11 ⟨rfl, u11⟩))
  all_goals go_wp2_with fail
  all_goals go_ret
  all_goals exact ⟨by simp, HU7.out.then (And.right (And.right (And.right (And.right (And.right (And.right (And.right (And.right (And.right (And.right (by assumption))))))))))) (fun _ _ => id)⟩
end Go.Proofs.YthahgablbdfodaaGreatDoor
/- From a law's walk to its row: the parts that are alike for every law. -/
namespace Go.Lat
open Go.ChangeShapes Go.WideShapes Go.ChangeAt Go.RowKit Go.Deep

theorem trodAll_below {H : Type} {enc : TypeId × Value → H} {P : Program} (hl : laidOutB P = true) {W W' : World} (hb : Below W.heap.size W W') :
    ∀ (ts : List TypeId) (vs : List Value) (ds : List (DataW H)) (ps : List MemPlace), (∀ t ∈ ts, P.readableRec t = true ∧ t < P.types.size) →
      DataW.TrodAll enc P W 0 (fun _ => true) true ts vs ds ps → (∀ x ∈ ps, x.block < W.heap.size) → DataW.TrodAll enc P W' 0 (fun b => decide (b < W.heap.size)) true ts vs ds ps
  | [], [], [], ps, _, h, _ => h
  | t :: ts, v :: vs, d :: ds, ps, hr, h, hlt => by
    obtain ⟨p, q, h1, h2, rfl⟩ := h
    refine ⟨p, q, Below.trod hl (hr t (by simp)).1 (hr t (by simp)).2 h1 hb (fun x hx => hlt x (by simp [hx])), ?_, rfl⟩
    exact trodAll_below hl hb ts vs ds q (fun t ht => hr t (by simp [ht])) h2 (fun x hx => hlt x (by simp [hx]))
  | [], [], _ :: _, _, _, h, _ => h.elim
  | [], _ :: _, _, _, _, h, _ => h.elim
  | _ :: _, [], _, _, _, h, _ => h.elim
  | _ :: _, _ :: _, [], _, _, h, _ => h.elim

/-- A law that leaves all that was there alone and answers true. -/
theorem law_post {H : Type} {enc : TypeId × Value → H} {P : Program} {f : Func} {s : ChangeSpec} {W W' : World} {args : Array Value} {ds gs : List (DataW H)} {before : List MemPlace} {tb : TypeId}
    (hl : laidOutB P = true) (hW : DataW.Whole enc P f.params.toList s.vars false W args.toList ds gs before) (hvars : s.vars = [])
    (hfn : s.fn H (ds ++ gs) = { results := [.lit (.bool true)], args := ds }) (hread0 : f.params.toList.all (fun t => P.readableRec t && decide (t < P.types.size)) = true)
    (hrt : f.resultTypes = #[tb]) (htb : P.underlying tb = some .bool) (hb : Upd W W' (fun _ => False)) :
    s.post enc P f false true false false W args (.bool true) W' := by
  have hread : ∀ t ∈ f.params.toList, P.readableRec t = true ∧ t < P.types.size := fun t ht => by have := List.all_eq_true.1 hread0 t ht; simpa using this
  have hlt := hW.lt
  obtain ⟨p, q, h1, h2, rfl, hz, ha⟩ := hW
  have hrt' : f.resultTypes.toList = [tb] := by rw [hrt]
  have hrs : f.resultTypes.size = 1 := by rw [hrt]; rfl
  refine ⟨ds, gs, _, [], p, [], ⟨p, q, h1, h2, rfl, hz, ha⟩, ?_, ?_, ?_, hb.below.frame _, fun h => by cases h⟩
  · rw [hfn, hrt', hrs]
    exact trodAll_mk1 (shut_bool htb true)
  · rw [hfn]
    exact trodAll_below hl hb.below _ _ _ _ hread h1 (fun x hx => hlt x (by simp [hx]))
  · rw [hfn, hvars]
    rfl

section
variable {H : Type} {enc : TypeId × Value → H} {P : Program} {w : World} {base : Nat} {spare : Nat → Bool} {held : Bool}
/-- An argument that is a slice of structs of one-cell fields: each element's cells and their readings. -/
theorem open_slice_fields {t e : TypeId} {fs : Array Field} {fuel : Nat} {cs : List Value} {x : DataW H × List MemPlace} (ht : P.underlying t = some (.slice e)) (he : P.underlying e = some (.struct fs))
    (hone : oneCellFields P fs = true) (hC : P.cellsOf e = fs.size) (h : DataW.trod enc P w base spare held fuel t cs = some x) :
    cs = [.slice none 0 0] ∨
    ∃ (a : Addr) (len cap : Nat), cs = [.slice (some a) len cap] ∧ len ≤ cap ∧ cap ≤ maxLen ∧
      ∀ i, i < len → ∃ n : Nat, ∀ (j : Nat) (f : Field), fs[j]? = some f → ∃ (v : Value) (y : DataW H × List MemPlace), w.cell? (a.add (i * fs.size + j)) = some v ∧ DataW.trod enc P w base spare held n f.type [v] = some y := by
  rcases open_slice ht h with h0 | ⟨a, len, cap, m, n, D, Pl, hcs, hb, hl, hm, hmm, hx, hi⟩
  · exact .inl h0.1
  · refine .inr ⟨a, len, cap, hcs, hl, hm, fun i him => ?_⟩
    obtain ⟨cs', hc, ht'⟩ := hi i (by rw [hmm]; split <;> omega)
    rw [hC] at hc
    obtain ⟨ys, n', hn', hy, hlen, hyl, hf⟩ := DataW.trod_struct he ht'
    obtain ⟨_, hcl, hat⟩ := World.cells?_some hc
    refine ⟨n', fun j f hj => ?_⟩
    obtain ⟨ho, hk⟩ := hone_of hone j f hj
    have hjl : j < fs.size := (Array.getElem?_eq_some_iff.1 hj).1
    have hcell := hat j hjl
    have hv : cs'[j]? = some (cs'[j]'(by omega)) := List.getElem?_eq_getElem (by omega)
    have h1 := hf j f hj
    rw [ho, hk] at h1
    have hone' : (cs'.drop j).take 1 = [cs'[j]'(by omega)] := by
      rw [List.drop_eq_getElem_cons (by omega)]
      rfl
    rw [hone'] at h1
    have hys : ys[j]? = some (ys[j]'(by omega)) := List.getElem?_eq_getElem (by omega)
    refine ⟨_, _, ?_, h1.trans hys⟩
    rw [← Go.Deep.add_add, hcell, hv]
end
/-- A cell that is there has a plain address. -/
theorem cell_spot {w : World} {a : Addr} {v : Value} (h : w.cell? a = some v) : a.spot = none := by
  unfold World.cell? at h
  split at h
  · split at h
    · cases h
    · rename_i h'; simpa using h'
  · cases h

theorem choose_fn {α : Type} (d : α) {n : Nat} {p : Nat → α → Prop} (h : ∀ i, i < n → ∃ x, p i x) : ∃ f : Nat → α, ∀ i, i < n → p i (f i) := by
  classical
  exact ⟨fun i => if hi : i < n then (h i hi).choose else d, fun i hi => by simp only [hi, dif_pos]; exact (h i hi).choose_spec⟩
theorem bounds_int {n : Int} (h : (Lit.int .i64 n).wf = true) : -9223372036854775808 ≤ n ∧ n ≤ 9223372036854775807 := by
  simp [Lit.wf, IntKind.min, IntKind.max, IntKind.signed, IntKind.bits] at h
  omega
end Go.Lat
