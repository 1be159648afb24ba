/- The walks of AsNum, both sides. -/
import Derived.Test.YthahgablbdfodaaGreatDoorJ16
/- The walks of AsNum, both sides. -/
set_option maxRecDepth 100000
namespace Go.Proofs.YthahgablbdfodaaGreatDoor
open Go.RowKit Go.Lat Go.Lib

/-- A value as a number, where V, E is what Parse answers at its bare text. -/
def asNumV (y : Vl) (V E : Int) : Int × Int :=
  if y.k = 0 then (0, 0) else if y.k = 1 then (y.n, 0) else if y.k = 2 then (if E = 0 then (V, 0) else (0, 3)) else if y.k = 3 then (if y.b then 10000 else 0, 0) else (0, y.f)
set_option maxHeartbeats 1600000 in
theorem AsNum_k0 (w : World) (x : Vl) (hx : x.ok) (n : Int) (t : List UInt8) (b : Bool) (f : Int) (h : soundV x = ⟨0, n, t, b, f⟩) :
    Calls Tryz.prog 28 #[x.val] w fun e w' => e = .returned (.tuple #[.int .i64 0, .int .i64 0]) ∧ Upd w w' (fun _ => False) := by
  have SA := fun w => sound_any w x hx
  rw [h] at SA
  obtain ⟨k0, n0, t0, b0, e0⟩ := x
  unfold Vl.val at SA ⊢
  simp only at SA ⊢
  clear h
  go_enter Tryz.func28, Tryz.ntmps28
  go_wp2_with fail
  refine Calls.mono (SA _) ?_
  rintro e w1 ⟨rfl, u1⟩
  have bX := u1.get (Vnew1 w (.cells (Vl.mk k0 n0 t0 b0 e0).cs 28)) id
  obtain ⟨c0, c1, c2, c3, c4⟩ := cells5 bX
  have xl := lt_at bX
  have f0 := free_at bX 0
  have f1 := free_at bX 1
  have f2 := free_at bX 2
  have f3 := free_at bX 3
  have f4 := free_at bX 4
  have HX := hide bX
  have HU := hide (((Upd.refl w _).alloc _).then u1 (fun _ _ => id))
  clear bX u1 SA
  go_wp2_with fail
  have UU := hide (upd5 (W := w1) HU.out (g := w.heap.size) (Nat.le_refl _) (.int .i64 0) (.int .i64 n) (.string ⟨t.toArray⟩) (.bool b) (.int .i64 f))
  (try simp only [Exit.inBlock, Exit.then])
  go_ret2
  exact ⟨rfl, UU.out⟩
set_option maxHeartbeats 1600000 in
theorem AsNum_k1 (w : World) (x : Vl) (hx : x.ok) (n : Int) (t : List UInt8) (b : Bool) (f : Int) (h : soundV x = ⟨1, n, t, b, f⟩) :
    Calls Tryz.prog 28 #[x.val] w fun e w' => e = .returned (.tuple #[.int .i64 n, .int .i64 0]) ∧ Upd w w' (fun _ => False) := by
  have SA := fun w => sound_any w x hx
  rw [h] at SA
  obtain ⟨k0, n0, t0, b0, e0⟩ := x
  unfold Vl.val at SA ⊢
  simp only at SA ⊢
  clear h
  go_enter Tryz.func28, Tryz.ntmps28
  go_wp2_with fail
  refine Calls.mono (SA _) ?_
  rintro e w1 ⟨rfl, u1⟩
  have bX := u1.get (Vnew1 w (.cells (Vl.mk k0 n0 t0 b0 e0).cs 28)) id
  obtain ⟨c0, c1, c2, c3, c4⟩ := cells5 bX
  have xl := lt_at bX
  have f0 := free_at bX 0
  have f1 := free_at bX 1
  have f2 := free_at bX 2
  have f3 := free_at bX 3
  have f4 := free_at bX 4
  have HX := hide bX
  have HU := hide (((Upd.refl w _).alloc _).then u1 (fun _ _ => id))
  clear bX u1 SA
  go_wp2_with fail
  have UU := hide (upd5 (W := w1) HU.out (g := w.heap.size) (Nat.le_refl _) (.int .i64 1) (.int .i64 n) (.string ⟨t.toArray⟩) (.bool b) (.int .i64 f))
  (try simp only [Exit.inBlock, Exit.then])
  go_ret2
  exact ⟨rfl, UU.out⟩
set_option maxHeartbeats 1600000 in
theorem AsNum_k2a (w : World) (x : Vl) (hx : x.ok) (n : Int) (t : List UInt8) (b : Bool) (f : Int) (h : soundV x = ⟨2, n, t, b, f⟩) (htl : t.length ≤ 1000000) (V : Int) (PT : ∀ w, Calls Tryz.prog 55 #[enS (trimB t 32)] w fun e w' => e = .returned (.tuple #[.int .i64 V, .int .i64 0]) ∧ Upd w w' (fun _ => False)) :
    Calls Tryz.prog 28 #[x.val] w fun e w' => e = .returned (.tuple #[.int .i64 V, .int .i64 0]) ∧ Upd w w' (fun _ => False) := by
  have SA := fun w => sound_any w x hx
  rw [h] at SA
  obtain ⟨k0, n0, t0, b0, e0⟩ := x
  unfold Vl.val at SA ⊢
  simp only at SA ⊢
  clear h
  have HPT := hide PT
  clear PT
  obtain ⟨U, hU⟩ : ∃ U, trimB t 32 = U := ⟨_, rfl⟩
  rw [hU] at HPT
  have HUU := hide hU
  have HTL := hide htl
  clear hU htl
  go_enter Tryz.func28, Tryz.ntmps28
  go_wp2_with fail
  refine Calls.mono (SA _) ?_
  rintro e w1 ⟨rfl, u1⟩
  have bX := u1.get (Vnew1 w (.cells (Vl.mk k0 n0 t0 b0 e0).cs 28)) id
  obtain ⟨c0, c1, c2, c3, c4⟩ := cells5 bX
  have xl := lt_at bX
  have f0 := free_at bX 0
  have f1 := free_at bX 1
  have f2 := free_at bX 2
  have f3 := free_at bX 3
  have f4 := free_at bX 4
  have HX := hide bX
  have HU := hide (((Upd.refl w _).alloc _).then u1 (fun _ _ => id))
  clear bX u1 SA
  go_wp2_with fail
  have UU := hide (upd5 (W := w1) HU.out (g := w.heap.size) (Nat.le_refl _) (.int .i64 2) (.int .i64 n) (.string ⟨t.toArray⟩) (.bool b) (.int .i64 f))
  have TR := strings_Trim32 t HTL.out
  rw [HUU.out] at TR
  refine Calls.mono (TR _) ?_
  rintro e w2 ⟨rfl, u2⟩
  clear TR
  have HU2 := hide (UU.out.then u2 (fun _ _ => id))
  clear u2
  go_wp2_with fail
  refine Calls.mono (HPT.out _) ?_
  rintro e w3 ⟨rfl, u3⟩
  have HU3 := hide (HU2.out.then u3 (fun _ _ => id))
  clear u3
  go_wp2_with fail
  (try simp only [Exit.inBlock, Exit.then])
  go_ret2
  exact ⟨rfl, HU3.out⟩
set_option maxHeartbeats 1600000 in
theorem AsNum_k2b (w : World) (x : Vl) (hx : x.ok) (n : Int) (t : List UInt8) (b : Bool) (f : Int) (h : soundV x = ⟨2, n, t, b, f⟩) (htl : t.length ≤ 1000000) (V E : Int) (hE : (E == 0) = false) (PT : ∀ w, Calls Tryz.prog 55 #[enS (trimB t 32)] w fun e w' => e = .returned (.tuple #[.int .i64 V, .int .i64 E]) ∧ Upd w w' (fun _ => False)) :
    Calls Tryz.prog 28 #[x.val] w fun e w' => e = .returned (.tuple #[.int .i64 0, .int .i64 3]) ∧ Upd w w' (fun _ => False) := by
  have SA := fun w => sound_any w x hx
  rw [h] at SA
  obtain ⟨k0, n0, t0, b0, e0⟩ := x
  unfold Vl.val at SA ⊢
  simp only at SA ⊢
  clear h
  have HPT := hide PT
  clear PT
  obtain ⟨U, hU⟩ : ∃ U, trimB t 32 = U := ⟨_, rfl⟩
  rw [hU] at HPT
  have HUU := hide hU
  have HTL := hide htl
  clear hU htl
  go_enter Tryz.func28, Tryz.ntmps28
  go_wp2_with fail
  refine Calls.mono (SA _) ?_
  rintro e w1 ⟨rfl, u1⟩
  have bX := u1.get (Vnew1 w (.cells (Vl.mk k0 n0 t0 b0 e0).cs 28)) id
  obtain ⟨c0, c1, c2, c3, c4⟩ := cells5 bX
  have xl := lt_at bX
  have f0 := free_at bX 0
  have f1 := free_at bX 1
  have f2 := free_at bX 2
  have f3 := free_at bX 3
  have f4 := free_at bX 4
  have HX := hide bX
  have HU := hide (((Upd.refl w _).alloc _).then u1 (fun _ _ => id))
  clear bX u1 SA
  go_wp2_with fail
  have UU := hide (upd5 (W := w1) HU.out (g := w.heap.size) (Nat.le_refl _) (.int .i64 2) (.int .i64 n) (.string ⟨t.toArray⟩) (.bool b) (.int .i64 f))
  have TR := strings_Trim32 t HTL.out
  rw [HUU.out] at TR
  refine Calls.mono (TR _) ?_
  rintro e w2 ⟨rfl, u2⟩
  clear TR
  have HU2 := hide (UU.out.then u2 (fun _ _ => id))
  clear u2
  go_wp2_with fail
  refine Calls.mono (HPT.out _) ?_
  rintro e w3 ⟨rfl, u3⟩
  have HU3 := hide (HU2.out.then u3 (fun _ _ => id))
  clear u3
  go_wp2_with fail
  (try simp only [Exit.inBlock, Exit.then])
  go_ret2
  exact ⟨rfl, HU3.out⟩
set_option maxHeartbeats 1600000 in
theorem AsNum_k3t (w : World) (x : Vl) (hx : x.ok) (n : Int) (t : List UInt8) (f : Int) (h : soundV x = ⟨3, n, t, true, f⟩) :
    Calls Tryz.prog 28 #[x.val] w fun e w' => e = .returned (.tuple #[.int .i64 10000, .int .i64 0]) ∧ Upd w w' (fun _ => False) := by
  have SA := fun w => sound_any w x hx
  rw [h] at SA
  obtain ⟨k0, n0, t0, b0, e0⟩ := x
  unfold Vl.val at SA ⊢
  simp only at SA ⊢
  clear h
  go_enter Tryz.func28, Tryz.ntmps28
  go_wp2_with fail
  refine Calls.mono (SA _) ?_
  rintro e w1 ⟨rfl, u1⟩
  have bX := u1.get (Vnew1 w (.cells (Vl.mk k0 n0 t0 b0 e0).cs 28)) id
  obtain ⟨c0, c1, c2, c3, c4⟩ := cells5 bX
  have xl := lt_at bX
  have f0 := free_at bX 0
  have f1 := free_at bX 1
  have f2 := free_at bX 2
  have f3 := free_at bX 3
  have f4 := free_at bX 4
  have HX := hide bX
  have HU := hide (((Upd.refl w _).alloc _).then u1 (fun _ _ => id))
  clear bX u1 SA
  go_wp2_with fail
  have UU := hide (upd5 (W := w1) HU.out (g := w.heap.size) (Nat.le_refl _) (.int .i64 3) (.int .i64 n) (.string ⟨t.toArray⟩) (.bool true) (.int .i64 f))
  (try simp only [Exit.inBlock, Exit.then])
  go_ret2
  exact ⟨rfl, UU.out⟩
set_option maxHeartbeats 1600000 in
theorem AsNum_k3f (w : World) (x : Vl) (hx : x.ok) (n : Int) (t : List UInt8) (f : Int) (h : soundV x = ⟨3, n, t, false, f⟩) :
    Calls Tryz.prog 28 #[x.val] w fun e w' => e = .returned (.tuple #[.int .i64 0, .int .i64 0]) ∧ Upd w w' (fun _ => False) := by
  have SA := fun w => sound_any w x hx
  rw [h] at SA
  obtain ⟨k0, n0, t0, b0, e0⟩ := x
  unfold Vl.val at SA ⊢
  simp only at SA ⊢
  clear h
  go_enter Tryz.func28, Tryz.ntmps28
  go_wp2_with fail
  refine Calls.mono (SA _) ?_
  rintro e w1 ⟨rfl, u1⟩
  have bX := u1.get (Vnew1 w (.cells (Vl.mk k0 n0 t0 b0 e0).cs 28)) id
  obtain ⟨c0, c1, c2, c3, c4⟩ := cells5 bX
  have xl := lt_at bX
  have f0 := free_at bX 0
  have f1 := free_at bX 1
  have f2 := free_at bX 2
  have f3 := free_at bX 3
  have f4 := free_at bX 4
  have HX := hide bX
  have HU := hide (((Upd.refl w _).alloc _).then u1 (fun _ _ => id))
  clear bX u1 SA
  go_wp2_with fail
  have UU := hide (upd5 (W := w1) HU.out (g := w.heap.size) (Nat.le_refl _) (.int .i64 3) (.int .i64 n) (.string ⟨t.toArray⟩) (.bool false) (.int .i64 f))
  (try simp only [Exit.inBlock, Exit.then])
  go_ret2
  exact ⟨rfl, UU.out⟩
set_option maxHeartbeats 1600000 in
theorem AsNum_k4 (w : World) (x : Vl) (hx : x.ok) (n : Int) (t : List UInt8) (b : Bool) (f : Int) (h : soundV x = ⟨4, n, t, b, f⟩) :
    Calls Tryz.prog 28 #[x.val] w fun e w' => e = .returned (.tuple #[.int .i64 0, .int .i64 f]) ∧ Upd w w' (fun _ => False) := by
  have SA := fun w => sound_any w x hx
  rw [h] at SA
  obtain ⟨k0, n0, t0, b0, e0⟩ := x
  unfold Vl.val at SA ⊢
  simp only at SA ⊢
  clear h
  go_enter Tryz.func28, Tryz.ntmps28
  go_wp2_with fail
  refine Calls.mono (SA _) ?_
  rintro e w1 ⟨rfl, u1⟩
  have bX := u1.get (Vnew1 w (.cells (Vl.mk k0 n0 t0 b0 e0).cs 28)) id
  obtain ⟨c0, c1, c2, c3, c4⟩ := cells5 bX
  have xl := lt_at bX
  have f0 := free_at bX 0
  have f1 := free_at bX 1
  have f2 := free_at bX 2
  have f3 := free_at bX 3
  have f4 := free_at bX 4
  have HX := hide bX
  have HU := hide (((Upd.refl w _).alloc _).then u1 (fun _ _ => id))
  clear bX u1 SA
  go_wp2_with fail
  have UU := hide (upd5 (W := w1) HU.out (g := w.heap.size) (Nat.le_refl _) (.int .i64 4) (.int .i64 n) (.string ⟨t.toArray⟩) (.bool b) (.int .i64 f))
  go_quiet (fail)
  go_wp2_with fail
  (try simp only [Exit.inBlock, Exit.then])
  go_ret2
  exact ⟨rfl, UU.out.drewN _⟩
theorem AsNum_any (w : World) (x : Vl) (hx : x.ok) (htl : x.t.length ≤ 1000000) (V E : Int) (PT : ∀ w, Calls Tryz.prog 55 #[enS (trimB (soundV x).t 32)] w fun e w' => e = .returned (.tuple #[.int .i64 V, .int .i64 E]) ∧ Upd w w' (fun _ => False)) :
    Calls Tryz.prog 28 #[x.val] w fun e w' => e = .returned (.tuple #[.int .i64 (asNumV (soundV x) V E).1, .int .i64 (asNumV (soundV x) V E).2]) ∧ Upd w w' (fun _ => False) := by
  have htl' := sound_t htl
  obtain ⟨y, hy⟩ : ∃ y, soundV x = y := ⟨_, rfl⟩
  have hk := soundV_kind x
  rw [hy] at PT hk htl' ⊢
  obtain ⟨k, n, t, b, f⟩ := y
  simp only at PT hk htl'
  rcases hk with rfl | rfl | rfl | rfl | rfl
  · exact AsNum_k0 w x hx n t b f hy
  · exact AsNum_k1 w x hx n t b f hy
  · by_cases hE : E = 0
    · subst hE
      exact AsNum_k2a w x hx n t b f hy htl' V PT
    · have e : asNumV ⟨2, n, t, b, f⟩ V E = (0, 3) := by simp [asNumV, hE]
      rw [e]
      exact AsNum_k2b w x hx n t b f hy htl' V E (by simpa using hE) PT
  · cases b with
    | true => exact AsNum_k3t w x hx n t f hy
    | false => exact AsNum_k3f w x hx n t f hy
  · exact AsNum_k4 w x hx n t b f hy
set_option maxHeartbeats 1600000 in
theorem RAsNum_k0 (w : World) (x : Vl) (n : Int) (t : List UInt8) (b : Bool) (f : Int) (h : soundV x = ⟨0, n, t, b, f⟩) :
    Calls Tryz.prog 29 #[x.val] w fun e w' => e = .returned (.tuple #[.int .i64 0, .int .i64 0]) ∧ Upd w w' (fun _ => False) := by
  have SA := fun w => RSound_any w x
  rw [h] at SA
  obtain ⟨k0, n0, t0, b0, e0⟩ := x
  unfold Vl.val at SA ⊢
  simp only at SA ⊢
  clear h
  go_enter Tryz.func29, Tryz.ntmps29
  go_wp2_with fail
  refine Calls.mono (SA _) ?_
  rintro e w1 ⟨rfl, u1⟩
  have bX := u1.get (Vnew1 w (.cells (Vl.mk k0 n0 t0 b0 e0).cs 29)) id
  obtain ⟨c0, c1, c2, c3, c4⟩ := cells5 bX
  have xl := lt_at bX
  have f0 := free_at bX 0
  have f1 := free_at bX 1
  have f2 := free_at bX 2
  have f3 := free_at bX 3
  have f4 := free_at bX 4
  have HX := hide bX
  have HU := hide (((Upd.refl w _).alloc _).then u1 (fun _ _ => id))
  clear bX u1 SA
  go_wp2_with fail
  have UU := hide (upd5 (W := w1) HU.out (g := w.heap.size) (Nat.le_refl _) (.int .i64 0) (.int .i64 n) (.string ⟨t.toArray⟩) (.bool b) (.int .i64 f))
  (try simp only [Exit.inBlock, Exit.then])
  go_ret2
  exact ⟨rfl, UU.out⟩
set_option maxHeartbeats 1600000 in
theorem RAsNum_k1 (w : World) (x : Vl) (n : Int) (t : List UInt8) (b : Bool) (f : Int) (h : soundV x = ⟨1, n, t, b, f⟩) :
    Calls Tryz.prog 29 #[x.val] w fun e w' => e = .returned (.tuple #[.int .i64 n, .int .i64 0]) ∧ Upd w w' (fun _ => False) := by
  have SA := fun w => RSound_any w x
  rw [h] at SA
  obtain ⟨k0, n0, t0, b0, e0⟩ := x
  unfold Vl.val at SA ⊢
  simp only at SA ⊢
  clear h
  go_enter Tryz.func29, Tryz.ntmps29
  go_wp2_with fail
  refine Calls.mono (SA _) ?_
  rintro e w1 ⟨rfl, u1⟩
  have bX := u1.get (Vnew1 w (.cells (Vl.mk k0 n0 t0 b0 e0).cs 29)) id
  obtain ⟨c0, c1, c2, c3, c4⟩ := cells5 bX
  have xl := lt_at bX
  have f0 := free_at bX 0
  have f1 := free_at bX 1
  have f2 := free_at bX 2
  have f3 := free_at bX 3
  have f4 := free_at bX 4
  have HX := hide bX
  have HU := hide (((Upd.refl w _).alloc _).then u1 (fun _ _ => id))
  clear bX u1 SA
  go_wp2_with fail
  have UU := hide (upd5 (W := w1) HU.out (g := w.heap.size) (Nat.le_refl _) (.int .i64 1) (.int .i64 n) (.string ⟨t.toArray⟩) (.bool b) (.int .i64 f))
  (try simp only [Exit.inBlock, Exit.then])
  go_ret2
  exact ⟨rfl, UU.out⟩
set_option maxHeartbeats 1600000 in
theorem RAsNum_k2a (w : World) (x : Vl) (n : Int) (t : List UInt8) (b : Bool) (f : Int) (h : soundV x = ⟨2, n, t, b, f⟩) (htl : t.length ≤ 1000000) (V : Int) (PT : ∀ w, Calls Tryz.prog 58 #[enS (trimB t 32)] w fun e w' => e = .returned (.tuple #[.int .i64 V, .int .i64 0]) ∧ Upd w w' (fun _ => False)) :
    Calls Tryz.prog 29 #[x.val] w fun e w' => e = .returned (.tuple #[.int .i64 V, .int .i64 0]) ∧ Upd w w' (fun _ => False) := by
  have SA := fun w => RSound_any w x
  rw [h] at SA
  obtain ⟨k0, n0, t0, b0, e0⟩ := x
  unfold Vl.val at SA ⊢
  simp only at SA ⊢
  clear h
  have HPT := hide PT
  clear PT
  obtain ⟨U, hU⟩ : ∃ U, trimB t 32 = U := ⟨_, rfl⟩
  rw [hU] at HPT
  have HUU := hide hU
  have HTL := hide htl
  clear hU htl
  go_enter Tryz.func29, Tryz.ntmps29
  go_wp2_with fail
  refine Calls.mono (SA _) ?_
  rintro e w1 ⟨rfl, u1⟩
  have bX := u1.get (Vnew1 w (.cells (Vl.mk k0 n0 t0 b0 e0).cs 29)) id
  obtain ⟨c0, c1, c2, c3, c4⟩ := cells5 bX
  have xl := lt_at bX
  have f0 := free_at bX 0
  have f1 := free_at bX 1
  have f2 := free_at bX 2
  have f3 := free_at bX 3
  have f4 := free_at bX 4
  have HX := hide bX
  have HU := hide (((Upd.refl w _).alloc _).then u1 (fun _ _ => id))
  clear bX u1 SA
  go_wp2_with fail
  have UU := hide (upd5 (W := w1) HU.out (g := w.heap.size) (Nat.le_refl _) (.int .i64 2) (.int .i64 n) (.string ⟨t.toArray⟩) (.bool b) (.int .i64 f))
  have TR := fun w => Bare_any w t HTL.out
  rw [HUU.out] at TR
  refine Calls.mono (TR _) ?_
  rintro e w2 ⟨rfl, u2⟩
  clear TR
  have HU2 := hide (UU.out.then u2 (fun _ _ => id))
  clear u2
  go_wp2_with fail
  refine Calls.mono (HPT.out _) ?_
  rintro e w3 ⟨rfl, u3⟩
  have HU3 := hide (HU2.out.then u3 (fun _ _ => id))
  clear u3
  go_wp2_with fail
  (try simp only [Exit.inBlock, Exit.then])
  go_ret2
  exact ⟨rfl, HU3.out⟩
set_option maxHeartbeats 1600000 in
theorem RAsNum_k2b (w : World) (x : Vl) (n : Int) (t : List UInt8) (b : Bool) (f : Int) (h : soundV x = ⟨2, n, t, b, f⟩) (htl : t.length ≤ 1000000) (V E : Int) (hE : (E == 0) = false) (PT : ∀ w, Calls Tryz.prog 58 #[enS (trimB t 32)] w fun e w' => e = .returned (.tuple #[.int .i64 V, .int .i64 E]) ∧ Upd w w' (fun _ => False)) :
    Calls Tryz.prog 29 #[x.val] w fun e w' => e = .returned (.tuple #[.int .i64 0, .int .i64 3]) ∧ Upd w w' (fun _ => False) := by
  have SA := fun w => RSound_any w x
  rw [h] at SA
  obtain ⟨k0, n0, t0, b0, e0⟩ := x
  unfold Vl.val at SA ⊢
  simp only at SA ⊢
  clear h
  have HPT := hide PT
  clear PT
  obtain ⟨U, hU⟩ : ∃ U, trimB t 32 = U := ⟨_, rfl⟩
  rw [hU] at HPT
  have HUU := hide hU
  have HTL := hide htl
  clear hU htl
  go_enter Tryz.func29, Tryz.ntmps29
  go_wp2_with fail
  refine Calls.mono (SA _) ?_
  rintro e w1 ⟨rfl, u1⟩
  have bX := u1.get (Vnew1 w (.cells (Vl.mk k0 n0 t0 b0 e0).cs 29)) id
  obtain ⟨c0, c1, c2, c3, c4⟩ := cells5 bX
  have xl := lt_at bX
  have f0 := free_at bX 0
  have f1 := free_at bX 1
  have f2 := free_at bX 2
  have f3 := free_at bX 3
  have f4 := free_at bX 4
  have HX := hide bX
  have HU := hide (((Upd.refl w _).alloc _).then u1 (fun _ _ => id))
  clear bX u1 SA
  go_wp2_with fail
  have UU := hide (upd5 (W := w1) HU.out (g := w.heap.size) (Nat.le_refl _) (.int .i64 2) (.int .i64 n) (.string ⟨t.toArray⟩) (.bool b) (.int .i64 f))
  have TR := fun w => Bare_any w t HTL.out
  rw [HUU.out] at TR
  refine Calls.mono (TR _) ?_
  rintro e w2 ⟨rfl, u2⟩
  clear TR
  have HU2 := hide (UU.out.then u2 (fun _ _ => id))
  clear u2
  go_wp2_with fail
  refine Calls.mono (HPT.out _) ?_
  rintro e w3 ⟨rfl, u3⟩
  have HU3 := hide (HU2.out.then u3 (fun _ _ => id))
  clear u3
  go_wp2_with fail
  (try simp only [Exit.inBlock, Exit.then])
  go_ret2
  exact ⟨rfl, HU3.out⟩
set_option maxHeartbeats 1600000 in
theorem RAsNum_k3t (w : World) (x : Vl) (n : Int) (t : List UInt8) (f : Int) (h : soundV x = ⟨3, n, t, true, f⟩) :
    Calls Tryz.prog 29 #[x.val] w fun e w' => e = .returned (.tuple #[.int .i64 10000, .int .i64 0]) ∧ Upd w w' (fun _ => False) := by
  have SA := fun w => RSound_any w x
  rw [h] at SA
  obtain ⟨k0, n0, t0, b0, e0⟩ := x
  unfold Vl.val at SA ⊢
  simp only at SA ⊢
  clear h
  go_enter Tryz.func29, Tryz.ntmps29
  go_wp2_with fail
  refine Calls.mono (SA _) ?_
  rintro e w1 ⟨rfl, u1⟩
  have bX := u1.get (Vnew1 w (.cells (Vl.mk k0 n0 t0 b0 e0).cs 29)) id
  obtain ⟨c0, c1, c2, c3, c4⟩ := cells5 bX
  have xl := lt_at bX
  have f0 := free_at bX 0
  have f1 := free_at bX 1
  have f2 := free_at bX 2
  have f3 := free_at bX 3
  have f4 := free_at bX 4
  have HX := hide bX
  have HU := hide (((Upd.refl w _).alloc _).then u1 (fun _ _ => id))
  clear bX u1 SA
  go_wp2_with fail
  have UU := hide (upd5 (W := w1) HU.out (g := w.heap.size) (Nat.le_refl _) (.int .i64 3) (.int .i64 n) (.string ⟨t.toArray⟩) (.bool true) (.int .i64 f))
  (try simp only [Exit.inBlock, Exit.then])
  go_ret2
  exact ⟨rfl, UU.out⟩
set_option maxHeartbeats 1600000 in
theorem RAsNum_k3f (w : World) (x : Vl) (n : Int) (t : List UInt8) (f : Int) (h : soundV x = ⟨3, n, t, false, f⟩) :
    Calls Tryz.prog 29 #[x.val] w fun e w' => e = .returned (.tuple #[.int .i64 0, .int .i64 0]) ∧ Upd w w' (fun _ => False) := by
  have SA := fun w => RSound_any w x
  rw [h] at SA
  obtain ⟨k0, n0, t0, b0, e0⟩ := x
  unfold Vl.val at SA ⊢
  simp only at SA ⊢
  clear h
  go_enter Tryz.func29, Tryz.ntmps29
  go_wp2_with fail
  refine Calls.mono (SA _) ?_
  rintro e w1 ⟨rfl, u1⟩
  have bX := u1.get (Vnew1 w (.cells (Vl.mk k0 n0 t0 b0 e0).cs 29)) id
  obtain ⟨c0, c1, c2, c3, c4⟩ := cells5 bX
  have xl := lt_at bX
  have f0 := free_at bX 0
  have f1 := free_at bX 1
  have f2 := free_at bX 2
  have f3 := free_at bX 3
  have f4 := free_at bX 4
  have HX := hide bX
  have HU := hide (((Upd.refl w _).alloc _).then u1 (fun _ _ => id))
  clear bX u1 SA
  go_wp2_with fail
  have UU := hide (upd5 (W := w1) HU.out (g := w.heap.size) (Nat.le_refl _) (.int .i64 3) (.int .i64 n) (.string ⟨t.toArray⟩) (.bool false) (.int .i64 f))
  (try simp only [Exit.inBlock, Exit.then])
  go_ret2
  exact ⟨rfl, UU.out⟩
set_option maxHeartbeats 1600000 in
theorem RAsNum_k4 (w : World) (x : Vl) (n : Int) (t : List UInt8) (b : Bool) (f : Int) (h : soundV x = ⟨4, n, t, b, f⟩) :
    Calls Tryz.prog 29 #[x.val] w fun e w' => e = .returned (.tuple #[.int .i64 0, .int .i64 f]) ∧ Upd w w' (fun _ => False) := by
  have SA := fun w => RSound_any w x
  rw [h] at SA
  obtain ⟨k0, n0, t0, b0, e0⟩ := x
  unfold Vl.val at SA ⊢
  simp only at SA ⊢
  clear h
  go_enter Tryz.func29, Tryz.ntmps29
  go_wp2_with fail
  refine Calls.mono (SA _) ?_
  rintro e w1 ⟨rfl, u1⟩
  have bX := u1.get (Vnew1 w (.cells (Vl.mk k0 n0 t0 b0 e0).cs 29)) id
  obtain ⟨c0, c1, c2, c3, c4⟩ := cells5 bX
  have xl := lt_at bX
  have f0 := free_at bX 0
  have f1 := free_at bX 1
  have f2 := free_at bX 2
  have f3 := free_at bX 3
  have f4 := free_at bX 4
  have HX := hide bX
  have HU := hide (((Upd.refl w _).alloc _).then u1 (fun _ _ => id))
  clear bX u1 SA
  go_wp2_with fail
  have UU := hide (upd5 (W := w1) HU.out (g := w.heap.size) (Nat.le_refl _) (.int .i64 4) (.int .i64 n) (.string ⟨t.toArray⟩) (.bool b) (.int .i64 f))
  go_quiet (fail)
  go_wp2_with fail
  (try simp only [Exit.inBlock, Exit.then])
  go_ret2
  exact ⟨rfl, UU.out.drewN _⟩
theorem RAsNum_any (w : World) (x : Vl) (htl : x.t.length ≤ 1000000) (V E : Int) (PT : ∀ w, Calls Tryz.prog 58 #[enS (trimB (soundV x).t 32)] w fun e w' => e = .returned (.tuple #[.int .i64 V, .int .i64 E]) ∧ Upd w w' (fun _ => False)) :
    Calls Tryz.prog 29 #[x.val] w fun e w' => e = .returned (.tuple #[.int .i64 (asNumV (soundV x) V E).1, .int .i64 (asNumV (soundV x) V E).2]) ∧ Upd w w' (fun _ => False) := by
  have htl' := sound_t htl
  obtain ⟨y, hy⟩ : ∃ y, soundV x = y := ⟨_, rfl⟩
  have hk := soundV_kind x
  rw [hy] at PT hk htl' ⊢
  obtain ⟨k, n, t, b, f⟩ := y
  simp only at PT hk htl'
  rcases hk with rfl | rfl | rfl | rfl | rfl
  · exact RAsNum_k0 w x n t b f hy
  · exact RAsNum_k1 w x n t b f hy
  · by_cases hE : E = 0
    · subst hE
      exact RAsNum_k2a w x n t b f hy htl' V PT
    · have e : asNumV ⟨2, n, t, b, f⟩ V E = (0, 3) := by simp [asNumV, hE]
      rw [e]
      exact RAsNum_k2b w x n t b f hy htl' V E (by simpa using hE) PT
  · cases b with
    | true => exact RAsNum_k3t w x n t f hy
    | false => exact RAsNum_k3f w x n t f hy
  · exact RAsNum_k4 w x n t b f hy
end Go.Proofs.YthahgablbdfodaaGreatDoor
/- The walks of AsText, both sides. -/
set_option maxRecDepth 100000
namespace Go.Proofs.YthahgablbdfodaaGreatDoor
open Go.RowKit Go.Lat Go.Lib

theorem soundV_idem (x : Vl) : soundV (soundV x) = soundV x := by
  unfold soundV
  by_cases h : goodV x = true
  · rw [if_pos h, if_pos h]
  · rw [if_neg h, if_pos (by decide)]
/-- A value as a text. -/
def asTextV (y : Vl) (tx : List UInt8) : List UInt8 × Int := if y.k = 4 then ([], y.f) else (showV y tx, 0)
set_option maxHeartbeats 1600000 in
theorem AsText_k4 (w : World) (x : Vl) (hx : x.ok) (n : Int) (t : List UInt8) (b : Bool) (f : Int) (h : soundV x = ⟨4, n, t, b, f⟩) :
    Calls Tryz.prog 30 #[x.val] w fun e w' => e = .returned (.tuple #[.string ⟨#[]⟩, .int .i64 f]) ∧ Upd w w' (fun _ => False) := by
  have SA := fun w => sound_any w x hx
  rw [h] at SA
  obtain ⟨k0, n0, t0, b0, e0⟩ := x
  unfold Vl.val at SA ⊢
  simp only at SA ⊢
  clear h
  go_enter Tryz.func30, Tryz.ntmps30
  go_wp2_with fail
  refine Calls.mono (SA _) ?_
  rintro e w1 ⟨rfl, u1⟩
  have bX := u1.get (Vnew1 w (.cells (Vl.mk k0 n0 t0 b0 e0).cs 28)) id
  obtain ⟨c0, c1, c2, c3, c4⟩ := cells5 bX
  have xl := lt_at bX
  have f0 := free_at bX 0
  have f1 := free_at bX 1
  have f2 := free_at bX 2
  have f3 := free_at bX 3
  have f4 := free_at bX 4
  have HX := hide bX
  have HU := hide (((Upd.refl w _).alloc _).then u1 (fun _ _ => id))
  clear bX u1 SA
  go_wp2_with fail
  have UU := hide (upd5 (W := w1) HU.out (g := w.heap.size) (Nat.le_refl _) (.int .i64 4) (.int .i64 n) (.string ⟨t.toArray⟩) (.bool b) (.int .i64 f))
  go_quiet (fail)
  go_wp2_with fail
  (try simp only [Exit.inBlock, Exit.then])
  go_ret2
  exact ⟨rfl, UU.out.drewN _⟩
set_option maxHeartbeats 1600000 in
theorem AsText_not (w : World) (hg : Sig w) (hp : Pow w) (x : Vl) (hx : x.ok) (k n : Int) (t : List UInt8) (b : Bool) (f : Int) (h : soundV x = ⟨k, n, t, b, f⟩) (z : List UInt8) (hk4 : (k == 4) = false) (SH : ∀ w, Sig w → Pow w → Calls Tryz.prog 34 #[(Vl.mk k n t b f).val] w fun e w' => e = .returned (enS z) ∧ Upd w w' (fun _ => False)) :
    Calls Tryz.prog 30 #[x.val] w fun e w' => e = .returned (.tuple #[enS z, .int .i64 0]) ∧ Upd w w' (fun _ => False) := by
  unfold Vl.val at SH
  simp only at SH
  have SA := fun w => sound_any w x hx
  rw [h] at SA
  obtain ⟨k0, n0, t0, b0, e0⟩ := x
  unfold Vl.val at SA ⊢
  simp only at SA ⊢
  clear h
  have HG := hide hg
  have HP := hide hp
  clear hg hp
  go_enter Tryz.func30, Tryz.ntmps30
  go_wp2_with fail
  refine Calls.mono (SA _) ?_
  rintro e w1 ⟨rfl, u1⟩
  have bX := u1.get (Vnew1 w (.cells (Vl.mk k0 n0 t0 b0 e0).cs 28)) id
  obtain ⟨c0, c1, c2, c3, c4⟩ := cells5 bX
  have xl := lt_at bX
  have f0 := free_at bX 0
  have f1 := free_at bX 1
  have f2 := free_at bX 2
  have f3 := free_at bX 3
  have f4 := free_at bX 4
  have HX := hide bX
  have HU := hide (((Upd.refl w _).alloc _).then u1 (fun _ _ => id))
  clear bX u1 SA
  go_wp2_with fail
  have UU := hide (upd5 (W := w1) HU.out (g := w.heap.size) (Nat.le_refl _) (.int .i64 k) (.int .i64 n) (.string ⟨t.toArray⟩) (.bool b) (.int .i64 f))
  have s1 := HG.out.upd UU.out id
  have s2 := HP.out.upd UU.out id
  refine Calls.mono (SH _ s1 s2) ?_
  rintro e w2 ⟨rfl, u2⟩
  clear s1 s2
  have HU2 := hide (UU.out.then u2 (fun _ _ => id))
  clear u2
  go_wp2_with fail
  (try simp only [Exit.inBlock, Exit.then])
  go_ret2
  exact ⟨rfl, HU2.out⟩
theorem AsText_any (w : World) (hg : Sig w) (hp : Pow w) (x : Vl) (hx : x.ok) (tx : List UInt8) (T1 : ∀ w, Pow w → Calls Tryz.prog 60 #[.int .i64 (soundV x).n] w fun e w' => e = .returned (enS tx) ∧ Upd w w' (fun _ => False)) :
    Calls Tryz.prog 30 #[x.val] w fun e w' => e = .returned (.tuple #[enS (asTextV (soundV x) tx).1, .int .i64 (asTextV (soundV x) tx).2]) ∧ Upd w w' (fun _ => False) := by
  have T2 := T1
  rw [← soundV_idem x] at T2
  have SH := fun w hg hp => Show_any w hg hp _ (soundV_ok hx) tx T2
  rw [soundV_idem] at SH
  obtain ⟨y, hy⟩ : ∃ y, soundV x = y := ⟨_, rfl⟩
  rw [hy] at SH ⊢
  clear T2
  obtain ⟨k, n, t, b, f⟩ := y
  unfold asTextV
  by_cases hk : k = 4
  · subst hk
    exact AsText_k4 w x hx n t b f hy
  · rw [if_neg (by simpa using hk)]
    exact AsText_not w hg hp x hx k n t b f hy _ (by simpa using hk) SH
set_option maxHeartbeats 1600000 in
theorem RAsText_k4 (w : World) (x : Vl) (n : Int) (t : List UInt8) (b : Bool) (f : Int) (h : soundV x = ⟨4, n, t, b, f⟩) :
    Calls Tryz.prog 31 #[x.val] w fun e w' => e = .returned (.tuple #[.string ⟨#[]⟩, .int .i64 f]) ∧ Upd w w' (fun _ => False) := by
  have SA := fun w => RSound_any w x
  rw [h] at SA
  obtain ⟨k0, n0, t0, b0, e0⟩ := x
  unfold Vl.val at SA ⊢
  simp only at SA ⊢
  clear h
  go_enter Tryz.func31, Tryz.ntmps31
  go_wp2_with fail
  refine Calls.mono (SA _) ?_
  rintro e w1 ⟨rfl, u1⟩
  have bX := u1.get (Vnew1 w (.cells (Vl.mk k0 n0 t0 b0 e0).cs 29)) id
  obtain ⟨c0, c1, c2, c3, c4⟩ := cells5 bX
  have xl := lt_at bX
  have f0 := free_at bX 0
  have f1 := free_at bX 1
  have f2 := free_at bX 2
  have f3 := free_at bX 3
  have f4 := free_at bX 4
  have HX := hide bX
  have HU := hide (((Upd.refl w _).alloc _).then u1 (fun _ _ => id))
  clear bX u1 SA
  go_wp2_with fail
  have UU := hide (upd5 (W := w1) HU.out (g := w.heap.size) (Nat.le_refl _) (.int .i64 4) (.int .i64 n) (.string ⟨t.toArray⟩) (.bool b) (.int .i64 f))
  go_quiet (fail)
  go_wp2_with fail
  (try simp only [Exit.inBlock, Exit.then])
  go_ret2
  exact ⟨rfl, UU.out.drewN _⟩
set_option maxHeartbeats 1600000 in
theorem RAsText_not (w : World) (x : Vl) (k n : Int) (t : List UInt8) (b : Bool) (f : Int) (h : soundV x = ⟨k, n, t, b, f⟩) (z : List UInt8) (hk4 : (k == 4) = false) (SH : ∀ w, Calls Tryz.prog 35 #[(Vl.mk k n t b f).val] w fun e w' => e = .returned (enS z) ∧ Upd w w' (fun _ => False)) :
    Calls Tryz.prog 31 #[x.val] w fun e w' => e = .returned (.tuple #[enS z, .int .i64 0]) ∧ Upd w w' (fun _ => False) := by
  unfold Vl.val at SH
  simp only at SH
  have SA := fun w => RSound_any w x
  rw [h] at SA
  obtain ⟨k0, n0, t0, b0, e0⟩ := x
  unfold Vl.val at SA ⊢
  simp only at SA ⊢
  clear h
  go_enter Tryz.func31, Tryz.ntmps31
  go_wp2_with fail
  refine Calls.mono (SA _) ?_
  rintro e w1 ⟨rfl, u1⟩
  have bX := u1.get (Vnew1 w (.cells (Vl.mk k0 n0 t0 b0 e0).cs 29)) id
  obtain ⟨c0, c1, c2, c3, c4⟩ := cells5 bX
  have xl := lt_at bX
  have f0 := free_at bX 0
  have f1 := free_at bX 1
  have f2 := free_at bX 2
  have f3 := free_at bX 3
  have f4 := free_at bX 4
  have HX := hide bX
  have HU := hide (((Upd.refl w _).alloc _).then u1 (fun _ _ => id))
  clear bX u1 SA
  go_wp2_with fail
  have UU := hide (upd5 (W := w1) HU.out (g := w.heap.size) (Nat.le_refl _) (.int .i64 k) (.int .i64 n) (.string ⟨t.toArray⟩) (.bool b) (.int .i64 f))
  refine Calls.mono (SH _) ?_
  rintro e w2 ⟨rfl, u2⟩
  have HU2 := hide (UU.out.then u2 (fun _ _ => id))
  clear u2
  go_wp2_with fail
  (try simp only [Exit.inBlock, Exit.then])
  go_ret2
  exact ⟨rfl, HU2.out⟩
theorem RAsText_any (w : World) (x : Vl) (tx : List UInt8) (T1 : ∀ w, Calls Tryz.prog 61 #[.int .i64 (soundV x).n] w fun e w' => e = .returned (enS tx) ∧ Upd w w' (fun _ => False)) :
    Calls Tryz.prog 31 #[x.val] w fun e w' => e = .returned (.tuple #[enS (asTextV (soundV x) tx).1, .int .i64 (asTextV (soundV x) tx).2]) ∧ Upd w w' (fun _ => False) := by
  have T2 := T1
  rw [← soundV_idem x] at T2
  have SH := fun w => RShow_any w _ tx T2
  rw [soundV_idem] at SH
  obtain ⟨y, hy⟩ : ∃ y, soundV x = y := ⟨_, rfl⟩
  rw [hy] at SH ⊢
  clear T2
  obtain ⟨k, n, t, b, f⟩ := y
  unfold asTextV
  by_cases hk : k = 4
  · subst hk
    exact RAsText_k4 w x n t b f hy
  · rw [if_neg (by simpa using hk)]
    exact RAsText_not w x k n t b f hy _ (by simpa using hk) SH
end Go.Proofs.YthahgablbdfodaaGreatDoor
