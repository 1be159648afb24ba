/- The walks of AsNum, both sides. -/
import Derived.Test.YtmfngdjhkpddoaaGreatDoorJ19
import Derived.Test.YtmfngdjhkpddoaaGreatDoorJ14
import Derived.Test.YtmfngdjhkpddoaaGreatDoorJ17
import Derived.Test.YtmfngdjhkpddoaaGreatDoorJ09
import Derived.Test.YtmfngdjhkpddoaaGreatDoorJ10
/- The walks of AsNum, both sides. -/
set_option maxRecDepth 100000
namespace Go.Proofs.YtmfngdjhkpddoaaGreatDoor
open Go.RowKit Go.Lat Go.Lib

/-- A value as a number, where V, E is what Parse answers at its bare text. -/
def asNumV (y : Vl) (V E : Int) : Int × Int :=
  if y.k = 0 then (0, 0) else if y.k = 1 then (y.n, 0) else if y.k = 2 then (if E = 0 then (V, 0) else (0, 3)) else if y.k = 3 then (if y.b then 10000 else 0, 0) else (0, y.f)
set_option maxHeartbeats 1600000 in
theorem AsNum_k0 (w : World) (x : Vl) (hx : x.ok) (n : Int) (t : List UInt8) (b : Bool) (f : Int) (h : soundV x = ⟨0, n, t, b, f⟩) :
    Calls Tryz.prog 57 #[x.val] w fun e w' => e = .returned (.tuple #[.int .i64 0, .int .i64 0]) ∧ Upd w w' (fun _ => False) := by
  have SA := fun w => sound_any w x hx
  rw [h] at SA
  obtain ⟨k0, n0, t0, b0, e0⟩ := x
  unfold Vl.val at SA ⊢
  simp only at SA ⊢
  clear h
  go_enter Tryz.func57, Tryz.ntmps57
  go_wp2_with fail
  refine Calls.mono (SA _) ?_
  rintro e w1 ⟨rfl, u1⟩
  have bX := u1.get (Vnew1 w (.cells (Vl.mk k0 n0 t0 b0 e0).cs 26)) id
  obtain ⟨c0, c1, c2, c3, c4⟩ := cells5 bX
  have xl := lt_at bX
  have f0 := free_at bX 0
  have f1 := free_at bX 1
  have f2 := free_at bX 2
  have f3 := free_at bX 3
  have f4 := free_at bX 4
  have HX := hide bX
  have HU := hide (((Upd.refl w _).alloc _).then u1 (fun _ _ => id))
  clear bX u1 SA
  go_wp2_with fail
  have UU := hide (upd5 (W := w1) HU.out (g := w.heap.size) (Nat.le_refl _) (.int .i64 0) (.int .i64 n) (.string ⟨t.toArray⟩) (.bool b) (.int .i64 f))
  (try simp only [Exit.inBlock, Exit.then])
  go_ret2
  exact ⟨rfl, UU.out⟩
set_option maxHeartbeats 1600000 in
theorem AsNum_k1 (w : World) (x : Vl) (hx : x.ok) (n : Int) (t : List UInt8) (b : Bool) (f : Int) (h : soundV x = ⟨1, n, t, b, f⟩) :
    Calls Tryz.prog 57 #[x.val] w fun e w' => e = .returned (.tuple #[.int .i64 n, .int .i64 0]) ∧ Upd w w' (fun _ => False) := by
  have SA := fun w => sound_any w x hx
  rw [h] at SA
  obtain ⟨k0, n0, t0, b0, e0⟩ := x
  unfold Vl.val at SA ⊢
  simp only at SA ⊢
  clear h
  go_enter Tryz.func57, Tryz.ntmps57
  go_wp2_with fail
  refine Calls.mono (SA _) ?_
  rintro e w1 ⟨rfl, u1⟩
  have bX := u1.get (Vnew1 w (.cells (Vl.mk k0 n0 t0 b0 e0).cs 26)) id
  obtain ⟨c0, c1, c2, c3, c4⟩ := cells5 bX
  have xl := lt_at bX
  have f0 := free_at bX 0
  have f1 := free_at bX 1
  have f2 := free_at bX 2
  have f3 := free_at bX 3
  have f4 := free_at bX 4
  have HX := hide bX
  have HU := hide (((Upd.refl w _).alloc _).then u1 (fun _ _ => id))
  clear bX u1 SA
  go_wp2_with fail
  have UU := hide (upd5 (W := w1) HU.out (g := w.heap.size) (Nat.le_refl _) (.int .i64 1) (.int .i64 n) (.string ⟨t.toArray⟩) (.bool b) (.int .i64 f))
  (try simp only [Exit.inBlock, Exit.then])
  go_ret2
  exact ⟨rfl, UU.out⟩
set_option maxHeartbeats 1600000 in
theorem AsNum_k2a (w : World) (x : Vl) (hx : x.ok) (n : Int) (t : List UInt8) (b : Bool) (f : Int) (h : soundV x = ⟨2, n, t, b, f⟩) (htl : t.length ≤ 1000000) (V : Int) (PT : ∀ w, Calls Tryz.prog 109 #[enS (trimB t 32)] w fun e w' => e = .returned (.tuple #[.int .i64 V, .int .i64 0]) ∧ Upd w w' (fun _ => False)) :
    Calls Tryz.prog 57 #[x.val] w fun e w' => e = .returned (.tuple #[.int .i64 V, .int .i64 0]) ∧ Upd w w' (fun _ => False) := by
  have SA := fun w => sound_any w x hx
  rw [h] at SA
  obtain ⟨k0, n0, t0, b0, e0⟩ := x
  unfold Vl.val at SA ⊢
  simp only at SA ⊢
  clear h
  have HPT := hide PT
  clear PT
  obtain ⟨U, hU⟩ : ∃ U, trimB t 32 = U := ⟨_, rfl⟩
  rw [hU] at HPT
  have HUU := hide hU
  have HTL := hide htl
  clear hU htl
  go_enter Tryz.func57, Tryz.ntmps57
  go_wp2_with fail
  refine Calls.mono (SA _) ?_
  rintro e w1 ⟨rfl, u1⟩
  have bX := u1.get (Vnew1 w (.cells (Vl.mk k0 n0 t0 b0 e0).cs 26)) id
  obtain ⟨c0, c1, c2, c3, c4⟩ := cells5 bX
  have xl := lt_at bX
  have f0 := free_at bX 0
  have f1 := free_at bX 1
  have f2 := free_at bX 2
  have f3 := free_at bX 3
  have f4 := free_at bX 4
  have HX := hide bX
  have HU := hide (((Upd.refl w _).alloc _).then u1 (fun _ _ => id))
  clear bX u1 SA
  go_wp2_with fail
  have UU := hide (upd5 (W := w1) HU.out (g := w.heap.size) (Nat.le_refl _) (.int .i64 2) (.int .i64 n) (.string ⟨t.toArray⟩) (.bool b) (.int .i64 f))
  have TR := strings_Trim32 t HTL.out
  rw [HUU.out] at TR
  refine Calls.mono (TR _) ?_
  rintro e w2 ⟨rfl, u2⟩
  clear TR
  have HU2 := hide (UU.out.then u2 (fun _ _ => id))
  clear u2
  go_wp2_with fail
  refine Calls.mono (HPT.out _) ?_
  rintro e w3 ⟨rfl, u3⟩
  have HU3 := hide (HU2.out.then u3 (fun _ _ => id))
  clear u3
  go_wp2_with fail
  (try simp only [Exit.inBlock, Exit.then])
  go_ret2
  exact ⟨rfl, HU3.out⟩
set_option maxHeartbeats 1600000 in
theorem AsNum_k2b (w : World) (x : Vl) (hx : x.ok) (n : Int) (t : List UInt8) (b : Bool) (f : Int) (h : soundV x = ⟨2, n, t, b, f⟩) (htl : t.length ≤ 1000000) (V E : Int) (hE : (E == 0) = false) (PT : ∀ w, Calls Tryz.prog 109 #[enS (trimB t 32)] w fun e w' => e = .returned (.tuple #[.int .i64 V, .int .i64 E]) ∧ Upd w w' (fun _ => False)) :
    Calls Tryz.prog 57 #[x.val] w fun e w' => e = .returned (.tuple #[.int .i64 0, .int .i64 3]) ∧ Upd w w' (fun _ => False) := by
  have SA := fun w => sound_any w x hx
  rw [h] at SA
  obtain ⟨k0, n0, t0, b0, e0⟩ := x
  unfold Vl.val at SA ⊢
  simp only at SA ⊢
  clear h
  have HPT := hide PT
  clear PT
  obtain ⟨U, hU⟩ : ∃ U, trimB t 32 = U := ⟨_, rfl⟩
  rw [hU] at HPT
  have HUU := hide hU
  have HTL := hide htl
  clear hU htl
  go_enter Tryz.func57, Tryz.ntmps57
  go_wp2_with fail
  refine Calls.mono (SA _) ?_
  rintro e w1 ⟨rfl, u1⟩
  have bX := u1.get (Vnew1 w (.cells (Vl.mk k0 n0 t0 b0 e0).cs 26)) id
  obtain ⟨c0, c1, c2, c3, c4⟩ := cells5 bX
  have xl := lt_at bX
  have f0 := free_at bX 0
  have f1 := free_at bX 1
  have f2 := free_at bX 2
  have f3 := free_at bX 3
  have f4 := free_at bX 4
  have HX := hide bX
  have HU := hide (((Upd.refl w _).alloc _).then u1 (fun _ _ => id))
  clear bX u1 SA
  go_wp2_with fail
  have UU := hide (upd5 (W := w1) HU.out (g := w.heap.size) (Nat.le_refl _) (.int .i64 2) (.int .i64 n) (.string ⟨t.toArray⟩) (.bool b) (.int .i64 f))
  have TR := strings_Trim32 t HTL.out
  rw [HUU.out] at TR
  refine Calls.mono (TR _) ?_
  rintro e w2 ⟨rfl, u2⟩
  clear TR
  have HU2 := hide (UU.out.then u2 (fun _ _ => id))
  clear u2
  go_wp2_with fail
  refine Calls.mono (HPT.out _) ?_
  rintro e w3 ⟨rfl, u3⟩
  have HU3 := hide (HU2.out.then u3 (fun _ _ => id))
  clear u3
  go_wp2_with fail
  (try simp only [Exit.inBlock, Exit.then])
  go_ret2
  exact ⟨rfl, HU3.out⟩
set_option maxHeartbeats 1600000 in
theorem AsNum_k3t (w : World) (x : Vl) (hx : x.ok) (n : Int) (t : List UInt8) (f : Int) (h : soundV x = ⟨3, n, t, true, f⟩) :
    Calls Tryz.prog 57 #[x.val] w fun e w' => e = .returned (.tuple #[.int .i64 10000, .int .i64 0]) ∧ Upd w w' (fun _ => False) := by
  have SA := fun w => sound_any w x hx
  rw [h] at SA
  obtain ⟨k0, n0, t0, b0, e0⟩ := x
  unfold Vl.val at SA ⊢
  simp only at SA ⊢
  clear h
  go_enter Tryz.func57, Tryz.ntmps57
  go_wp2_with fail
  refine Calls.mono (SA _) ?_
  rintro e w1 ⟨rfl, u1⟩
  have bX := u1.get (Vnew1 w (.cells (Vl.mk k0 n0 t0 b0 e0).cs 26)) id
  obtain ⟨c0, c1, c2, c3, c4⟩ := cells5 bX
  have xl := lt_at bX
  have f0 := free_at bX 0
  have f1 := free_at bX 1
  have f2 := free_at bX 2
  have f3 := free_at bX 3
  have f4 := free_at bX 4
  have HX := hide bX
  have HU := hide (((Upd.refl w _).alloc _).then u1 (fun _ _ => id))
  clear bX u1 SA
  go_wp2_with fail
  have UU := hide (upd5 (W := w1) HU.out (g := w.heap.size) (Nat.le_refl _) (.int .i64 3) (.int .i64 n) (.string ⟨t.toArray⟩) (.bool true) (.int .i64 f))
  (try simp only [Exit.inBlock, Exit.then])
  go_ret2
  exact ⟨rfl, UU.out⟩
set_option maxHeartbeats 1600000 in
theorem AsNum_k3f (w : World) (x : Vl) (hx : x.ok) (n : Int) (t : List UInt8) (f : Int) (h : soundV x = ⟨3, n, t, false, f⟩) :
    Calls Tryz.prog 57 #[x.val] w fun e w' => e = .returned (.tuple #[.int .i64 0, .int .i64 0]) ∧ Upd w w' (fun _ => False) := by
  have SA := fun w => sound_any w x hx
  rw [h] at SA
  obtain ⟨k0, n0, t0, b0, e0⟩ := x
  unfold Vl.val at SA ⊢
  simp only at SA ⊢
  clear h
  go_enter Tryz.func57, Tryz.ntmps57
  go_wp2_with fail
  refine Calls.mono (SA _) ?_
  rintro e w1 ⟨rfl, u1⟩
  have bX := u1.get (Vnew1 w (.cells (Vl.mk k0 n0 t0 b0 e0).cs 26)) id
  obtain ⟨c0, c1, c2, c3, c4⟩ := cells5 bX
  have xl := lt_at bX
  have f0 := free_at bX 0
  have f1 := free_at bX 1
  have f2 := free_at bX 2
  have f3 := free_at bX 3
  have f4 := free_at bX 4
  have HX := hide bX
  have HU := hide (((Upd.refl w _).alloc _).then u1 (fun _ _ => id))
  clear bX u1 SA
  go_wp2_with fail
  have UU := hide (upd5 (W := w1) HU.out (g := w.heap.size) (Nat.le_refl _) (.int .i64 3) (.int .i64 n) (.string ⟨t.toArray⟩) (.bool false) (.int .i64 f))
  (try simp only [Exit.inBlock, Exit.then])
  go_ret2
  exact ⟨rfl, UU.out⟩
set_option maxHeartbeats 1600000 in
theorem AsNum_k4 (w : World) (x : Vl) (hx : x.ok) (n : Int) (t : List UInt8) (b : Bool) (f : Int) (h : soundV x = ⟨4, n, t, b, f⟩) :
    Calls Tryz.prog 57 #[x.val] w fun e w' => e = .returned (.tuple #[.int .i64 0, .int .i64 f]) ∧ Upd w w' (fun _ => False) := by
  have SA := fun w => sound_any w x hx
  rw [h] at SA
  obtain ⟨k0, n0, t0, b0, e0⟩ := x
  unfold Vl.val at SA ⊢
  simp only at SA ⊢
  clear h
  go_enter Tryz.func57, Tryz.ntmps57
  go_wp2_with fail
  refine Calls.mono (SA _) ?_
  rintro e w1 ⟨rfl, u1⟩
  have bX := u1.get (Vnew1 w (.cells (Vl.mk k0 n0 t0 b0 e0).cs 26)) id
  obtain ⟨c0, c1, c2, c3, c4⟩ := cells5 bX
  have xl := lt_at bX
  have f0 := free_at bX 0
  have f1 := free_at bX 1
  have f2 := free_at bX 2
  have f3 := free_at bX 3
  have f4 := free_at bX 4
  have HX := hide bX
  have HU := hide (((Upd.refl w _).alloc _).then u1 (fun _ _ => id))
  clear bX u1 SA
  go_wp2_with fail
  have UU := hide (upd5 (W := w1) HU.out (g := w.heap.size) (Nat.le_refl _) (.int .i64 4) (.int .i64 n) (.string ⟨t.toArray⟩) (.bool b) (.int .i64 f))
  go_quiet (fail)
  go_wp2_with fail
  (try simp only [Exit.inBlock, Exit.then])
  go_ret2
  exact ⟨rfl, UU.out.drewN _⟩
theorem AsNum_any (w : World) (x : Vl) (hx : x.ok) (htl : x.t.length ≤ 1000000) (V E : Int) (PT : ∀ w, Calls Tryz.prog 109 #[enS (trimB (soundV x).t 32)] w fun e w' => e = .returned (.tuple #[.int .i64 V, .int .i64 E]) ∧ Upd w w' (fun _ => False)) :
    Calls Tryz.prog 57 #[x.val] w fun e w' => e = .returned (.tuple #[.int .i64 (asNumV (soundV x) V E).1, .int .i64 (asNumV (soundV x) V E).2]) ∧ Upd w w' (fun _ => False) := by
  have htl' := sound_t htl
  obtain ⟨y, hy⟩ : ∃ y, soundV x = y := ⟨_, rfl⟩
  have hk := soundV_kind x
  rw [hy] at PT hk htl' ⊢
  obtain ⟨k, n, t, b, f⟩ := y
  simp only at PT hk htl'
  rcases hk with rfl | rfl | rfl | rfl | rfl
  · exact AsNum_k0 w x hx n t b f hy
  · exact AsNum_k1 w x hx n t b f hy
  · by_cases hE : E = 0
    · subst hE
      exact AsNum_k2a w x hx n t b f hy htl' V PT
    · have e : asNumV ⟨2, n, t, b, f⟩ V E = (0, 3) := by simp [asNumV, hE]
      rw [e]
      exact AsNum_k2b w x hx n t b f hy htl' V E (by simpa using hE) PT
  · cases b with
    | true => exact AsNum_k3t w x hx n t f hy
    | false => exact AsNum_k3f w x hx n t f hy
  · exact AsNum_k4 w x hx n t b f hy
set_option maxHeartbeats 1600000 in
theorem RAsNum_k0 (w : World) (x : Vl) (n : Int) (t : List UInt8) (b : Bool) (f : Int) (h : soundV x = ⟨0, n, t, b, f⟩) :
    Calls Tryz.prog 47 #[x.val] w fun e w' => e = .returned (.tuple #[.int .i64 0, .int .i64 0]) ∧ Upd w w' (fun _ => False) := by
  have SA := fun w => RSound_any w x
  rw [h] at SA
  obtain ⟨k0, n0, t0, b0, e0⟩ := x
  unfold Vl.val at SA ⊢
  simp only at SA ⊢
  clear h
  go_enter Tryz.func47, Tryz.ntmps47
  go_wp2_with fail
  refine Calls.mono (SA _) ?_
  rintro e w1 ⟨rfl, u1⟩
  have bX := u1.get (Vnew1 w (.cells (Vl.mk k0 n0 t0 b0 e0).cs 36)) id
  obtain ⟨c0, c1, c2, c3, c4⟩ := cells5 bX
  have xl := lt_at bX
  have f0 := free_at bX 0
  have f1 := free_at bX 1
  have f2 := free_at bX 2
  have f3 := free_at bX 3
  have f4 := free_at bX 4
  have HX := hide bX
  have HU := hide (((Upd.refl w _).alloc _).then u1 (fun _ _ => id))
  clear bX u1 SA
  go_wp2_with fail
  have UU := hide (upd5 (W := w1) HU.out (g := w.heap.size) (Nat.le_refl _) (.int .i64 0) (.int .i64 n) (.string ⟨t.toArray⟩) (.bool b) (.int .i64 f))
  (try simp only [Exit.inBlock, Exit.then])
  go_ret2
  exact ⟨rfl, UU.out⟩
set_option maxHeartbeats 1600000 in
theorem RAsNum_k1 (w : World) (x : Vl) (n : Int) (t : List UInt8) (b : Bool) (f : Int) (h : soundV x = ⟨1, n, t, b, f⟩) :
    Calls Tryz.prog 47 #[x.val] w fun e w' => e = .returned (.tuple #[.int .i64 n, .int .i64 0]) ∧ Upd w w' (fun _ => False) := by
  have SA := fun w => RSound_any w x
  rw [h] at SA
  obtain ⟨k0, n0, t0, b0, e0⟩ := x
  unfold Vl.val at SA ⊢
  simp only at SA ⊢
  clear h
  go_enter Tryz.func47, Tryz.ntmps47
  go_wp2_with fail
  refine Calls.mono (SA _) ?_
  rintro e w1 ⟨rfl, u1⟩
  have bX := u1.get (Vnew1 w (.cells (Vl.mk k0 n0 t0 b0 e0).cs 36)) id
  obtain ⟨c0, c1, c2, c3, c4⟩ := cells5 bX
  have xl := lt_at bX
  have f0 := free_at bX 0
  have f1 := free_at bX 1
  have f2 := free_at bX 2
  have f3 := free_at bX 3
  have f4 := free_at bX 4
  have HX := hide bX
  have HU := hide (((Upd.refl w _).alloc _).then u1 (fun _ _ => id))
  clear bX u1 SA
  go_wp2_with fail
  have UU := hide (upd5 (W := w1) HU.out (g := w.heap.size) (Nat.le_refl _) (.int .i64 1) (.int .i64 n) (.string ⟨t.toArray⟩) (.bool b) (.int .i64 f))
  (try simp only [Exit.inBlock, Exit.then])
  go_ret2
  exact ⟨rfl, UU.out⟩
set_option maxHeartbeats 1600000 in
theorem RAsNum_k2a (w : World) (x : Vl) (n : Int) (t : List UInt8) (b : Bool) (f : Int) (h : soundV x = ⟨2, n, t, b, f⟩) (htl : t.length ≤ 1000000) (V : Int) (PT : ∀ w, Calls Tryz.prog 94 #[enS (trimB t 32)] w fun e w' => e = .returned (.tuple #[.int .i64 V, .int .i64 0]) ∧ Upd w w' (fun _ => False)) :
    Calls Tryz.prog 47 #[x.val] w fun e w' => e = .returned (.tuple #[.int .i64 V, .int .i64 0]) ∧ Upd w w' (fun _ => False) := by
  have SA := fun w => RSound_any w x
  rw [h] at SA
  obtain ⟨k0, n0, t0, b0, e0⟩ := x
  unfold Vl.val at SA ⊢
  simp only at SA ⊢
  clear h
  have HPT := hide PT
  clear PT
  obtain ⟨U, hU⟩ : ∃ U, trimB t 32 = U := ⟨_, rfl⟩
  rw [hU] at HPT
  have HUU := hide hU
  have HTL := hide htl
  clear hU htl
  go_enter Tryz.func47, Tryz.ntmps47
  go_wp2_with fail
  refine Calls.mono (SA _) ?_
  rintro e w1 ⟨rfl, u1⟩
  have bX := u1.get (Vnew1 w (.cells (Vl.mk k0 n0 t0 b0 e0).cs 36)) id
  obtain ⟨c0, c1, c2, c3, c4⟩ := cells5 bX
  have xl := lt_at bX
  have f0 := free_at bX 0
  have f1 := free_at bX 1
  have f2 := free_at bX 2
  have f3 := free_at bX 3
  have f4 := free_at bX 4
  have HX := hide bX
  have HU := hide (((Upd.refl w _).alloc _).then u1 (fun _ _ => id))
  clear bX u1 SA
  go_wp2_with fail
  have UU := hide (upd5 (W := w1) HU.out (g := w.heap.size) (Nat.le_refl _) (.int .i64 2) (.int .i64 n) (.string ⟨t.toArray⟩) (.bool b) (.int .i64 f))
  have TR := fun w => Bare_any w t HTL.out
  rw [HUU.out] at TR
  refine Calls.mono (TR _) ?_
  rintro e w2 ⟨rfl, u2⟩
  clear TR
  have HU2 := hide (UU.out.then u2 (fun _ _ => id))
  clear u2
  go_wp2_with fail
  refine Calls.mono (HPT.out _) ?_
  rintro e w3 ⟨rfl, u3⟩
  have HU3 := hide (HU2.out.then u3 (fun _ _ => id))
  clear u3
  go_wp2_with fail
  (try simp only [Exit.inBlock, Exit.then])
  go_ret2
  exact ⟨rfl, HU3.out⟩
set_option maxHeartbeats 1600000 in
theorem RAsNum_k2b (w : World) (x : Vl) (n : Int) (t : List UInt8) (b : Bool) (f : Int) (h : soundV x = ⟨2, n, t, b, f⟩) (htl : t.length ≤ 1000000) (V E : Int) (hE : (E == 0) = false) (PT : ∀ w, Calls Tryz.prog 94 #[enS (trimB t 32)] w fun e w' => e = .returned (.tuple #[.int .i64 V, .int .i64 E]) ∧ Upd w w' (fun _ => False)) :
    Calls Tryz.prog 47 #[x.val] w fun e w' => e = .returned (.tuple #[.int .i64 0, .int .i64 3]) ∧ Upd w w' (fun _ => False) := by
  have SA := fun w => RSound_any w x
  rw [h] at SA
  obtain ⟨k0, n0, t0, b0, e0⟩ := x
  unfold Vl.val at SA ⊢
  simp only at SA ⊢
  clear h
  have HPT := hide PT
  clear PT
  obtain ⟨U, hU⟩ : ∃ U, trimB t 32 = U := ⟨_, rfl⟩
  rw [hU] at HPT
  have HUU := hide hU
  have HTL := hide htl
  clear hU htl
  go_enter Tryz.func47, Tryz.ntmps47
  go_wp2_with fail
  refine Calls.mono (SA _) ?_
  rintro e w1 ⟨rfl, u1⟩
  have bX := u1.get (Vnew1 w (.cells (Vl.mk k0 n0 t0 b0 e0).cs 36)) id
  obtain ⟨c0, c1, c2, c3, c4⟩ := cells5 bX
  have xl := lt_at bX
  have f0 := free_at bX 0
  have f1 := free_at bX 1
  have f2 := free_at bX 2
  have f3 := free_at bX 3
  have f4 := free_at bX 4
  have HX := hide bX
  have HU := hide (((Upd.refl w _).alloc _).then u1 (fun _ _ => id))
  clear bX u1 SA
  go_wp2_with fail
  have UU := hide (upd5 (W := w1) HU.out (g := w.heap.size) (Nat.le_refl _) (.int .i64 2) (.int .i64 n) (.string ⟨t.toArray⟩) (.bool b) (.int .i64 f))
  have TR := fun w => Bare_any w t HTL.out
  rw [HUU.out] at TR
  refine Calls.mono (TR _) ?_
  rintro e w2 ⟨rfl, u2⟩
  clear TR
  have HU2 := hide (UU.out.then u2 (fun _ _ => id))
  clear u2
  go_wp2_with fail
  refine Calls.mono (HPT.out _) ?_
  rintro e w3 ⟨rfl, u3⟩
  have HU3 := hide (HU2.out.then u3 (fun _ _ => id))
  clear u3
  go_wp2_with fail
  (try simp only [Exit.inBlock, Exit.then])
  go_ret2
  exact ⟨rfl, HU3.out⟩
set_option maxHeartbeats 1600000 in
theorem RAsNum_k3t (w : World) (x : Vl) (n : Int) (t : List UInt8) (f : Int) (h : soundV x = ⟨3, n, t, true, f⟩) :
    Calls Tryz.prog 47 #[x.val] w fun e w' => e = .returned (.tuple #[.int .i64 10000, .int .i64 0]) ∧ Upd w w' (fun _ => False) := by
  have SA := fun w => RSound_any w x
  rw [h] at SA
  obtain ⟨k0, n0, t0, b0, e0⟩ := x
  unfold Vl.val at SA ⊢
  simp only at SA ⊢
  clear h
  go_enter Tryz.func47, Tryz.ntmps47
  go_wp2_with fail
  refine Calls.mono (SA _) ?_
  rintro e w1 ⟨rfl, u1⟩
  have bX := u1.get (Vnew1 w (.cells (Vl.mk k0 n0 t0 b0 e0).cs 36)) id
  obtain ⟨c0, c1, c2, c3, c4⟩ := cells5 bX
  have xl := lt_at bX
  have f0 := free_at bX 0
  have f1 := free_at bX 1
  have f2 := free_at bX 2
  have f3 := free_at bX 3
  have f4 := free_at bX 4
  have HX := hide bX
  have HU := hide (((Upd.refl w _).alloc _).then u1 (fun _ _ => id))
  clear bX u1 SA
  go_wp2_with fail
  have UU := hide (upd5 (W := w1) HU.out (g := w.heap.size) (Nat.le_refl _) (.int .i64 3) (.int .i64 n) (.string ⟨t.toArray⟩) (.bool true) (.int .i64 f))
  (try simp only [Exit.inBlock, Exit.then])
  go_ret2
  exact ⟨rfl, UU.out⟩
set_option maxHeartbeats 1600000 in
theorem RAsNum_k3f (w : World) (x : Vl) (n : Int) (t : List UInt8) (f : Int) (h : soundV x = ⟨3, n, t, false, f⟩) :
    Calls Tryz.prog 47 #[x.val] w fun e w' => e = .returned (.tuple #[.int .i64 0, .int .i64 0]) ∧ Upd w w' (fun _ => False) := by
  have SA := fun w => RSound_any w x
  rw [h] at SA
  obtain ⟨k0, n0, t0, b0, e0⟩ := x
  unfold Vl.val at SA ⊢
  simp only at SA ⊢
  clear h
  go_enter Tryz.func47, Tryz.ntmps47
  go_wp2_with fail
  refine Calls.mono (SA _) ?_
  rintro e w1 ⟨rfl, u1⟩
  have bX := u1.get (Vnew1 w (.cells (Vl.mk k0 n0 t0 b0 e0).cs 36)) id
  obtain ⟨c0, c1, c2, c3, c4⟩ := cells5 bX
  have xl := lt_at bX
  have f0 := free_at bX 0
  have f1 := free_at bX 1
  have f2 := free_at bX 2
  have f3 := free_at bX 3
  have f4 := free_at bX 4
  have HX := hide bX
  have HU := hide (((Upd.refl w _).alloc _).then u1 (fun _ _ => id))
  clear bX u1 SA
  go_wp2_with fail
  have UU := hide (upd5 (W := w1) HU.out (g := w.heap.size) (Nat.le_refl _) (.int .i64 3) (.int .i64 n) (.string ⟨t.toArray⟩) (.bool false) (.int .i64 f))
  (try simp only [Exit.inBlock, Exit.then])
  go_ret2
  exact ⟨rfl, UU.out⟩
set_option maxHeartbeats 1600000 in
theorem RAsNum_k4 (w : World) (x : Vl) (n : Int) (t : List UInt8) (b : Bool) (f : Int) (h : soundV x = ⟨4, n, t, b, f⟩) :
    Calls Tryz.prog 47 #[x.val] w fun e w' => e = .returned (.tuple #[.int .i64 0, .int .i64 f]) ∧ Upd w w' (fun _ => False) := by
  have SA := fun w => RSound_any w x
  rw [h] at SA
  obtain ⟨k0, n0, t0, b0, e0⟩ := x
  unfold Vl.val at SA ⊢
  simp only at SA ⊢
  clear h
  go_enter Tryz.func47, Tryz.ntmps47
  go_wp2_with fail
  refine Calls.mono (SA _) ?_
  rintro e w1 ⟨rfl, u1⟩
  have bX := u1.get (Vnew1 w (.cells (Vl.mk k0 n0 t0 b0 e0).cs 36)) id
  obtain ⟨c0, c1, c2, c3, c4⟩ := cells5 bX
  have xl := lt_at bX
  have f0 := free_at bX 0
  have f1 := free_at bX 1
  have f2 := free_at bX 2
  have f3 := free_at bX 3
  have f4 := free_at bX 4
  have HX := hide bX
  have HU := hide (((Upd.refl w _).alloc _).then u1 (fun _ _ => id))
  clear bX u1 SA
  go_wp2_with fail
  have UU := hide (upd5 (W := w1) HU.out (g := w.heap.size) (Nat.le_refl _) (.int .i64 4) (.int .i64 n) (.string ⟨t.toArray⟩) (.bool b) (.int .i64 f))
  go_quiet (fail)
  go_wp2_with fail
  (try simp only [Exit.inBlock, Exit.then])
  go_ret2
  exact ⟨rfl, UU.out.drewN _⟩
theorem RAsNum_any (w : World) (x : Vl) (htl : x.t.length ≤ 1000000) (V E : Int) (PT : ∀ w, Calls Tryz.prog 94 #[enS (trimB (soundV x).t 32)] w fun e w' => e = .returned (.tuple #[.int .i64 V, .int .i64 E]) ∧ Upd w w' (fun _ => False)) :
    Calls Tryz.prog 47 #[x.val] w fun e w' => e = .returned (.tuple #[.int .i64 (asNumV (soundV x) V E).1, .int .i64 (asNumV (soundV x) V E).2]) ∧ Upd w w' (fun _ => False) := by
  have htl' := sound_t htl
  obtain ⟨y, hy⟩ : ∃ y, soundV x = y := ⟨_, rfl⟩
  have hk := soundV_kind x
  rw [hy] at PT hk htl' ⊢
  obtain ⟨k, n, t, b, f⟩ := y
  simp only at PT hk htl'
  rcases hk with rfl | rfl | rfl | rfl | rfl
  · exact RAsNum_k0 w x n t b f hy
  · exact RAsNum_k1 w x n t b f hy
  · by_cases hE : E = 0
    · subst hE
      exact RAsNum_k2a w x n t b f hy htl' V PT
    · have e : asNumV ⟨2, n, t, b, f⟩ V E = (0, 3) := by simp [asNumV, hE]
      rw [e]
      exact RAsNum_k2b w x n t b f hy htl' V E (by simpa using hE) PT
  · cases b with
    | true => exact RAsNum_k3t w x n t f hy
    | false => exact RAsNum_k3f w x n t f hy
  · exact RAsNum_k4 w x n t b f hy
end Go.Proofs.YtmfngdjhkpddoaaGreatDoor
/- Values as numbers, the same on both sides; arguments as data (plain). -/
set_option maxRecDepth 100000
namespace Go.Proofs.YtmfngdjhkpddoaaGreatDoor
open Go.RowKit Go.Lat Go.Lib

theorem trimR_len (l : List UInt8) (c : UInt8) : (trimB l c).length ≤ l.length := by
  have dw : ∀ (m : List UInt8), (m.dropWhile (· == c)).length ≤ m.length := fun m => (List.dropWhile_sublist _).length_le
  unfold trimB trimLeftB trimRightB
  have h1 := dw (l.reverse.dropWhile (· == c)).reverse
  have h2 := dw l.reverse
  rw [List.length_reverse] at h1 h2
  omega
theorem soundV_t255 (x : Vl) : (soundV x).t.length ≤ 255 := by
  unfold soundV
  split
  · rename_i h
    unfold goodV at h
    split at h
    · rw [eqV_iff] at h; rw [h]; exact Nat.zero_le _
    · split at h
      · rw [eqV_iff] at h
        rw [h]
        unfold mkN
        split
        · exact Nat.zero_le _
        · exact Nat.zero_le _
      · split at h
        · rw [eqV_iff] at h
          by_cases hl : x.t.length ≤ 255
          · exact hl
          · rw [h]
            unfold mkT
            rw [if_neg hl]
            exact Nat.zero_le _
        · split at h
          · rw [eqV_iff] at h; rw [h]; exact Nat.zero_le _
          · split at h
            · rw [eqV_iff] at h; rw [h]; exact Nat.zero_le _
            · cases h
  · exact Nat.zero_le _
theorem parse_ex (s : List UInt8) (hs : s.length ≤ 1000) : ∃ p : Int × Int, okNum p.1 = true ∧
    (∀ w, Calls Tryz.prog 109 #[enS s] w fun e w' => e = .returned (.tuple #[.int .i64 p.1, .int .i64 p.2]) ∧ Upd w w' (fun _ => False)) ∧
    (∀ w, Calls Tryz.prog 94 #[enS s] w fun e w' => e = .returned (.tuple #[.int .i64 p.1, .int .i64 p.2]) ∧ Upd w w' (fun _ => False)) := by
  obtain ⟨V, E, h0, h1, h2⟩ := Parse_bothN ⟨s.toArray⟩ hs
  exact ⟨(V, E), h0, h1, h2⟩
/-- What a text is read aa, by both sides. -/
noncomputable def parseF (s : List UInt8) : Int × Int := if h : s.length ≤ 1000 then (parse_ex s h).choose else (0, 0)
theorem parseF_spec (s : List UInt8) (hs : s.length ≤ 1000) :
    (∀ w, Calls Tryz.prog 109 #[enS s] w fun e w' => e = .returned (.tuple #[.int .i64 (parseF s).1, .int .i64 (parseF s).2]) ∧ Upd w w' (fun _ => False)) ∧
    (∀ w, Calls Tryz.prog 94 #[enS s] w fun e w' => e = .returned (.tuple #[.int .i64 (parseF s).1, .int .i64 (parseF s).2]) ∧ Upd w w' (fun _ => False)) := by
  unfold parseF
  rw [dif_pos hs]
  exact (parse_ex s hs).choose_spec.2
theorem parseF_ok (s : List UInt8) : okNum (parseF s).1 = true := by
  unfold parseF
  split
  · rename_i h
    exact (parse_ex s h).choose_spec.1
  · decide
/-- A value aa a number, and the error. -/
noncomputable def numF (x : Vl) : Int × Int := asNumV (soundV x) (parseF (trimB (soundV x).t 32)).1 (parseF (trimB (soundV x).t 32)).2
theorem numP_any (w : World) (x : Vl) (hx : x.ok) (htl : x.t.length ≤ 1000000) :
    Calls Tryz.prog 57 #[x.val] w fun e w' => e = .returned (.tuple #[.int .i64 (numF x).1, .int .i64 (numF x).2]) ∧ Upd w w' (fun _ => False) :=
  AsNum_any w x hx htl _ _ (parseF_spec _ (by have h1 := trimR_len (soundV x).t 32; have h2 := soundV_t255 x; omega)).1
theorem numR_any (w : World) (x : Vl) (htl : x.t.length ≤ 1000000) :
    Calls Tryz.prog 47 #[x.val] w fun e w' => e = .returned (.tuple #[.int .i64 (numF x).1, .int .i64 (numF x).2]) ∧ Upd w w' (fun _ => False) :=
  RAsNum_any w x htl _ _ (parseF_spec _ (by have h1 := trimR_len (soundV x).t 32; have h2 := soundV_t255 x; omega)).2
theorem numF_n {n : Int} (h : okNum n = true) : numF ⟨1, n, [], false, 0⟩ = (n, 0) := by
  have hg : goodV ⟨1, n, [], false, 0⟩ = true := by
    rw [← rgood_eq]
    simp [rgoodV, h]
  unfold numF soundV
  rw [if_pos hg]
  simp [asNumV]
def wholeF (a : Int) : Int := if okNum a then a.tdiv 10000 else 0
theorem wholeP_any (w : World) (a : Int) : Calls Tryz.prog 66 #[.int .i64 a] w fun e w' => e = .returned (.int .i64 (wholeF a)) ∧ Upd w w' (fun _ => False) := by
  unfold wholeF
  cases h : okNum a with
  | false => exact Whole_bad w a h
  | true =>
    obtain ⟨s, x, ea, h0, hs, hx⟩ := signed a
    have k := Whole_in w a s x h ea
    have e : a.tdiv 10000 = if s then -((x / 10000 : Nat) : Int) else ((x / 10000 : Nat) : Int) := by rw [ea]; exact tdiv_signed s x 10000
    simp only [if_true]
    rw [e]
    exact k
theorem wholeF_rng (a : Int) : -900000000000000 ≤ wholeF a ∧ wholeF a ≤ 900000000000000 := by
  unfold wholeF
  split
  · rename_i h
    have := okNum_true h
    have e1 : a.tdiv 10000 = if 0 ≤ a then a / 10000 else -((-a) / 10000) := by
      split
      · exact Int.tdiv_eq_ediv_of_nonneg (by omega)
      · have : a.tdiv 10000 = -((-a).tdiv 10000) := by rw [Int.neg_tdiv]; omega
        rw [this, Int.tdiv_eq_ediv_of_nonneg (by omega)]
    rw [e1]
    split <;> omega
  · omega

/-- An argument as data. -/
structure Ar where
  v : List Vl
  c : Int
  w : Bool
def goodA (a : Ar) : Bool := if a.w then decide (0 < a.c) && (decide (1 ≤ a.v.length) && (decide (a.v.length ≤ 4096) && decide ((a.v.length : Int).tmod a.c = 0))) else decide (a.v.length = 1) && decide (a.c = 0)
def rowsA (a : Ar) : Int := if a.w then (a.v.length : Int).tdiv a.c else 1
def colsA (a : Ar) : Int := if a.w then a.c else 1
/-- The table of the rows and columns the other way round. -/
def turnL (R C : Nat) (l : List Vl) : List Vl := (List.range (R * C)).map fun j => l.getD (j % R * C + j / R) vZero
def badF (f g : Int) : Int := if f = 0 then g else f
/-- The reader of arguments: single values. -/
def sglV (aa : List Ar) (s : Nat × Int) : Vl := match aa[s.1]? with
  | none => vZero
  | some a => if a.w then vZero else a.v.getD 0 vZero
def sglB (aa : List Ar) (s : Nat × Int) : Bool := match aa[s.1]? with
  | none => false
  | some a => !a.w
def sglS (aa : List Ar) (s : Nat × Int) : Nat × Int := match aa[s.1]? with
  | none => s
  | some a => (s.1 + 1, if a.w then badF s.2 3 else s.2)
def thgS (aa : List Ar) (s : Nat × Int) : Nat × Int :=
  ((sglS aa s).1, if goodV (sglV aa s) then (if (sglV aa s).k = 4 then badF (sglS aa s).2 (sglV aa s).f else (sglS aa s).2) else badF (sglS aa s).2 3)
noncomputable def cntV (aa : List Ar) (s : Nat × Int) (o : Int) : Int := if sglB aa s then wholeF (numF (sglV aa s)).1 else o
noncomputable def cntS (aa : List Ar) (s : Nat × Int) : Nat × Int := ((sglS aa s).1, if sglB aa s then badF (sglS aa s).2 (numF (sglV aa s)).2 else (sglS aa s).2)
def argA (aa : List Ar) (k : Nat) : Ar := aa.getD k ⟨[], 0, false⟩
def lstS (aa : List Ar) (s : Nat × Int) : Nat × Int := (s.1 + 1, if rowsA (argA aa s.1) ≠ 1 ∧ colsA (argA aa s.1) ≠ 1 then badF s.2 6 else s.2)
def wayI (m : Int) : Int := if 0 < m then 1 else if m < 0 then -1 else 0
def atV (l : List Vl) (R C row col : Int) : Vl := if row < 1 ∨ R < row ∨ col < 1 ∨ C < col then mkE 4 else l.getD ((row - 1) * C + col - 1).toNat vZero
noncomputable def matchP (aa : List Ar) : Vl × Int :=
  let s1 := thgS aa (0, 0)
  let s2 := lstS aa s1
  let p := placeV (wayI (cntV aa s2 0)) (sglV aa (0, 0)) (argA aa s1.1).v
  (if p = 0 then mkE 6 else mkN ((p : Int) * 10000), (cntS aa s2).2)
noncomputable def indexP (aa : List Ar) : Vl × Int :=
  let t := argA aa 0
  let row := cntV aa (1, 0) 0
  let s2 := cntS aa (1, 0)
  let col := cntV aa s2 1
  (if sglB aa s2 = false ∧ rowsA t = 1 then atV t.v (rowsA t) (colsA t) 1 row else atV t.v (rowsA t) (colsA t) row col, (cntS aa s2).2)
noncomputable def lookupP (aa : List Ar) (across : Bool) : Vl × Int :=
  let x := sglV aa (0, 0)
  let s1 := thgS aa (0, 0)
  let a := argA aa s1.1
  let s2 := (s1.1 + 1, s1.2)
  let col := cntV aa s2 0
  let s3 := cntS aa s2
  let m := cntV aa s3 0
  let f := (cntS aa s3).2
  let t : List Vl × Int × Int := if across ∧ f = 0 then (turnL (rowsA a).toNat (colsA a).toNat a.v, colsA a, rowsA a) else (a.v, rowsA a, colsA a)
  (if f ≠ 0 ∨ col < 1 ∨ t.2.2 < col then mkE 4 else
    let p := placeV (wayI m) x ((turnL t.2.1.toNat t.2.2.toNat t.1).take t.2.1.toNat)
    if p = 0 then mkE 6 else atV t.1 t.2.1 t.2.2 p col, f)
def besideP (aa : List Ar) : Vl × Int :=
  let x := sglV aa (0, 0)
  let s1 := thgS aa (0, 0)
  let s2 := lstS aa s1
  let s3 := lstS aa s2
  let p := placeV 1 x (argA aa s1.1).v
  (if p = 0 ∨ (argA aa s2.1).v.length < p then mkE 6 else (argA aa s2.1).v.getD (p - 1) vZero, s3.2)
noncomputable def chooseP (aa : List Ar) : Vl × Int :=
  let k := cntV aa (0, 0) 0
  let s := cntS aa (0, 0)
  let rest := aa.drop s.1
  (if k < 1 ∨ (rest.length : Int) < k then mkE 3 else
    let one := [argA rest (k - 1).toNat]
    if (thgS one (0, 0)).2 ≠ 0 then mkE (thgS one (0, 0)).2 else sglV one (0, 0), s.2)
def nROWS : List UInt8 := [82, 79, 87, 83]
def nCOLUMNS : List UInt8 := [67, 79, 76, 85, 77, 78, 83]
def nMATCH : List UInt8 := [77, 65, 84, 67, 72]
def nINDEX : List UInt8 := [73, 78, 68, 69, 88]
def nLOOKUP : List UInt8 := [76, 79, 79, 75, 85, 80]
def nVLOOKUP : List UInt8 := [86, 76, 79, 79, 75, 85, 80]
def nHLOOKUP : List UInt8 := [72, 76, 79, 79, 75, 85, 80]
def nCHOOSE : List UInt8 := [67, 72, 79, 79, 83, 69]
def takesF (n : List UInt8) : Int × Int :=
  if n = nROWS then (1, 1) else if n = nCOLUMNS then (1, 1) else if n = nMATCH then (2, 3) else if n = nINDEX then (2, 3) else if n = nLOOKUP then (3, 3) else if n = nVLOOKUP then (3, 4) else if n = nHLOOKUP then (3, 4) else if n = nCHOOSE then (2, 32) else (0, 0)
noncomputable def toldP (n : List UInt8) (aa : List Ar) : Vl × Int :=
  if n = nMATCH then matchP aa else if n = nINDEX then indexP aa else if n = nVLOOKUP then lookupP aa false else if n = nHLOOKUP then lookupP aa true else if n = nLOOKUP then besideP aa else if n = nCHOOSE then chooseP aa
  else if n = nROWS then (mkN (rowsA (argA aa 0) * 10000), 0) else (mkN (colsA (argA aa 0) * 10000), 0)
noncomputable def callP (n : List UInt8) (aa : List Ar) : Vl × Bool :=
  if (takesF n).2 = 0 then (vZero, false) else if (aa.length : Int) < (takesF n).1 ∨ (takesF n).2 < aa.length ∨ aa.all goodA = false then (mkE 3, true)
  else if (toldP n aa).2 ≠ 0 then (mkE (toldP n aa).2, true) else (soundV (toldP n aa).1, true)
/-- The reference's answer. -/
def shapeF (n : List UInt8) : List UInt8 :=
  if n = nROWS then [116] else if n = nCOLUMNS then [116] else if n = nMATCH then [120, 108, 78] else if n = nINDEX then [116, 110, 78] else if n = nLOOKUP then [120, 108, 108] else if n = nVLOOKUP then [120, 116, 110, 78] else if n = nHLOOKUP then [120, 116, 110, 78] else if n = nCHOOSE then [110] else []
noncomputable def faultA (a : Ar) (k : UInt8) : Int :=
  if k = 120 then (if a.w then 3 else (soundV (a.v.getD 0 vZero)).f) else if k = 110 ∨ k = 78 then (if a.w then 3 else (numF (a.v.getD 0 vZero)).2) else if k = 108 then (if rowsA a ≠ 1 ∧ colsA a ≠ 1 then 6 else 0) else 0
noncomputable def faultL : List Ar → List UInt8 → Int
  | a :: aa, k :: ks => if faultA a k ≠ 0 then faultA a k else faultL aa ks
  | _, _ => 0
noncomputable def wholeA (aa : List Ar) (i : Nat) (o : Int) : Int := match aa[i]? with
  | none => o
  | some a => wholeF (numF (a.v.getD 0 vZero)).1
def firstL (across : Bool) (C : Nat) (l : List Vl) : List Vl := (List.range l.length).filterMap fun i => if (across = true ∧ i < C ∨ across = false ∧ i % C = 0) then l[i]? else none
def atR (a : Ar) (row col : Int) : Vl := if row < 1 ∨ rowsA a < row ∨ col < 1 ∨ colsA a < col then mkE 4 else soundV (a.v.getD ((row - 1) * colsA a + (col - 1)).toNat vZero)
noncomputable def toldR (n : List UInt8) (aa : List Ar) : Vl :=
  let t := argA aa 0
  if n = nROWS then mkN (10000 * rowsA t) else if n = nCOLUMNS then mkN (10000 * colsA t)
  else if n = nINDEX then (if aa.length = 2 ∧ rowsA t = 1 then atR t 1 (wholeA aa 1 0) else atR t (wholeA aa 1 0) (wholeA aa 2 1))
  else if n = nMATCH then
    let p := placeV (wayI (wholeA aa 2 0)) (t.v.getD 0 vZero) (argA aa 1).v
    if p = 0 then mkE 6 else mkN (10000 * p)
  else if n = nLOOKUP then
    let p := placeV 1 (t.v.getD 0 vZero) (argA aa 1).v
    if p = 0 ∨ (argA aa 2).v.length < p then mkE 6 else soundV ((argA aa 2).v.getD (p - 1) vZero)
  else
    let u := argA aa 1
    let k := wholeA aa 2 0
    let across := decide (n = nHLOOKUP)
    if k < 1 ∨ (if across then rowsA u else colsA u) < k then mkE 4 else
      let p := placeV (wayI (wholeA aa 3 0)) (t.v.getD 0 vZero) (firstL across (colsA u).toNat u.v)
      if p = 0 then mkE 6 else if across then atR u k p else atR u p k
noncomputable def callR (n : List UInt8) (aa : List Ar) : Vl × Bool :=
  if shapeF n = [] then (vZero, false)
  else if (if n = nCHOOSE then decide (aa.length < 2) || decide (32 < aa.length) else (decide (aa.length < (shapeF n).length) && decide ((shapeF n).getD aa.length 0 ≠ 78)) || decide ((shapeF n).length < aa.length)) then (mkE 3, true)
  else if aa.all goodA = false then (mkE 3, true)
  else if faultL aa (shapeF n) ≠ 0 then (mkE (faultL aa (shapeF n)), true)
  else if n = nCHOOSE then
    let k := wholeA aa 0 0
    if k < 1 ∨ (aa.length : Int) ≤ k then (mkE 3, true)
    else if faultA (argA aa k.toNat) 120 ≠ 0 then (mkE (faultA (argA aa k.toNat) 120), true) else ((argA aa k.toNat).v.getD 0 vZero, true)
  else (toldR n aa, true)
end Go.Proofs.YtmfngdjhkpddoaaGreatDoor
/- Products, quotients, remainders, floors and rounded numbers as functions; both sides tell them (plain). -/
set_option maxRecDepth 100000
namespace Go.Proofs.YtmfngdjhkpddoaaGreatDoor
open Go.RowKit Go.Lat Go.Lib

def sgn (a : Int) : Bool := decide (a < 0)
def mulF (a b : Int) : Int × Int := if (okNum a && okNum b) = true then (numV (sgn a != sgn b) (rnd (a.natAbs * b.natAbs) 10000), numE (rnd (a.natAbs * b.natAbs) 10000)) else (0, 5)
def divF (a b : Int) : Int × Int := if (okNum a && okNum b) = true then (if b = 0 then (0, 6) else (numV (sgn a != sgn b) (rnd (a.natAbs * 10000) b.natAbs), numE (rnd (a.natAbs * 10000) b.natAbs))) else (0, 5)
def remF (a b : Int) : Int × Int := if (okNum a && okNum b) = true then (if b = 0 then (0, 6) else (modV (sgn a) (sgn b) a.natAbs b.natAbs, 0)) else (0, 5)
def flrF (a : Int) : Int := if okNum a = true then a - modV (sgn a) false a.natAbs 10000 else 0
def rndF (a p : Int) : Int × Int := if okNum a = true then (if p < -15 ∨ 15 < p then (0, 2) else if 4 ≤ p then (a, 0) else (numV (sgn a) (rnd a.natAbs (10 ^ (4 - p).toNat) * 10 ^ (4 - p).toNat), numE (rnd a.natAbs (10 ^ (4 - p).toNat) * 10 ^ (4 - p).toNat))) else (0, 5)
theorem mulB (a b : Int) :
    (∀ w, Calls Tryz.prog 86 #[.int .i64 a, .int .i64 b] w fun e w' => e = .returned (.tuple #[.int .i64 (mulF a b).1, .int .i64 (mulF a b).2]) ∧ Upd w w' (fun _ => False)) ∧
    (∀ w, Calls Tryz.prog 50 #[.int .i64 a, .int .i64 b] w fun e w' => e = .returned (.tuple #[.int .i64 (mulF a b).1, .int .i64 (mulF a b).2]) ∧ Upd w w' (fun _ => False)) := by
  unfold mulF
  cases h : (okNum a && okNum b) with
  | false =>
    simp only [Bool.false_eq_true, if_false]
    exact ⟨fun w => Mul_bad w a b h, fun w => RefMul_bad w a b h⟩
  | true =>
    simp only [if_true]
    simp only [Bool.and_eq_true] at h
    have ba := okNum_true h.1
    have bb := okNum_true h.2
    obtain ⟨s, x, ea, h0, hs, hx⟩ := signed a
    obtain ⟨t, y, eb, k0, ht, hy⟩ := signed b
    unfold sgn
    rw [hs, ht, ← hx, ← hy]
    exact ⟨fun w => Mul_in w a b h.1 h.2 s t x y ea eb h0 k0 (by omega) (by omega), fun w => RefMul_in w a b h.1 h.2 s t x y ea eb hs ht (by omega) (by omega)⟩
theorem divB (a b : Int) :
    (∀ w, Calls Tryz.prog 60 #[.int .i64 a, .int .i64 b] w fun e w' => e = .returned (.tuple #[.int .i64 (divF a b).1, .int .i64 (divF a b).2]) ∧ Upd w w' (fun _ => False)) ∧
    (∀ w, Calls Tryz.prog 51 #[.int .i64 a, .int .i64 b] w fun e w' => e = .returned (.tuple #[.int .i64 (divF a b).1, .int .i64 (divF a b).2]) ∧ Upd w w' (fun _ => False)) := by
  unfold divF
  cases h : (okNum a && okNum b) with
  | false =>
    simp only [Bool.false_eq_true, if_false]
    exact ⟨fun w => Div_bad w a b h, fun w => RefDiv_bad w a b h⟩
  | true =>
    simp only [if_true]
    simp only [Bool.and_eq_true] at h
    have ba := okNum_true h.1
    have bb := okNum_true h.2
    by_cases hb0 : b = 0
    · subst hb0
      rw [if_pos rfl]
      exact ⟨fun w => Div_zero w a h.1, fun w => RefDiv_zero w a h.1⟩
    rw [if_neg hb0]
    obtain ⟨s, x, ea, h0, hs, hx⟩ := signed a
    obtain ⟨t, y, eb, k0, ht, hy⟩ := signed b
    unfold sgn
    rw [hs, ht, ← hx, ← hy]
    exact ⟨fun w => Div_in w a b h.1 h.2 s t x y ea eb (by omega) h0 k0 (by omega) (by omega), fun w => RefDiv_in w a b h.1 h.2 s t x y ea eb (by omega) hs ht (by omega) (by omega)⟩
theorem remB (a b : Int) :
    (∀ w, Calls Tryz.prog 71 #[.int .i64 a, .int .i64 b] w fun e w' => e = .returned (.tuple #[.int .i64 (remF a b).1, .int .i64 (remF a b).2]) ∧ Upd w w' (fun _ => False)) ∧
    (∀ w, Calls Tryz.prog 105 #[.int .i64 a, .int .i64 b] w fun e w' => e = .returned (.tuple #[.int .i64 (remF a b).1, .int .i64 (remF a b).2]) ∧ Upd w w' (fun _ => False)) := by
  unfold remF
  cases h : (okNum a && okNum b) with
  | false =>
    simp only [Bool.false_eq_true, if_false]
    exact ⟨fun w => Mod_bad w a b h, fun w => RefMod_bad w a b h⟩
  | true =>
    simp only [if_true]
    simp only [Bool.and_eq_true] at h
    by_cases hb0 : b = 0
    · subst hb0
      rw [if_pos rfl]
      exact ⟨fun w => Mod_zero w a h.1, fun w => RefMod_zero w a h.1⟩
    rw [if_neg hb0]
    obtain ⟨s, x, ea, h0, hs, hx⟩ := signed a
    obtain ⟨t, y, eb, k0, ht, hy⟩ := signed b
    unfold sgn
    rw [hs, ht, ← hx, ← hy]
    exact ⟨fun w => Mod_in w a b h.1 h.2 s t x y ea eb (by omega) h0, fun w => RefMod_in w a b h.1 h.2 s t x y ea eb (by omega) hs ht⟩
theorem flrB (a : Int) :
    (∀ w, Calls Tryz.prog 64 #[.int .i64 a] w fun e w' => e = .returned (.int .i64 (flrF a)) ∧ Upd w w' (fun _ => False)) ∧
    (∀ w, Calls Tryz.prog 101 #[.int .i64 a] w fun e w' => e = .returned (.int .i64 (flrF a)) ∧ Upd w w' (fun _ => False)) := by
  unfold flrF
  cases h : okNum a with
  | false =>
    simp only [Bool.false_eq_true, if_false]
    exact ⟨fun w => Floor_bad w a h, fun w => RefFloor_bad w a h⟩
  | true =>
    simp only [if_true]
    obtain ⟨s, x, ea, h0, hs, hx⟩ := signed a
    unfold sgn
    rw [hs, ← hx]
    exact ⟨fun w => Floor_in w a s x h ea h0, fun w => RefFloor_in w a s x h ea hs⟩
theorem rndB (a p : Int) :
    (∀ w, Calls Tryz.prog 122 #[.int .i64 a, .int .i64 p] w fun e w' => e = .returned (.tuple #[.int .i64 (rndF a p).1, .int .i64 (rndF a p).2]) ∧ Upd w w' (fun _ => False)) ∧
    (∀ w, Calls Tryz.prog 104 #[.int .i64 a, .int .i64 p] w fun e w' => e = .returned (.tuple #[.int .i64 (rndF a p).1, .int .i64 (rndF a p).2]) ∧ Upd w w' (fun _ => False)) := by
  unfold rndF
  cases h : okNum a with
  | false =>
    simp only [Bool.false_eq_true, if_false]
    exact ⟨fun w => Round_bad w a p h, fun w => RefRound_bad w a p h⟩
  | true =>
    simp only [if_true]
    by_cases hp : p < -15 ∨ 15 < p
    · rw [if_pos hp]
      exact ⟨fun w => Round_arg w a p h hp, fun w => RefRound_arg w a p h hp⟩
    rw [if_neg hp]
    by_cases h4 : 4 ≤ p
    · rw [if_pos h4]
      exact ⟨fun w => Round_same w a p h h4 (by omega), fun w => RefRound_same w a p h h4 (by omega)⟩
    rw [if_neg h4]
    obtain ⟨s, x, ea, h0, hs, hx⟩ := signed a
    have ba := okNum_true h
    obtain ⟨e, he⟩ : ∃ e : Nat, (4 - p).toNat = e := ⟨_, rfl⟩
    have he2 : (e : Int) = 4 - p := by omega
    have hR := fun w => Round_in w s x (by omega) h0 p (by omega) (by omega) e he2
    rw [← ea] at hR
    unfold sgn
    rw [hs, ← hx, he]
    exact ⟨hR, fun w => RefRound_in w a h s x ea hs (by omega) p (by omega) (by omega) e he2⟩
end Go.Proofs.YtmfngdjhkpddoaaGreatDoor
