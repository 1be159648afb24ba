/- The walks of the reference's Signs, and of Show at every value, both sides. -/
import Derived.Test.YtmfngdjhkpddoaaGreatDoorJ17
import Derived.Test.YtmfngdjhkpddoaaGreatDoorJ18
import Derived.Lib.TrimByte
/- The walks of the reference's Signs, and of Show at every value, both sides. -/
set_option maxRecDepth 100000
namespace Go.Proofs.YtmfngdjhkpddoaaGreatDoor
open Go.RowKit Go.Lat Go.Lib

theorem sign_at (f : Int) (h : ¬ (1 ≤ f ∧ f ≤ 8)) : signT f = [] := by
  unfold signT okFail
  rw [if_neg]
  simp
  omega
set_option maxHeartbeats 6400000 in
theorem RSigns_any (w : World) (f : Int) : Calls Tryz.prog 134 #[.int .i64 f] w fun e w' => e = .returned (enS (signT f)) ∧ Upd w w' (fun _ => False) := by
  by_cases h1 : f < 1
  · rw [sign_at f (by omega)]
    have d1 : decide (f < 1) = true := by simpa using h1
    go_enter Tryz.func134, Tryz.ntmps134
    go_wp2_with fail
    go_ret
    exact ⟨rfl, (Upd.refl w _).alloc _⟩
  · by_cases h2 : f > 8
    · rw [sign_at f (by omega)]
      have d1 : decide (f < 1) = false := by simpa using h1
      have d2 : decide (f > 8) = true := by simpa using h2
      have d3 : decide (8 < f) = true := by simpa using h2
      go_enter Tryz.func134, Tryz.ntmps134
      go_wp2_with fail
      go_ret
      exact ⟨rfl, (Upd.refl w _).alloc _⟩
    · have h : f = 1 ∨ f = 2 ∨ f = 3 ∨ f = 4 ∨ f = 5 ∨ f = 6 ∨ f = 7 ∨ f = 8 := by omega
      clear h1 h2
      rcases h with rfl | rfl | rfl | rfl | rfl | rfl | rfl | rfl
      all_goals (go_enter Tryz.func134, Tryz.ntmps134)
      all_goals (go_wp2_with fail)
      all_goals go_ret
      all_goals exact ⟨by rfl, (Upd.refl w _).alloc _⟩

theorem soundV_kind (x : Vl) : (soundV x).k = 0 ∨ (soundV x).k = 1 ∨ (soundV x).k = 2 ∨ (soundV x).k = 3 ∨ (soundV x).k = 4 := by
  by_cases h : (soundV x).k = 4
  · omega
  · have := soundV_plain h
    unfold plainK at this
    omega
/-- A value as a reader sees it, where tx is its number's text. -/
def showV (y : Vl) (tx : List UInt8) : List UInt8 :=
  if y.k = 0 then [] else if y.k = 1 then tx else if y.k = 2 then y.t else if y.k = 3 then (if y.b then [84, 82, 85, 69] else [70, 65, 76, 83, 69]) else signT y.f
set_option maxHeartbeats 1600000 in
theorem Show_k1 (w : World) (hp : Pow w) (x : Vl) (hx : x.ok) (n : Int) (t : List UInt8) (b : Bool) (f : Int) (h : soundV x = ⟨1, n, t, b, f⟩) (tx : List UInt8) (T1 : ∀ w, Pow w → Calls Tryz.prog 168 #[.int .i64 n] w fun e w' => e = .returned (enS tx) ∧ Upd w w' (fun _ => False)) :
    Calls Tryz.prog 127 #[x.val] w fun e w' => e = .returned (enS tx) ∧ Upd w w' (fun _ => False) := by
  have SA := fun w => sound_any w x hx
  rw [h] at SA
  obtain ⟨k0, n0, t0, b0, e0⟩ := x
  unfold Vl.val at SA ⊢
  simp only at SA ⊢
  clear h
  have HG := hide hp
  clear hp
  go_enter Tryz.func127, Tryz.ntmps127
  go_wp2_with fail
  refine Calls.mono (SA _) ?_
  rintro e w1 ⟨rfl, u1⟩
  have bX := u1.get (Vnew1 w (.cells (Vl.mk k0 n0 t0 b0 e0).cs 26)) id
  obtain ⟨c0, c1, c2, c3, c4⟩ := cells5 bX
  have xl := lt_at bX
  have f0 := free_at bX 0
  have f1 := free_at bX 1
  have f2 := free_at bX 2
  have f3 := free_at bX 3
  have f4 := free_at bX 4
  have HX := hide bX
  have HU := hide (((Upd.refl w _).alloc _).then u1 (fun _ _ => id))
  clear bX u1 SA
  go_wp2_with fail
  have UU := hide (upd5 (W := w1) HU.out (g := w.heap.size) (Nat.le_refl _) (.int .i64 1) (.int .i64 n) (.string ⟨t.toArray⟩) (.bool b) (.int .i64 f))
  have HS2 := HG.out.upd UU.out id
  refine Calls.mono (T1 _ HS2) ?_
  rintro e w2 ⟨rfl, u2⟩
  have HU2 := hide (UU.out.then u2 (fun _ _ => id))
  clear u2 HS2
  go_wp2_with fail
  (try simp only [Exit.inBlock, Exit.then])
  go_ret
  exact ⟨rfl, HU2.out⟩
set_option maxHeartbeats 1600000 in
theorem Show_k0 (w : World) (x : Vl) (hx : x.ok) (n : Int) (t : List UInt8) (b : Bool) (f : Int) (h : soundV x = ⟨0, n, t, b, f⟩) :
    Calls Tryz.prog 127 #[x.val] w fun e w' => e = .returned (enS []) ∧ Upd w w' (fun _ => False) := by
  have SA := fun w => sound_any w x hx
  rw [h] at SA
  obtain ⟨k0, n0, t0, b0, e0⟩ := x
  unfold Vl.val at SA ⊢
  simp only at SA ⊢
  clear h
  go_enter Tryz.func127, Tryz.ntmps127
  go_wp2_with fail
  refine Calls.mono (SA _) ?_
  rintro e w1 ⟨rfl, u1⟩
  have bX := u1.get (Vnew1 w (.cells (Vl.mk k0 n0 t0 b0 e0).cs 26)) id
  obtain ⟨c0, c1, c2, c3, c4⟩ := cells5 bX
  have xl := lt_at bX
  have f0 := free_at bX 0
  have f1 := free_at bX 1
  have f2 := free_at bX 2
  have f3 := free_at bX 3
  have f4 := free_at bX 4
  have HX := hide bX
  have HU := hide (((Upd.refl w _).alloc _).then u1 (fun _ _ => id))
  clear bX u1 SA
  go_wp2_with fail
  have UU := hide (upd5 (W := w1) HU.out (g := w.heap.size) (Nat.le_refl _) (.int .i64 0) (.int .i64 n) (.string ⟨t.toArray⟩) (.bool b) (.int .i64 f))
  (try simp only [Exit.inBlock, Exit.then])
  go_ret
  exact ⟨rfl, UU.out⟩
set_option maxHeartbeats 1600000 in
theorem Show_k2 (w : World) (x : Vl) (hx : x.ok) (n : Int) (t : List UInt8) (b : Bool) (f : Int) (h : soundV x = ⟨2, n, t, b, f⟩) :
    Calls Tryz.prog 127 #[x.val] w fun e w' => e = .returned (enS t) ∧ Upd w w' (fun _ => False) := by
  have SA := fun w => sound_any w x hx
  rw [h] at SA
  obtain ⟨k0, n0, t0, b0, e0⟩ := x
  unfold Vl.val at SA ⊢
  simp only at SA ⊢
  clear h
  go_enter Tryz.func127, Tryz.ntmps127
  go_wp2_with fail
  refine Calls.mono (SA _) ?_
  rintro e w1 ⟨rfl, u1⟩
  have bX := u1.get (Vnew1 w (.cells (Vl.mk k0 n0 t0 b0 e0).cs 26)) id
  obtain ⟨c0, c1, c2, c3, c4⟩ := cells5 bX
  have xl := lt_at bX
  have f0 := free_at bX 0
  have f1 := free_at bX 1
  have f2 := free_at bX 2
  have f3 := free_at bX 3
  have f4 := free_at bX 4
  have HX := hide bX
  have HU := hide (((Upd.refl w _).alloc _).then u1 (fun _ _ => id))
  clear bX u1 SA
  go_wp2_with fail
  have UU := hide (upd5 (W := w1) HU.out (g := w.heap.size) (Nat.le_refl _) (.int .i64 2) (.int .i64 n) (.string ⟨t.toArray⟩) (.bool b) (.int .i64 f))
  (try simp only [Exit.inBlock, Exit.then])
  go_ret
  exact ⟨rfl, UU.out⟩
set_option maxHeartbeats 1600000 in
theorem Show_k3t (w : World) (x : Vl) (hx : x.ok) (n : Int) (t : List UInt8) (f : Int) (h : soundV x = ⟨3, n, t, true, f⟩) :
    Calls Tryz.prog 127 #[x.val] w fun e w' => e = .returned (enS [84, 82, 85, 69]) ∧ Upd w w' (fun _ => False) := by
  have SA := fun w => sound_any w x hx
  rw [h] at SA
  obtain ⟨k0, n0, t0, b0, e0⟩ := x
  unfold Vl.val at SA ⊢
  simp only at SA ⊢
  clear h
  go_enter Tryz.func127, Tryz.ntmps127
  go_wp2_with fail
  refine Calls.mono (SA _) ?_
  rintro e w1 ⟨rfl, u1⟩
  have bX := u1.get (Vnew1 w (.cells (Vl.mk k0 n0 t0 b0 e0).cs 26)) id
  obtain ⟨c0, c1, c2, c3, c4⟩ := cells5 bX
  have xl := lt_at bX
  have f0 := free_at bX 0
  have f1 := free_at bX 1
  have f2 := free_at bX 2
  have f3 := free_at bX 3
  have f4 := free_at bX 4
  have HX := hide bX
  have HU := hide (((Upd.refl w _).alloc _).then u1 (fun _ _ => id))
  clear bX u1 SA
  go_wp2_with fail
  have UU := hide (upd5 (W := w1) HU.out (g := w.heap.size) (Nat.le_refl _) (.int .i64 3) (.int .i64 n) (.string ⟨t.toArray⟩) (.bool true) (.int .i64 f))
  (try simp only [Exit.inBlock, Exit.then])
  go_ret
  exact ⟨rfl, UU.out⟩
set_option maxHeartbeats 1600000 in
theorem Show_k3f (w : World) (x : Vl) (hx : x.ok) (n : Int) (t : List UInt8) (f : Int) (h : soundV x = ⟨3, n, t, false, f⟩) :
    Calls Tryz.prog 127 #[x.val] w fun e w' => e = .returned (enS [70, 65, 76, 83, 69]) ∧ Upd w w' (fun _ => False) := by
  have SA := fun w => sound_any w x hx
  rw [h] at SA
  obtain ⟨k0, n0, t0, b0, e0⟩ := x
  unfold Vl.val at SA ⊢
  simp only at SA ⊢
  clear h
  go_enter Tryz.func127, Tryz.ntmps127
  go_wp2_with fail
  refine Calls.mono (SA _) ?_
  rintro e w1 ⟨rfl, u1⟩
  have bX := u1.get (Vnew1 w (.cells (Vl.mk k0 n0 t0 b0 e0).cs 26)) id
  obtain ⟨c0, c1, c2, c3, c4⟩ := cells5 bX
  have xl := lt_at bX
  have f0 := free_at bX 0
  have f1 := free_at bX 1
  have f2 := free_at bX 2
  have f3 := free_at bX 3
  have f4 := free_at bX 4
  have HX := hide bX
  have HU := hide (((Upd.refl w _).alloc _).then u1 (fun _ _ => id))
  clear bX u1 SA
  go_wp2_with fail
  have UU := hide (upd5 (W := w1) HU.out (g := w.heap.size) (Nat.le_refl _) (.int .i64 3) (.int .i64 n) (.string ⟨t.toArray⟩) (.bool false) (.int .i64 f))
  (try simp only [Exit.inBlock, Exit.then])
  go_ret
  exact ⟨rfl, UU.out⟩
theorem Show_any (w : World) (hg : Sig w) (hp : Pow w) (x : Vl) (hx : x.ok) (tx : List UInt8) (T1 : ∀ w, Pow w → Calls Tryz.prog 168 #[.int .i64 (soundV x).n] w fun e w' => e = .returned (enS tx) ∧ Upd w w' (fun _ => False)) :
    Calls Tryz.prog 127 #[x.val] w fun e w' => e = .returned (enS (showV (soundV x) tx)) ∧ Upd w w' (fun _ => False) := by
  obtain ⟨y, hy⟩ : ∃ y, soundV x = y := ⟨_, rfl⟩
  have hk := soundV_kind x
  rw [hy] at T1 hk ⊢
  obtain ⟨k, n, t, b, f⟩ := y
  simp only at T1 hk
  rcases hk with rfl | rfl | rfl | rfl | rfl
  · exact Show_k0 w x hx n t b f hy
  · exact Show_k1 w hp x hx n t b f hy tx T1
  · exact Show_k2 w x hx n t b f hy
  · cases b with
    | true => exact Show_k3t w x hx n t f hy
    | false => exact Show_k3f w x hx n t f hy
  · exact ShowE_any w hg x hx n t b f hy
set_option maxHeartbeats 1600000 in
theorem RShow_k1 (w : World) (x : Vl) (n : Int) (t : List UInt8) (b : Bool) (f : Int) (h : soundV x = ⟨1, n, t, b, f⟩) (tx : List UInt8) (T1 : ∀ w, Calls Tryz.prog 133 #[.int .i64 n] w fun e w' => e = .returned (enS tx) ∧ Upd w w' (fun _ => False)) :
    Calls Tryz.prog 91 #[x.val] w fun e w' => e = .returned (enS tx) ∧ Upd w w' (fun _ => False) := by
  have SA := fun w => RSound_any w x
  rw [h] at SA
  obtain ⟨k0, n0, t0, b0, e0⟩ := x
  unfold Vl.val at SA ⊢
  simp only at SA ⊢
  clear h
  go_enter Tryz.func91, Tryz.ntmps91
  go_wp2_with fail
  refine Calls.mono (SA _) ?_
  rintro e w1 ⟨rfl, u1⟩
  have bX := u1.get (Vnew1 w (.cells (Vl.mk k0 n0 t0 b0 e0).cs 36)) id
  obtain ⟨c0, c1, c2, c3, c4⟩ := cells5 bX
  have xl := lt_at bX
  have f0 := free_at bX 0
  have f1 := free_at bX 1
  have f2 := free_at bX 2
  have f3 := free_at bX 3
  have f4 := free_at bX 4
  have HX := hide bX
  have HU := hide (((Upd.refl w _).alloc _).then u1 (fun _ _ => id))
  clear bX u1 SA
  go_wp2_with fail
  have UU := hide (upd5 (W := w1) HU.out (g := w.heap.size) (Nat.le_refl _) (.int .i64 1) (.int .i64 n) (.string ⟨t.toArray⟩) (.bool b) (.int .i64 f))
  refine Calls.mono (T1 _) ?_
  rintro e w2 ⟨rfl, u2⟩
  have HU2 := hide (UU.out.then u2 (fun _ _ => id))
  clear u2
  go_wp2_with fail
  (try simp only [Exit.inBlock, Exit.then])
  go_ret
  exact ⟨rfl, HU2.out⟩
set_option maxHeartbeats 1600000 in
theorem RShow_k0 (w : World) (x : Vl) (n : Int) (t : List UInt8) (b : Bool) (f : Int) (h : soundV x = ⟨0, n, t, b, f⟩) :
    Calls Tryz.prog 91 #[x.val] w fun e w' => e = .returned (enS []) ∧ Upd w w' (fun _ => False) := by
  have SA := fun w => RSound_any w x
  rw [h] at SA
  obtain ⟨k0, n0, t0, b0, e0⟩ := x
  unfold Vl.val at SA ⊢
  simp only at SA ⊢
  clear h
  go_enter Tryz.func91, Tryz.ntmps91
  go_wp2_with fail
  refine Calls.mono (SA _) ?_
  rintro e w1 ⟨rfl, u1⟩
  have bX := u1.get (Vnew1 w (.cells (Vl.mk k0 n0 t0 b0 e0).cs 36)) id
  obtain ⟨c0, c1, c2, c3, c4⟩ := cells5 bX
  have xl := lt_at bX
  have f0 := free_at bX 0
  have f1 := free_at bX 1
  have f2 := free_at bX 2
  have f3 := free_at bX 3
  have f4 := free_at bX 4
  have HX := hide bX
  have HU := hide (((Upd.refl w _).alloc _).then u1 (fun _ _ => id))
  clear bX u1 SA
  go_wp2_with fail
  have UU := hide (upd5 (W := w1) HU.out (g := w.heap.size) (Nat.le_refl _) (.int .i64 0) (.int .i64 n) (.string ⟨t.toArray⟩) (.bool b) (.int .i64 f))
  (try simp only [Exit.inBlock, Exit.then])
  go_ret
  exact ⟨rfl, UU.out⟩
set_option maxHeartbeats 1600000 in
theorem RShow_k2 (w : World) (x : Vl) (n : Int) (t : List UInt8) (b : Bool) (f : Int) (h : soundV x = ⟨2, n, t, b, f⟩) :
    Calls Tryz.prog 91 #[x.val] w fun e w' => e = .returned (enS t) ∧ Upd w w' (fun _ => False) := by
  have SA := fun w => RSound_any w x
  rw [h] at SA
  obtain ⟨k0, n0, t0, b0, e0⟩ := x
  unfold Vl.val at SA ⊢
  simp only at SA ⊢
  clear h
  go_enter Tryz.func91, Tryz.ntmps91
  go_wp2_with fail
  refine Calls.mono (SA _) ?_
  rintro e w1 ⟨rfl, u1⟩
  have bX := u1.get (Vnew1 w (.cells (Vl.mk k0 n0 t0 b0 e0).cs 36)) id
  obtain ⟨c0, c1, c2, c3, c4⟩ := cells5 bX
  have xl := lt_at bX
  have f0 := free_at bX 0
  have f1 := free_at bX 1
  have f2 := free_at bX 2
  have f3 := free_at bX 3
  have f4 := free_at bX 4
  have HX := hide bX
  have HU := hide (((Upd.refl w _).alloc _).then u1 (fun _ _ => id))
  clear bX u1 SA
  go_wp2_with fail
  have UU := hide (upd5 (W := w1) HU.out (g := w.heap.size) (Nat.le_refl _) (.int .i64 2) (.int .i64 n) (.string ⟨t.toArray⟩) (.bool b) (.int .i64 f))
  (try simp only [Exit.inBlock, Exit.then])
  go_ret
  exact ⟨rfl, UU.out⟩
set_option maxHeartbeats 1600000 in
theorem RShow_k3t (w : World) (x : Vl) (n : Int) (t : List UInt8) (f : Int) (h : soundV x = ⟨3, n, t, true, f⟩) :
    Calls Tryz.prog 91 #[x.val] w fun e w' => e = .returned (enS [84, 82, 85, 69]) ∧ Upd w w' (fun _ => False) := by
  have SA := fun w => RSound_any w x
  rw [h] at SA
  obtain ⟨k0, n0, t0, b0, e0⟩ := x
  unfold Vl.val at SA ⊢
  simp only at SA ⊢
  clear h
  go_enter Tryz.func91, Tryz.ntmps91
  go_wp2_with fail
  refine Calls.mono (SA _) ?_
  rintro e w1 ⟨rfl, u1⟩
  have bX := u1.get (Vnew1 w (.cells (Vl.mk k0 n0 t0 b0 e0).cs 36)) id
  obtain ⟨c0, c1, c2, c3, c4⟩ := cells5 bX
  have xl := lt_at bX
  have f0 := free_at bX 0
  have f1 := free_at bX 1
  have f2 := free_at bX 2
  have f3 := free_at bX 3
  have f4 := free_at bX 4
  have HX := hide bX
  have HU := hide (((Upd.refl w _).alloc _).then u1 (fun _ _ => id))
  clear bX u1 SA
  go_wp2_with fail
  have UU := hide (upd5 (W := w1) HU.out (g := w.heap.size) (Nat.le_refl _) (.int .i64 3) (.int .i64 n) (.string ⟨t.toArray⟩) (.bool true) (.int .i64 f))
  (try simp only [Exit.inBlock, Exit.then])
  go_ret
  exact ⟨rfl, UU.out⟩
set_option maxHeartbeats 1600000 in
theorem RShow_k3f (w : World) (x : Vl) (n : Int) (t : List UInt8) (f : Int) (h : soundV x = ⟨3, n, t, false, f⟩) :
    Calls Tryz.prog 91 #[x.val] w fun e w' => e = .returned (enS [70, 65, 76, 83, 69]) ∧ Upd w w' (fun _ => False) := by
  have SA := fun w => RSound_any w x
  rw [h] at SA
  obtain ⟨k0, n0, t0, b0, e0⟩ := x
  unfold Vl.val at SA ⊢
  simp only at SA ⊢
  clear h
  go_enter Tryz.func91, Tryz.ntmps91
  go_wp2_with fail
  refine Calls.mono (SA _) ?_
  rintro e w1 ⟨rfl, u1⟩
  have bX := u1.get (Vnew1 w (.cells (Vl.mk k0 n0 t0 b0 e0).cs 36)) id
  obtain ⟨c0, c1, c2, c3, c4⟩ := cells5 bX
  have xl := lt_at bX
  have f0 := free_at bX 0
  have f1 := free_at bX 1
  have f2 := free_at bX 2
  have f3 := free_at bX 3
  have f4 := free_at bX 4
  have HX := hide bX
  have HU := hide (((Upd.refl w _).alloc _).then u1 (fun _ _ => id))
  clear bX u1 SA
  go_wp2_with fail
  have UU := hide (upd5 (W := w1) HU.out (g := w.heap.size) (Nat.le_refl _) (.int .i64 3) (.int .i64 n) (.string ⟨t.toArray⟩) (.bool false) (.int .i64 f))
  (try simp only [Exit.inBlock, Exit.then])
  go_ret
  exact ⟨rfl, UU.out⟩
set_option maxHeartbeats 1600000 in
theorem RShow_k4 (w : World) (x : Vl) (n : Int) (t : List UInt8) (b : Bool) (f : Int) (h : soundV x = ⟨4, n, t, b, f⟩) :
    Calls Tryz.prog 91 #[x.val] w fun e w' => e = .returned (enS (signT f)) ∧ Upd w w' (fun _ => False) := by
  have ST := fun w => RSigns_any w f
  generalize signT f = zz at ST ⊢
  have SA := fun w => RSound_any w x
  rw [h] at SA
  obtain ⟨k0, n0, t0, b0, e0⟩ := x
  unfold Vl.val at SA ⊢
  simp only at SA ⊢
  clear h
  go_enter Tryz.func91, Tryz.ntmps91
  go_wp2_with fail
  refine Calls.mono (SA _) ?_
  rintro e w1 ⟨rfl, u1⟩
  have bX := u1.get (Vnew1 w (.cells (Vl.mk k0 n0 t0 b0 e0).cs 36)) id
  obtain ⟨c0, c1, c2, c3, c4⟩ := cells5 bX
  have xl := lt_at bX
  have f0 := free_at bX 0
  have f1 := free_at bX 1
  have f2 := free_at bX 2
  have f3 := free_at bX 3
  have f4 := free_at bX 4
  have HX := hide bX
  have HU := hide (((Upd.refl w _).alloc _).then u1 (fun _ _ => id))
  clear bX u1 SA
  go_wp2_with fail
  have UU := hide (upd5 (W := w1) HU.out (g := w.heap.size) (Nat.le_refl _) (.int .i64 4) (.int .i64 n) (.string ⟨t.toArray⟩) (.bool b) (.int .i64 f))
  refine Calls.mono (ST _) ?_
  rintro e w2 ⟨rfl, u2⟩
  have HU2 := hide (UU.out.then u2 (fun _ _ => id))
  clear u2
  go_wp2_with fail
  (try simp only [Exit.inBlock, Exit.then])
  go_ret
  exact ⟨rfl, HU2.out⟩
theorem RShow_any (w : World) (x : Vl) (tx : List UInt8) (T1 : ∀ w, Calls Tryz.prog 133 #[.int .i64 (soundV x).n] w fun e w' => e = .returned (enS tx) ∧ Upd w w' (fun _ => False)) :
    Calls Tryz.prog 91 #[x.val] w fun e w' => e = .returned (enS (showV (soundV x) tx)) ∧ Upd w w' (fun _ => False) := by
  obtain ⟨y, hy⟩ : ∃ y, soundV x = y := ⟨_, rfl⟩
  have hk := soundV_kind x
  rw [hy] at T1 hk ⊢
  obtain ⟨k, n, t, b, f⟩ := y
  simp only at T1 hk
  rcases hk with rfl | rfl | rfl | rfl | rfl
  · exact RShow_k0 w x n t b f hy
  · exact RShow_k1 w x n t b f hy tx T1
  · exact RShow_k2 w x n t b f hy
  · cases b with
    | true => exact RShow_k3t w x n t f hy
    | false => exact RShow_k3f w x n t f hy
  · exact RShow_k4 w x n t b f hy
end Go.Proofs.YtmfngdjhkpddoaaGreatDoor
/- Plain laws: blanks at both ends; a word that says true, or false, in small letters and in great ones. -/
set_option maxRecDepth 100000
namespace Go.Proofs.YtmfngdjhkpddoaaGreatDoor
open Go.RowKit Go.Lat Go.Lib

theorem trimR_cons (a : UInt8) (l : List UInt8) (c : UInt8) : trimRightB (a :: l) c = if a = c ∧ trimRightB l c = [] then [] else a :: trimRightB l c := by
  unfold trimRightB
  rw [List.reverse_cons, List.dropWhile_append]
  by_cases h : (l.reverse.dropWhile (· == c)) = []
  · rw [h]
    by_cases ha : a = c
    · simp [ha]
    · simp [ha]
  · rw [if_neg (by simpa using h), if_neg (by simp [h])]
    simp
theorem trim_swap (l : List UInt8) (c : UInt8) : trimRightB (trimLeftB l c) c = trimB l c := by
  unfold trimB
  induction l with
  | nil => rfl
  | cons a l ih =>
    by_cases ha : a = c
    · subst ha
      have e : trimLeftB (a :: l) a = trimLeftB l a := by simp [trimLeftB]
      rw [e, ih, trimR_cons]
      by_cases h : trimRightB l a = []
      · rw [if_pos ⟨rfl, h⟩, h]
      · rw [if_neg (by simp [h])]
        simp [trimLeftB]
    · have e : trimLeftB (a :: l) c = a :: l := by simp [trimLeftB, ha]
      rw [e, trimR_cons, if_neg (by simp [ha])]
      simp [trimLeftB, ha]

def lTrue : List UInt8 := [116, 114, 117, 101]
def lFalse : List UInt8 := [102, 97, 108, 115, 101]
end Go.Proofs.YtmfngdjhkpddoaaGreatDoor
/- The walk of the reference's Bare; strings.Trim at a blank. -/
set_option maxRecDepth 100000
namespace Go.Proofs.YtmfngdjhkpddoaaGreatDoor
open Go.RowKit Go.Lat Go.Lib

theorem strings_Trim32 (t : List UInt8) (ht : t.length ≤ 1000000) (w : World) : Calls Tryz.prog 110 #[enS t, .string ⟨#[32]⟩] w fun e w' => e = .returned (enS (trimB t 32)) ∧ Upd w w' (fun _ => False) := by
  refine Calls.mono (Tryz.strings_Trim_one ⟨t.toArray⟩ 32 (by decide) w (by have : (⟨t.toArray⟩ : ByteArray).size = t.length := rfl; omega)) ?_
  rintro e w' ⟨rfl, hw⟩
  refine ⟨rfl, ?_⟩
  rcases hw with rfl | rfl
  · exact Upd.refl _ _
  · exact (Upd.refl _ _).drew

theorem getB {z : ByteArray} {k : Nat} (h : k < z.size) : z.data.toList[k]? = some z[k] := by
  rw [List.getElem?_eq_getElem (by simpa using h)]
  rfl
theorem drop1 (z : ByteArray) : (z.extract 1 z.size).data.toList = z.data.toList.drop 1 := by
  simp only [ByteArray.data_extract, Array.toList_extract, List.extract_eq_take_drop]
  rw [List.take_of_length_le]
  simp
theorem take1 (z : ByteArray) (m : Nat) : (z.extract 0 m).data.toList = z.data.toList.take m := by
  simp [ByteArray.data_extract, List.extract_eq_take_drop]

set_option maxHeartbeats 1600000 in
theorem Bare_any (w : World) (t : List UInt8) (ht : t.length ≤ 1000000) : Calls Tryz.prog 93 #[enS t] w fun e w' => e = .returned (enS (trimB t 32)) ∧ Upd w w' (fun _ => False) := by
  rw [← trim_swap]
  have HT := hide ht
  clear ht
  go_enter Tryz.func93, Tryz.ntmps93
  go_wp2_with fail
  go_loopg [0] t.length (fun q sv wr => wr = w ∧ ∃ (z : ByteArray) (i : Nat), sv = .string z ∧ z.data.toList = t.drop i ∧ i ≤ t.length ∧ i + q = t.length ∧ ∀ (j : Nat) b, j < i → t[j]? = some b → b = 32)
  case atStart => exact ⟨rfl, ⟨t.toArray⟩, 0, rfl, by simp, by omega, by omega, fun j b hj => by omega⟩
  case round =>
    obtain ⟨hw, z, i, rfl, hz, hi, hq, hall⟩ := hrel
    replace hw := hw.symm
    subst hw
    have hzs : z.size = t.length - i := by rw [show z.size = z.data.toList.length from rfl, hz, List.length_drop]
    have HZL : Hid (z.size ≤ 1000000) := hide (by have := HT.out; omega)
    by_cases hz0 : z.size = 0
    · have e1 : decide ((z.size : Int) > 0) = false := decide_eq_false (by omega)
      have e3 : decide (0 < z.size) = false := decide_eq_false (by omega)
      have HZ : Hid (trimLeftB t 32 = z.data.toList) := hide (by
        rw [hz, trimLeftB_drop t 32 i hi hall (fun b hb => by have := (List.getElem?_eq_some_iff.1 hb).1; omega)])
      clear hall hz hq hi hzs
      go_wp2_with fail
      go_loopg [0] z.size (fun q sv wr => wr = w ∧ ∃ (y : ByteArray) (m : Nat), sv = .string y ∧ y.data.toList = z.data.toList.take m ∧ y.size = m ∧ m ≤ q ∧ m ≤ z.size ∧ ∀ (j : Nat) b, m ≤ j → z.data.toList[j]? = some b → b = 32)
      case atStart => exact ⟨rfl, z, z.size, rfl, by rw [List.take_of_length_le (Nat.le_refl z.size)], rfl, Nat.le_refl _, Nat.le_refl _, fun j b hj hb => by have := (List.getElem?_eq_some_iff.1 hb).1; have e : z.data.toList.length = z.size := rfl; omega⟩
      case round =>
        obtain ⟨hw, y, m, rfl, hy, hys, hmq, hm, hall2⟩ := hrel
        replace hw := hw.symm
        subst hw
        by_cases hm0 : m = 0
        · have hlast : ∀ b, 0 < m → z.data.toList[m - 1]? = some b → b ≠ 32 := fun b hb => by omega
          have e0 : decide (y.size > 0) = false := decide_eq_false (by omega)
          have e1 : decide ((y.size : Int) > 0) = false := decide_eq_false (by omega)
          have e3 : decide (0 < y.size) = false := decide_eq_false (by omega)
          have HALL := hide hall2
          have HLAST := hide hlast
          have HY := hide hy
          clear hall2 hlast hy
          go_wp2_with fail
          go_ret
          refine ⟨?_, Upd.refl _ _⟩
          have e2 : trimRightB (trimLeftB t 32) 32 = y.data.toList := by
            rw [HZ.out, HY.out, trimRightB_take z.data.toList 32 m (by have : z.data.toList.length = z.size := rfl; omega) HALL.out (fun b hb hb2 => HLAST.out b hb hb2)]
          rw [e2]
          rfl
        · obtain ⟨k, rfl⟩ : ∃ k, m = k + 1 := ⟨m - 1, by omega⟩
          have e1 : decide ((y.size : Int) > 0) = true := decide_eq_true (by omega)
          have e3 : decide (0 < y.size) = true := decide_eq_true (by omega)
          have hk : k < y.size := by omega
          have ew : wrap64 (k : Int) = (k : Int) := IntWalk.wrap64_in _ (by have := HZL.out; omega)
          obtain ⟨c, hc⟩ : ∃ c, y[k] = c := ⟨_, rfl⟩
          have hzc : z.data.toList[k]? = some c := by
            have h1 := getB hk
            rw [hc, hy, List.getElem?_take_of_lt (by omega)] at h1
            exact h1
          have hk0 : (0 : Int) ≤ (k : Int) := by omega
          by_cases hc32 : c = 32
          · subst hc32
            have hy2 : (y.extract 0 k).data.toList = z.data.toList.take k := by
              rw [take1 y k, hy, List.take_take]
              congr 1
              omega
            have hys2 : (y.extract 0 k).size = k := by rw [ByteArray.size_extract]; omega
            obtain ⟨y', hy'⟩ : ∃ y', y.extract 0 k = y' := ⟨_, rfl⟩
            rw [hy'] at hy2 hys2
            have HALL := hide hall2
            have HY2 := hide hy2
            have HYS := hide hys2
            have HZC := hide hzc
            clear hall2 hy hy2 hys2 hzc
            go_wp2_with fail
            go_roundg (gk - 1)
            case measure => omega
            case rel =>
              have hzl := HZL.out
              refine ⟨rfl, y', k, by first | rfl | (rw [hy']) | (rw [IntWalk.wrap64_in _ (by omega), Int.toNat_natCast, hy']), HY2.out, HYS.out, by omega, by omega, fun j b hj hb => ?_⟩
              by_cases e : j = k
              · subst e
                rw [HZC.out] at hb
                exact (Option.some.inj hb).symm
              · exact HALL.out j b (by omega) hb
          · have e4 : ((c.toNat : Int) == 32) = false := by
              have : c.toNat ≠ 32 := fun e => hc32 (UInt8.toNat_inj.1 e)
              exact beq_eq_false_iff_ne.2 (by omega)
            have e5 : decide (c.toNat = 32) = false := by
              have : c.toNat ≠ 32 := fun e => hc32 (UInt8.toNat_inj.1 e)
              simpa using this
            have HC := hide hc32
            have HALL := hide hall2
            have HY := hide hy
            have HZC := hide hzc
            clear hall2 hy hzc hc32
            go_wp2_with fail
            go_ret
            refine ⟨?_, Upd.refl _ _⟩
            have e2 : trimRightB (trimLeftB t 32) 32 = y.data.toList := by
              rw [HZ.out, HY.out, trimRightB_take z.data.toList 32 (k + 1) (by have : z.data.toList.length = z.size := rfl; omega) HALL.out (fun b _ hb2 => by
                rw [Nat.add_sub_cancel, HZC.out] at hb2
                rw [← Option.some.inj hb2]
                exact HC.out)]
            rw [e2]
            rfl
    · have e1 : decide ((z.size : Int) > 0) = true := decide_eq_true (by omega)
      have e3 : decide (0 < z.size) = true := decide_eq_true (by omega)
      have hk : 0 < z.size := by omega
      obtain ⟨c, hc⟩ : ∃ c, z[0] = c := ⟨_, rfl⟩
      have htc : t[i]? = some c := by
        have h1 := getB hk
        rw [hc, hz, List.getElem?_drop] at h1
        exact h1
      by_cases hc32 : c = 32
      · subst hc32
        have hz2 : (z.extract 1 z.size).data.toList = t.drop (i + 1) := by rw [drop1, hz, List.drop_drop]
        obtain ⟨z', hz'⟩ : ∃ z', z.extract 1 z.size = z' := ⟨_, rfl⟩
        rw [hz'] at hz2
        have HALL := hide hall
        have HZ2 := hide hz2
        have HTC := hide htc
        have HZS := hide hzs
        clear hall hz hz2 htc hzs
        go_wp2_with fail
        go_roundg (gk - 1)
        case measure => have hzs := HZS.out; omega
        case rel =>
          have hzs := HZS.out
          refine ⟨rfl, z', i + 1, by first | rfl | (rw [hz']), HZ2.out, by omega, by omega, fun j b hj hb => ?_⟩
          by_cases e : j = i
          · subst e
            rw [HTC.out] at hb
            exact (Option.some.inj hb).symm
          · exact HALL.out j b (by omega) hb
      · have e4 : ((c.toNat : Int) == 32) = false := by
          have : c.toNat ≠ 32 := fun e => hc32 (UInt8.toNat_inj.1 e)
          exact beq_eq_false_iff_ne.2 (by omega)
        have HZ : Hid (trimLeftB t 32 = z.data.toList) := hide (by
          rw [hz, trimLeftB_drop t 32 i hi hall (fun b hb => by rw [htc] at hb; rw [← Option.some.inj hb]; exact hc32)])
        clear hall hz hq hi hzs htc hc32
        go_wp2_with fail
        go_loopg [0] z.size (fun q sv wr => wr = w ∧ ∃ (y : ByteArray) (m : Nat), sv = .string y ∧ y.data.toList = z.data.toList.take m ∧ y.size = m ∧ m ≤ q ∧ m ≤ z.size ∧ ∀ (j : Nat) b, m ≤ j → z.data.toList[j]? = some b → b = 32)
        case atStart => exact ⟨rfl, z, z.size, rfl, by rw [List.take_of_length_le (Nat.le_refl z.size)], rfl, Nat.le_refl _, Nat.le_refl _, fun j b hj hb => by have := (List.getElem?_eq_some_iff.1 hb).1; have e : z.data.toList.length = z.size := rfl; omega⟩
        case round =>
          obtain ⟨hw, y, m, rfl, hy, hys, hmq, hm, hall2⟩ := hrel
          replace hw := hw.symm
          subst hw
          by_cases hm0 : m = 0
          · have hlast : ∀ b, 0 < m → z.data.toList[m - 1]? = some b → b ≠ 32 := fun b hb => by omega
            have e0 : decide (y.size > 0) = false := decide_eq_false (by omega)
            have e1 : decide ((y.size : Int) > 0) = false := decide_eq_false (by omega)
            have e3 : decide (0 < y.size) = false := decide_eq_false (by omega)
            have HALL := hide hall2
            have HLAST := hide hlast
            have HY := hide hy
            clear hall2 hlast hy
            go_wp2_with fail
            go_ret
            refine ⟨?_, Upd.refl _ _⟩
            have e2 : trimRightB (trimLeftB t 32) 32 = y.data.toList := by
              rw [HZ.out, HY.out, trimRightB_take z.data.toList 32 m (by have : z.data.toList.length = z.size := rfl; omega) HALL.out (fun b hb hb2 => HLAST.out b hb hb2)]
            rw [e2]
            rfl
          · obtain ⟨k, rfl⟩ : ∃ k, m = k + 1 := ⟨m - 1, by omega⟩
            have e1 : decide ((y.size : Int) > 0) = true := decide_eq_true (by omega)
            have e3 : decide (0 < y.size) = true := decide_eq_true (by omega)
            have hk : k < y.size := by omega
            have ew : wrap64 (k : Int) = (k : Int) := IntWalk.wrap64_in _ (by have := HZL.out; omega)
            obtain ⟨c, hc⟩ : ∃ c, y[k] = c := ⟨_, rfl⟩
            have hzc : z.data.toList[k]? = some c := by
              have h1 := getB hk
              rw [hc, hy, List.getElem?_take_of_lt (by omega)] at h1
              exact h1
            have hk0 : (0 : Int) ≤ (k : Int) := by omega
            by_cases hc32 : c = 32
            · subst hc32
              have hy2 : (y.extract 0 k).data.toList = z.data.toList.take k := by
                rw [take1 y k, hy, List.take_take]
                congr 1
                omega
              have hys2 : (y.extract 0 k).size = k := by rw [ByteArray.size_extract]; omega
              obtain ⟨y', hy'⟩ : ∃ y', y.extract 0 k = y' := ⟨_, rfl⟩
              rw [hy'] at hy2 hys2
              have HALL := hide hall2
              have HY2 := hide hy2
              have HYS := hide hys2
              have HZC := hide hzc
              clear hall2 hy hy2 hys2 hzc
              go_wp2_with fail
              go_roundg (gk - 1)
              case measure => omega
              case rel =>
                have hzl := HZL.out
                refine ⟨rfl, y', k, by first | rfl | (rw [hy']) | (rw [IntWalk.wrap64_in _ (by omega), Int.toNat_natCast, hy']), HY2.out, HYS.out, by omega, by omega, fun j b hj hb => ?_⟩
                by_cases e : j = k
                · subst e
                  rw [HZC.out] at hb
                  exact (Option.some.inj hb).symm
                · exact HALL.out j b (by omega) hb
            · have e4 : ((c.toNat : Int) == 32) = false := by
                have : c.toNat ≠ 32 := fun e => hc32 (UInt8.toNat_inj.1 e)
                exact beq_eq_false_iff_ne.2 (by omega)
              have e5 : decide (c.toNat = 32) = false := by
                have : c.toNat ≠ 32 := fun e => hc32 (UInt8.toNat_inj.1 e)
                simpa using this
              have HC := hide hc32
              have HALL := hide hall2
              have HY := hide hy
              have HZC := hide hzc
              clear hall2 hy hzc hc32
              go_wp2_with fail
              go_ret
              refine ⟨?_, Upd.refl _ _⟩
              have e2 : trimRightB (trimLeftB t 32) 32 = y.data.toList := by
                rw [HZ.out, HY.out, trimRightB_take z.data.toList 32 (k + 1) (by have : z.data.toList.length = z.size := rfl; omega) HALL.out (fun b _ hb2 => by
                  rw [Nat.add_sub_cancel, HZC.out] at hb2
                  rw [← Option.some.inj hb2]
                  exact HC.out)]
              rw [e2]
              rfl
end Go.Proofs.YtmfngdjhkpddoaaGreatDoor
