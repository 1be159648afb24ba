/- The walks of package value's Good, sound, beside, rank. -/
import Derived.Test.YtmfngdjhkpddoaaGreatDoorJ10
import Derived.Sort.Walk0
/- The walks of package value's Good, sound, beside, rank. -/
set_option maxRecDepth 100000
namespace Go.Proofs.YtmfngdjhkpddoaaGreatDoor
open Go.RowKit Go.Lat

/-- Good where another value is made first. -/
theorem eq_at (x y : Vl) (hx : x.ok) (hy : y.ok) {q : Bool} (hq : eqV x y = q) : ∀ w, (binOp .eql 26 (.agg #[.int .i64 x.k, .int .i64 x.n, .string ⟨x.t.toArray⟩, .bool x.b, .int .i64 x.f]) (.agg #[.int .i64 y.k, .int .i64 y.n, .string ⟨y.t.toArray⟩, .bool y.b, .int .i64 y.f])).run Tryz.prog w = .ok (.bool q) w := fun w => by
  have := eq_vl w hx hy
  rw [hq] at this
  exact this

set_option maxHeartbeats 1600000 in
theorem Good_any (w : World) (x : Vl) (hx : x.ok) : Calls Tryz.prog 24 #[x.val] w fun e w' => e = .returned (.bool (goodV x)) ∧ Upd w w' (fun _ => False) := by
  unfold goodV
  have bX := Vnew1 w (.cells x.cs 26)
  obtain ⟨c0, c1, c2, c3, c4⟩ := cells5 bX
  have HX := hide bX
  have xl : w.heap.size < (w.alloc (.cells x.cs 26)).heap.size := lt_at bX
  by_cases h0 : x.k = 0
  · rw [if_pos h0]
    obtain ⟨q, hq⟩ : ∃ q, eqV x vZero = q := ⟨_, rfl⟩
    have EQ := eq_at x vZero hx vZero_ok hq
    obtain ⟨k, n, t, b, f⟩ := x
    obtain rfl : k = 0 := h0
    simp only [vZero] at EQ
    rw [hq]
    unfold Vl.val
    clear hq HX
    go_enter Tryz.func24, Tryz.ntmps24
    go_wp2_with fail
    go_ret
    exact ⟨rfl, (Upd.refl w _).alloc _⟩
  · rw [if_neg h0]
    have b0 : (x.k == 0) = false := by simpa using h0
    by_cases h1 : x.k = 1
    · rw [if_pos h1]
      obtain ⟨q, hq⟩ : ∃ q, eqV x (mkN x.n) = q := ⟨_, rfl⟩
      have EQ := eq_at x (mkN x.n) hx (mkN_ok _) hq
      rw [hq]
      have NA := fun w => N_any w x.n
      obtain ⟨v, hv⟩ : ∃ v, mkN x.n = v := ⟨_, rfl⟩
      rw [hv] at EQ NA
      obtain ⟨k0, n0, t0, e0, f0⟩ := v
      obtain ⟨k, n, t, b, f⟩ := x
      obtain rfl : k = 1 := h1
      unfold Vl.val at NA ⊢
      simp only at EQ NA
      clear hq hv h0
      go_enter Tryz.func24, Tryz.ntmps24
      go_wp2_with fail
      go_region_held3 (fun w' => w'.cell? ⟨w.heap.size, 0, none⟩ = some (.int .i64 1) ∧ w'.cell? ⟨w.heap.size, 1, none⟩ = some (.int .i64 n) ∧ w'.cell? ⟨w.heap.size, 2, none⟩ = some (.string ⟨t.toArray⟩) ∧ w'.cell? ⟨w.heap.size, 3, none⟩ = some (.bool b) ∧ w'.cell? ⟨w.heap.size, 4, none⟩ = some (.int .i64 f))
        (first | (go_split_ands; exact cells5 bY) | go_keep)
        (first | (go_at_call 10; refine Calls.mono (NA _) ?_; rintro e w2 ⟨rfl, u2⟩; have bY := u2.get HX.out id))
      go_wp2_with fail
      go_ret
      exact ⟨rfl, (((Upd.refl w _).alloc _).drew).then u2 (fun _ _ => id)⟩
    · rw [if_neg h1]
      have b1 : (x.k == 1) = false := by simpa using h1
      by_cases h2 : x.k = 2
      · rw [if_pos h2]
        obtain ⟨q, hq⟩ : ∃ q, eqV x (mkT x.t) = q := ⟨_, rfl⟩
        have EQ := eq_at x (mkT x.t) hx (mkT_ok _) hq
        rw [hq]
        have NA := fun w => T_any w x.t
        obtain ⟨v, hv⟩ : ∃ v, mkT x.t = v := ⟨_, rfl⟩
        rw [hv] at EQ NA
        obtain ⟨k0, n0, t0, e0, f0⟩ := v
        obtain ⟨k, n, t, b, f⟩ := x
        obtain rfl : k = 2 := h2
        unfold Vl.val at NA ⊢
        simp only at EQ NA
        clear hq hv h0
        go_enter Tryz.func24, Tryz.ntmps24
        go_wp2_with fail
        go_region_held3 (fun w' => w'.cell? ⟨w.heap.size, 0, none⟩ = some (.int .i64 2) ∧ w'.cell? ⟨w.heap.size, 1, none⟩ = some (.int .i64 n) ∧ w'.cell? ⟨w.heap.size, 2, none⟩ = some (.string ⟨t.toArray⟩) ∧ w'.cell? ⟨w.heap.size, 3, none⟩ = some (.bool b) ∧ w'.cell? ⟨w.heap.size, 4, none⟩ = some (.int .i64 f))
          (first | (go_split_ands; exact cells5 bY) | go_keep)
          (first | (go_at_call 56; refine Calls.mono (NA _) ?_; rintro e w2 ⟨rfl, u2⟩; have bY := u2.get HX.out id))
        go_wp2_with fail
        go_ret
        exact ⟨rfl, (((Upd.refl w _).alloc _).drew).then u2 (fun _ _ => id)⟩
      · rw [if_neg h2]
        have b2 : (x.k == 2) = false := by simpa using h2
        by_cases h3 : x.k = 3
        · rw [if_pos h3]
          obtain ⟨q, hq⟩ : ∃ q, eqV x (mkB x.b) = q := ⟨_, rfl⟩
          have EQ := eq_at x (mkB x.b) hx (mkB_ok _) hq
          rw [hq]
          have NA := fun w => B_any w x.b
          obtain ⟨v, hv⟩ : ∃ v, mkB x.b = v := ⟨_, rfl⟩
          rw [hv] at EQ NA
          obtain ⟨k0, n0, t0, e0, f0⟩ := v
          obtain ⟨k, n, t, b, f⟩ := x
          obtain rfl : k = 3 := h3
          unfold Vl.val at NA ⊢
          simp only at EQ NA
          clear hq hv h0
          go_enter Tryz.func24, Tryz.ntmps24
          go_wp2_with fail
          go_region_held3 (fun w' => w'.cell? ⟨w.heap.size, 0, none⟩ = some (.int .i64 3) ∧ w'.cell? ⟨w.heap.size, 1, none⟩ = some (.int .i64 n) ∧ w'.cell? ⟨w.heap.size, 2, none⟩ = some (.string ⟨t.toArray⟩) ∧ w'.cell? ⟨w.heap.size, 3, none⟩ = some (.bool b) ∧ w'.cell? ⟨w.heap.size, 4, none⟩ = some (.int .i64 f))
            (first | (go_split_ands; exact cells5 bY) | go_keep)
            (first | (go_at_call 38; refine Calls.mono (NA _) ?_; rintro e w2 ⟨rfl, u2⟩; have bY := u2.get HX.out id))
          go_wp2_with fail
          go_ret
          exact ⟨rfl, (((Upd.refl w _).alloc _).drew).then u2 (fun _ _ => id)⟩
        · rw [if_neg h3]
          have b3 : (x.k == 3) = false := by simpa using h3
          by_cases h4 : x.k = 4
          · rw [if_pos h4]
            obtain ⟨q, hq⟩ : ∃ q, eqV x (mkE x.f) = q := ⟨_, rfl⟩
            have EQ := eq_at x (mkE x.f) hx (mkE_ok _) hq
            rw [hq]
            have NA := fun w => E_any w x.f
            obtain ⟨v, hv⟩ : ∃ v, mkE x.f = v := ⟨_, rfl⟩
            rw [hv] at EQ NA
            obtain ⟨k0, n0, t0, e0, f0⟩ := v
            obtain ⟨k, n, t, b, f⟩ := x
            obtain rfl : k = 4 := h4
            unfold Vl.val at NA ⊢
            simp only at EQ NA
            clear hq hv h0
            go_enter Tryz.func24, Tryz.ntmps24
            go_wp2_with fail
            go_region_held3 (fun w' => w'.cell? ⟨w.heap.size, 0, none⟩ = some (.int .i64 4) ∧ w'.cell? ⟨w.heap.size, 1, none⟩ = some (.int .i64 n) ∧ w'.cell? ⟨w.heap.size, 2, none⟩ = some (.string ⟨t.toArray⟩) ∧ w'.cell? ⟨w.heap.size, 3, none⟩ = some (.bool b) ∧ w'.cell? ⟨w.heap.size, 4, none⟩ = some (.int .i64 f))
              (first | (go_split_ands; exact cells5 bY) | go_keep)
              (first | (go_at_call 30; refine Calls.mono (NA _) ?_; rintro e w2 ⟨rfl, u2⟩; have bY := u2.get HX.out id))
            go_wp2_with fail
            go_ret
            exact ⟨rfl, (((Upd.refl w _).alloc _).drew).then u2 (fun _ _ => id)⟩
          · rw [if_neg h4]
            have b4 : (x.k == 4) = false := by simpa using h4
            obtain ⟨k, n, t, b, f⟩ := x
            unfold Vl.val
            simp only at b0 b1 b2 b3 b4
            clear h0 h1 h2 h3 h4
            go_enter Tryz.func24, Tryz.ntmps24
            go_wp2_with fail
            go_ret
            exact ⟨rfl, (Upd.refl w _).alloc _⟩

/-- A value that may be, or the error that it counts as. -/
def soundV (x : Vl) : Vl := if goodV x = true then x else mkE 3
set_option maxHeartbeats 800000 in
theorem sound_any (w : World) (x : Vl) (hx : x.ok) : Calls Tryz.prog 77 #[x.val] w fun e w' => e = .returned (soundV x).val ∧ Upd w w' (fun _ => False) := by
  have GA := fun w => Good_any w x hx
  unfold soundV
  cases hg : goodV x with
  | true =>
    rw [hg] at GA
    simp only [if_true]
    obtain ⟨k, n, t, b, f⟩ := x
    unfold Vl.val at GA ⊢
    clear hg
    go_enter Tryz.func77, Tryz.ntmps77
    go_wp2_with (go_at_call 24; refine Calls.mono (GA _) ?_; rintro e w1 ⟨rfl, u1⟩
                 have bA := u1.get (block_alloc (Vnew1 w (.cells (Vl.mk k n t b f).cs 26)) _) id
                 have bX := u1.get (Vnew2 w (.cells (Vl.mk k n t b f).cs 26) (.cells vZero.cs 26)) id
                 obtain ⟨a0, a1, a2, a3, a4⟩ := cells5 bA
                 have al := lt_at bA
                 obtain ⟨c0, c1, c2, c3, c4⟩ := cells5 bX
                 have xl := lt_at bX
                 have f0 := free_at bX 0
                 have f1 := free_at bX 1
                 have f2 := free_at bX 2
                 have f3 := free_at bX 3
                 have f4 := free_at bX 4
                 have HX := hide bX
                 have HU := hide u1
                 clear bX bA u1)
    (try simp only [Exit.inBlock, Exit.then])
    refine bodyPost_ret (ret_vl rfl _ _ (w.heap.size + 1) ⟨k, n, t, b, f⟩ rfl (block5 HX.out _ _ _ _ _)) rfl ?_
    exact ⟨rfl, upd5 ((((Upd.refl w _).alloc _).alloc _).then HU.out (fun _ _ => id)) (by omega) _ _ _ _ _⟩
  | false =>
    rw [hg] at GA
    simp only [Bool.false_eq_true, if_false]
    have EA := fun w => E_any w 3
    obtain ⟨ev, hev⟩ : ∃ v, mkE 3 = v := ⟨_, rfl⟩
    rw [hev] at EA ⊢
    obtain ⟨k0, n0, t0, b0, e0⟩ := ev
    obtain ⟨k, n, t, b, f⟩ := x
    unfold Vl.val at GA EA ⊢
    simp only at EA
    clear hev hg
    go_enter Tryz.func77, Tryz.ntmps77
    go_wp2_with (first
      | (go_at_call 24; refine Calls.mono (GA _) ?_; rintro e w1 ⟨rfl, u1⟩
         have bX := u1.get (Vnew2 w (.cells (Vl.mk k n t b f).cs 26) (.cells vZero.cs 26)) id
         have HX := hide bX
         have HU := hide u1
         clear bX u1)
      | (go_at_call 30; refine Calls.mono (EA _) ?_; rintro e w2 ⟨rfl, u2⟩
         have bX := u2.get HX.out id
         obtain ⟨c0, c1, c2, c3, c4⟩ := cells5 bX
         have xl := lt_at bX
         have f0 := free_at bX 0
         have f1 := free_at bX 1
         have f2 := free_at bX 2
         have f3 := free_at bX 3
         have f4 := free_at bX 4
         have HX2 := hide bX
         have HU2 := hide u2
         clear bX u2))
    (try simp only [Exit.inBlock, Exit.then])
    refine bodyPost_ret (ret_vl rfl _ _ (w.heap.size + 1) ⟨k0, n0, t0, b0, e0⟩ rfl (block5 HX2.out _ _ _ _ _)) rfl ?_
    exact ⟨rfl, upd5 (((((Upd.refl w _).alloc _).alloc _).then HU.out (fun _ _ => id)).then HU2.out (fun _ _ => id)) (by omega) _ _ _ _ _⟩
end Go.Proofs.YtmfngdjhkpddoaaGreatDoor
/- The walks of the reference's E, N, T, B, Good, Sound. -/
set_option maxRecDepth 100000
namespace Go.Proofs.YtmfngdjhkpddoaaGreatDoor
open Go.RowKit Go.Lat

theorem Tryz.infoR : (Tryz.prog.info? 36).map (·.size) = some 5 := by kernel_rfl
theorem ret_rv {fn : Func} {p : Tmp} (h : fn.results = #[.cell p 36]) (tmps : Array Value) (W : World) (g : Nat) (x : Vl) (hp : tmps.getD p undef = .pointer (some ⟨g, 0, none⟩)) (hg : W.heap[g]? = some (.cells x.cs 36 (0, 0))) :
    (results fn tmps).run Tryz.prog W = .ok x.val W :=
  results_cell_row h tmps W g 36 x.cs (0, 0) _ hp hg Tryz.underlying36 rfl Tryz.infoR
theorem rblock5 {W : World} {g : Nat} {x : Vl} (h : W.heap[g]? = some (.cells x.cs 36 (0, 0))) (v0 v1 v2 v3 v4 : Value) :
    (((((W.setCell ⟨g, 0, none⟩ v0).setCell ⟨g, 1, none⟩ v1).setCell ⟨g, 2, none⟩ v2).setCell ⟨g, 3, none⟩ v3).setCell ⟨g, 4, none⟩ v4).heap[g]? = some (.cells #[v0, v1, v2, v3, v4] 36 (0, 0)) :=
  block_setCell (block_setCell (block_setCell (block_setCell (block_setCell h 0 v0) 1 v1) 2 v2) 3 v3) 4 v4

theorem RB_any (w : World) (b : Bool) : Calls Tryz.prog 44 #[.bool b] w fun e w' => e = .returned (mkB b).val ∧ Upd w w' (fun _ => False) := by
  go_enter Tryz.func44, Tryz.ntmps44
  go_wp2_with fail
  (try simp only [Exit.inBlock, Exit.then])
  refine bodyPost_ret (ret_rv rfl _ _ w.heap.size (mkB b) rfl (Vnew1 w _)) rfl ?_
  exact ⟨rfl, (Upd.refl w _).alloc _⟩
theorem RE_any (w : World) (f : Int) : Calls Tryz.prog 92 #[.int .i64 f] w fun e w' => e = .returned (mkE f).val ∧ Upd w w' (fun _ => False) := by
  unfold mkE
  by_cases h1 : f < 1
  · have h : okFail f = false := by simp [okFail]; omega
    have d1 : decide (f < 1) = true := by simpa using h1
    rw [h]
    simp only [Bool.false_eq_true, if_false]
    clear h h1
    go_enter Tryz.func92, Tryz.ntmps92
    go_wp2_with fail
    (try simp only [Exit.inBlock, Exit.then])
    refine bodyPost_ret (ret_rv rfl _ _ w.heap.size ⟨4, 0, [], false, 3⟩ rfl (Vnew1 w _)) rfl ?_
    exact ⟨rfl, (Upd.refl w _).alloc _⟩
  · have d1 : decide (f < 1) = false := by simpa using h1
    by_cases h2 : 8 < f
    · have h : okFail f = false := by simp [okFail]; omega
      have d2 : decide (8 < f) = true := by simpa using h2
      rw [h]
      simp only [Bool.false_eq_true, if_false]
      clear h h1 h2
      go_enter Tryz.func92, Tryz.ntmps92
      go_wp2_with fail
      (try simp only [Exit.inBlock, Exit.then])
      refine bodyPost_ret (ret_rv rfl _ _ w.heap.size ⟨4, 0, [], false, 3⟩ rfl (Vnew1 w _)) rfl ?_
      exact ⟨rfl, (Upd.refl w _).alloc _⟩
    · have h : okFail f = true := by simp [okFail]; omega
      have d2 : decide (8 < f) = false := by simpa using h2
      rw [h]
      simp only [if_true]
      clear h h1 h2
      go_enter Tryz.func92, Tryz.ntmps92
      go_wp2_with fail
      (try simp only [Exit.inBlock, Exit.then])
      refine bodyPost_ret (ret_rv rfl _ _ w.heap.size ⟨4, 0, [], false, f⟩ rfl (Vnew1 w _)) rfl ?_
      exact ⟨rfl, (Upd.refl w _).alloc _⟩
theorem RN_any (w : World) (n : Int) : Calls Tryz.prog 58 #[.int .i64 n] w fun e w' => e = .returned (mkN n).val ∧ Upd w w' (fun _ => False) := by
  have I := fun w => RefGood_any w n
  have EA := fun w => RE_any w 2
  unfold mkN
  cases h : okNum n with
  | true =>
    rw [h] at I
    simp only [if_true]
    clear h EA
    go_enter Tryz.func58, Tryz.ntmps58
    go_wp2_with (go_at_call 95; refine Calls.mono (I _) ?_; rintro e w' ⟨rfl, hw⟩; replace hw := hw.symm; subst hw)
    (try simp only [Exit.inBlock, Exit.then])
    refine bodyPost_ret (ret_rv rfl _ _ w.heap.size ⟨1, n, [], false, 0⟩ rfl (Vnew1 w _)) rfl ?_
    exact ⟨rfl, (Upd.refl w _).alloc _⟩
  | false =>
    rw [h] at I
    simp only [Bool.false_eq_true, if_false]
    clear h
    obtain ⟨ev, hev⟩ : ∃ v, mkE 2 = v := ⟨_, rfl⟩
    rw [hev] at EA ⊢
    obtain ⟨k0, n0, t0, b0, e0⟩ := ev
    unfold Vl.val at EA
    simp only at EA
    clear hev
    go_enter Tryz.func58, Tryz.ntmps58
    go_wp2_with (first
      | (go_at_call 95; refine Calls.mono (I _) ?_; rintro e w' ⟨rfl, hw⟩; replace hw := hw.symm; subst hw)
      | (go_at_call 92; refine Calls.mono (EA _) ?_; rintro e w2 ⟨rfl, u2⟩
         have bX2 := u2.get (Vnew1 w (.cells vZero.cs 36)) id
         obtain ⟨c0, c1, c2, c3, c4⟩ := cells5 bX2
         have xl := lt_at bX2
         have f0 := free_at bX2 0
         have f1 := free_at bX2 1
         have f2 := free_at bX2 2
         have f3 := free_at bX2 3
         have f4 := free_at bX2 4
         have HX2 := hide bX2
         have HU2 := hide u2
         clear bX2 u2))
    (try simp only [Exit.inBlock, Exit.then])
    refine bodyPost_ret (ret_rv rfl _ _ w.heap.size ⟨k0, n0, t0, b0, e0⟩ rfl (rblock5 HX2.out _ _ _ _ _)) rfl ?_
    exact ⟨rfl, upd5 (((Upd.refl w _).alloc _).then HU2.out (fun _ _ => id)) (Nat.le_refl _) _ _ _ _ _⟩
theorem RT_any (w : World) (s : List UInt8) : Calls Tryz.prog 46 #[enS s] w fun e w' => e = .returned (mkT s).val ∧ Upd w w' (fun _ => False) := by
  have EA := fun w => RE_any w 3
  unfold mkT
  by_cases h : s.length ≤ 255
  · rw [if_pos h]
    have d1 : decide ((255 : Int) < (s.length : Int)) = false := by simp; omega
    have d2 : decide (255 < s.length) = false := by simp; omega
    clear h EA
    go_enter Tryz.func46, Tryz.ntmps46
    go_wp2_with fail
    (try simp only [Exit.inBlock, Exit.then])
    refine bodyPost_ret (ret_rv rfl _ _ w.heap.size ⟨2, 0, s, false, 0⟩ rfl (Vnew1 w _)) rfl ?_
    exact ⟨rfl, (Upd.refl w _).alloc _⟩
  · rw [if_neg h]
    have d1 : decide ((255 : Int) < (s.length : Int)) = true := by simp; omega
    have d2 : decide (255 < s.length) = true := by simp; omega
    clear h
    obtain ⟨ev, hev⟩ : ∃ v, mkE 3 = v := ⟨_, rfl⟩
    rw [hev] at EA ⊢
    obtain ⟨k0, n0, t0, b0, e0⟩ := ev
    unfold Vl.val at EA
    simp only at EA
    clear hev
    go_enter Tryz.func46, Tryz.ntmps46
    go_wp2_with (first
      | (go_at_call 92; refine Calls.mono (EA _) ?_; rintro e w2 ⟨rfl, u2⟩
         have bX2 := u2.get (Vnew1 w (.cells vZero.cs 36)) id
         obtain ⟨c0, c1, c2, c3, c4⟩ := cells5 bX2
         have xl := lt_at bX2
         have f0 := free_at bX2 0
         have f1 := free_at bX2 1
         have f2 := free_at bX2 2
         have f3 := free_at bX2 3
         have f4 := free_at bX2 4
         have HX2 := hide bX2
         have HU2 := hide u2
         clear bX2 u2))
    (try simp only [Exit.inBlock, Exit.then])
    refine bodyPost_ret (ret_rv rfl _ _ w.heap.size ⟨k0, n0, t0, b0, e0⟩ rfl (rblock5 HX2.out _ _ _ _ _)) rfl ?_
    exact ⟨rfl, upd5 (((Upd.refl w _).alloc _).then HU2.out (fun _ _ => id)) (Nat.le_refl _) _ _ _ _ _⟩

/-- The reference's word for what may be. -/
def rgoodV (x : Vl) : Bool :=
  let a := decide (x.n = 0); let b := decide (x.t = []); let c := !x.b; let d := decide (x.f = 0)
  if x.k = 0 then (a && b) && c && d else if x.k = 1 then (okNum x.n && b) && c && d else if x.k = 2 then (a && decide (x.t.length ≤ 255)) && c && d else if x.k = 3 then (a && b) && d else if x.k = 4 then ((a && b) && c && decide (1 ≤ x.f)) && decide (x.f ≤ 8) else false
theorem rgood_eq (x : Vl) : rgoodV x = goodV x := by
  obtain ⟨k, n, t, b, f⟩ := x
  unfold rgoodV goodV
  simp only
  by_cases h0 : k = 0
  · subst h0
    rw [if_pos rfl, if_pos rfl, Bool.eq_iff_iff, eqV_iff]
    simp [vZero]
    constructor
    · rintro ⟨⟨⟨rfl, rfl⟩, rfl⟩, rfl⟩; exact ⟨rfl, rfl, rfl, rfl⟩
    · rintro ⟨rfl, rfl, rfl, rfl⟩; exact ⟨⟨⟨rfl, rfl⟩, rfl⟩, rfl⟩
  · rw [if_neg h0, if_neg h0]
    by_cases h1 : k = 1
    · subst h1
      rw [if_pos rfl, if_pos rfl, Bool.eq_iff_iff, eqV_iff]
      unfold mkN
      cases ho : okNum n
      · simp [mkE]
      · simp
        constructor
        · rintro ⟨⟨rfl, rfl⟩, rfl⟩; exact ⟨rfl, rfl, rfl⟩
        · rintro ⟨rfl, rfl, rfl⟩; exact ⟨⟨rfl, rfl⟩, rfl⟩
    · rw [if_neg h1, if_neg h1]
      by_cases h2 : k = 2
      · subst h2
        rw [if_pos rfl, if_pos rfl, Bool.eq_iff_iff, eqV_iff]
        unfold mkT
        by_cases hl : t.length ≤ 255
        · simp [hl]
          constructor
          · rintro ⟨⟨rfl, rfl⟩, rfl⟩; exact ⟨rfl, rfl, rfl⟩
          · rintro ⟨rfl, rfl, rfl⟩; exact ⟨⟨rfl, rfl⟩, rfl⟩
        · simp [hl, mkE]
      · rw [if_neg h2, if_neg h2]
        by_cases h3 : k = 3
        · subst h3
          rw [if_pos rfl, if_pos rfl, Bool.eq_iff_iff, eqV_iff]
          simp [mkB]
          constructor
          · rintro ⟨⟨rfl, rfl⟩, rfl⟩; exact ⟨rfl, rfl, rfl⟩
          · rintro ⟨rfl, rfl, rfl⟩; exact ⟨⟨rfl, rfl⟩, rfl⟩
        · rw [if_neg h3, if_neg h3]
          by_cases h4 : k = 4
          · subst h4
            rw [if_pos rfl, if_pos rfl, Bool.eq_iff_iff, eqV_iff]
            unfold mkE
            cases ho : okFail f
            · have : ¬ (1 ≤ f ∧ f ≤ 8) := by simp [okFail] at ho; omega
              simp
              constructor
              · rintro ⟨⟨_, h⟩, h'⟩; exact absurd ⟨h, h'⟩ this
              · rintro ⟨_, _, _, rfl⟩; simp at this
            · have : 1 ≤ f ∧ f ≤ 8 := by simp [okFail] at ho; omega
              simp [this.1, this.2]
              constructor
              · rintro ⟨⟨rfl, rfl⟩, rfl⟩; exact ⟨rfl, rfl, rfl⟩
              · rintro ⟨rfl, rfl, rfl⟩; exact ⟨⟨rfl, rfl⟩, rfl⟩
          · rw [if_neg h4, if_neg h4]
end Go.Proofs.YtmfngdjhkpddoaaGreatDoor
/- The walks of the reference's Good, Sound; of package value's beside, rank. -/
set_option maxRecDepth 100000
namespace Go.Proofs.YtmfngdjhkpddoaaGreatDoor
open Go.RowKit Go.Lat

theorem beq0 (f : Int) : (f == 0) = decide (f = 0) := by
  rw [Bool.eq_iff_iff]
  simp
set_option maxHeartbeats 1600000 in
theorem RGood_any (w : World) (x : Vl) : Calls Tryz.prog 132 #[x.val] w fun e w' => e = .returned (.bool (goodV x)) ∧ Upd w w' (fun _ => False) := by
  rw [← rgood_eq]
  have I := fun w => RefGood_any w x.n
  obtain ⟨k, n, t, b, f⟩ := x
  unfold rgoodV Vl.val
  simp only at I ⊢
  by_cases h0 : k = 0
  · subst h0
    rw [if_pos rfl]
    go_enter Tryz.func132, Tryz.ntmps132
    go_wp2_with fail
    all_goals go_ret
    all_goals refine ⟨?_, (Upd.refl w _).alloc _⟩
    all_goals first | rfl | (simp_all; done) | (simp_all; rfl) | (simp_all; exact beq0 _) | (simp_all; omega) | (simp_all; intro _; omega)
  · rw [if_neg h0]
    have b0 : (k == 0) = false := by simpa using h0
    by_cases h1 : k = 1
    · subst h1
      rw [if_pos rfl]
      obtain ⟨q, hq⟩ : ∃ q, okNum n = q := ⟨_, rfl⟩
      rw [hq] at I ⊢
      clear hq h0
      go_enter Tryz.func132, Tryz.ntmps132
      go_wp2_with (go_at_call 95; refine Calls.mono (I _) ?_; rintro e w' ⟨rfl, hw⟩; replace hw := hw.symm; subst hw)
      all_goals go_ret
      all_goals refine ⟨?_, (Upd.refl w _).alloc _⟩
      all_goals first | rfl | (simp_all; done) | (simp_all; rfl) | (simp_all; exact beq0 _) | (simp_all; omega) | (simp_all; intro _; omega)
    · rw [if_neg h1]
      have b1 : (k == 1) = false := by simpa using h1
      by_cases h2 : k = 2
      · subst h2
        rw [if_pos rfl]
        have d0 : ∀ q : Bool, decide (t.length ≤ 255) = q → decide ((t.length : Int) ≤ 255) = q := by
          intro q hq
          rw [← hq, Bool.eq_iff_iff]
          simp
          omega
        obtain ⟨q, hq⟩ : ∃ q, decide (t.length ≤ 255) = q := ⟨_, rfl⟩
        have d1 := d0 q hq
        rw [hq]
        clear h0 h1 d0
        go_enter Tryz.func132, Tryz.ntmps132
        go_wp2_with fail
        all_goals go_ret
        all_goals refine ⟨?_, (Upd.refl w _).alloc _⟩
        all_goals first | rfl | (simp_all; done) | (simp_all; rfl) | (simp_all; exact beq0 _) | (simp_all; omega) | (simp_all; intro _; omega)
      · rw [if_neg h2]
        have b2 : (k == 2) = false := by simpa using h2
        by_cases h3 : k = 3
        · subst h3
          rw [if_pos rfl]
          clear h0 h1 h2
          go_enter Tryz.func132, Tryz.ntmps132
          go_wp2_with fail
          all_goals go_ret
          all_goals refine ⟨?_, (Upd.refl w _).alloc _⟩
          all_goals first | rfl | (simp_all; done) | (simp_all; rfl) | (simp_all; exact beq0 _) | (simp_all; omega) | (simp_all; intro _; omega)
        · rw [if_neg h3]
          have b3 : (k == 3) = false := by simpa using h3
          by_cases h4 : k = 4
          · subst h4
            rw [if_pos rfl]
            clear h0 h1 h2 h3
            go_enter Tryz.func132, Tryz.ntmps132
            go_wp2_with fail
            all_goals go_ret
            all_goals refine ⟨?_, (Upd.refl w _).alloc _⟩
            all_goals first | rfl | (simp_all; done) | (simp_all; rfl) | (simp_all; exact beq0 _) | (simp_all; omega) | (simp_all; intro _; omega)
          · rw [if_neg h4]
            have b4 : (k == 4) = false := by simpa using h4
            clear h0 h1 h2 h3 h4
            go_enter Tryz.func132, Tryz.ntmps132
            go_wp2_with fail
            all_goals go_ret
            all_goals refine ⟨?_, (Upd.refl w _).alloc _⟩
            all_goals first | rfl | (simp_all; done) | (simp_all; rfl) | (simp_all; exact beq0 _) | (simp_all; omega) | (simp_all; intro _; omega)

theorem rank_any (w : World) (b : Bool) : Calls Tryz.prog 83 #[.bool b] w fun e w' => e = .returned (.int .i64 (if b then 1 else 0)) ∧ w' = w := by
  cases b with
  | true =>
    go_enter Tryz.func83, Tryz.ntmps83
    go_wp2_with fail
    go_ret
    exact ⟨rfl, rfl⟩
  | false =>
    go_enter Tryz.func83, Tryz.ntmps83
    go_wp2_with fail
    go_ret
    exact ⟨rfl, rfl⟩
end Go.Proofs.YtmfngdjhkpddoaaGreatDoor
/- The walks of the reference's Sound, numbers; of package value's beside; of cmp.Compare. -/
set_option maxRecDepth 100000
namespace Go.Proofs.YtmfngdjhkpddoaaGreatDoor
open Go.RowKit Go.Lat Go.Sort

set_option maxHeartbeats 800000 in
theorem RSound_any (w : World) (x : Vl) : Calls Tryz.prog 87 #[x.val] w fun e w' => e = .returned (soundV x).val ∧ Upd w w' (fun _ => False) := by
  have GA := fun w => RGood_any w x
  unfold soundV
  cases hg : goodV x with
  | true =>
    rw [hg] at GA
    simp only [if_true]
    obtain ⟨k, n, t, b, f⟩ := x
    unfold Vl.val at GA ⊢
    clear hg
    go_enter Tryz.func87, Tryz.ntmps87
    go_wp2_with (go_at_call 132; refine Calls.mono (GA _) ?_; rintro e w1 ⟨rfl, u1⟩
                 have bA := u1.get (block_alloc (Vnew1 w (.cells (Vl.mk k n t b f).cs 36)) _) id
                 have bX := u1.get (Vnew2 w (.cells (Vl.mk k n t b f).cs 36) (.cells vZero.cs 36)) id
                 obtain ⟨a0, a1, a2, a3, a4⟩ := cells5 bA
                 have al := lt_at bA
                 obtain ⟨c0, c1, c2, c3, c4⟩ := cells5 bX
                 have xl := lt_at bX
                 have f0 := free_at bX 0
                 have f1 := free_at bX 1
                 have f2 := free_at bX 2
                 have f3 := free_at bX 3
                 have f4 := free_at bX 4
                 have HX := hide bX
                 have HU := hide u1
                 clear bX bA u1)
    (try simp only [Exit.inBlock, Exit.then])
    refine bodyPost_ret (ret_rv rfl _ _ (w.heap.size + 1) ⟨k, n, t, b, f⟩ rfl (rblock5 HX.out _ _ _ _ _)) rfl ?_
    exact ⟨rfl, upd5 ((((Upd.refl w _).alloc _).alloc _).then HU.out (fun _ _ => id)) (by omega) _ _ _ _ _⟩
  | false =>
    rw [hg] at GA
    simp only [Bool.false_eq_true, if_false]
    have EA := fun w => RE_any w 3
    obtain ⟨ev, hev⟩ : ∃ v, mkE 3 = v := ⟨_, rfl⟩
    rw [hev] at EA ⊢
    obtain ⟨k0, n0, t0, b0, e0⟩ := ev
    obtain ⟨k, n, t, b, f⟩ := x
    unfold Vl.val at GA EA ⊢
    simp only at EA
    clear hev hg
    go_enter Tryz.func87, Tryz.ntmps87
    go_wp2_with (first
      | (go_at_call 132; refine Calls.mono (GA _) ?_; rintro e w1 ⟨rfl, u1⟩
         have bX := u1.get (Vnew2 w (.cells (Vl.mk k n t b f).cs 36) (.cells vZero.cs 36)) id
         have HX := hide bX
         have HU := hide u1
         clear bX u1)
      | (go_at_call 92; refine Calls.mono (EA _) ?_; rintro e w2 ⟨rfl, u2⟩
         have bX := u2.get HX.out id
         obtain ⟨c0, c1, c2, c3, c4⟩ := cells5 bX
         have xl := lt_at bX
         have f0 := free_at bX 0
         have f1 := free_at bX 1
         have f2 := free_at bX 2
         have f3 := free_at bX 3
         have f4 := free_at bX 4
         have HX2 := hide bX
         have HU2 := hide u2
         clear bX u2))
    (try simp only [Exit.inBlock, Exit.then])
    refine bodyPost_ret (ret_rv rfl _ _ (w.heap.size + 1) ⟨k0, n0, t0, b0, e0⟩ rfl (rblock5 HX2.out _ _ _ _ _)) rfl ?_
    exact ⟨rfl, upd5 (((((Upd.refl w _).alloc _).alloc _).then HU.out (fun _ _ => id)).then HU2.out (fun _ _ => id)) (by omega) _ _ _ _ _⟩

/-- What a blank value is beside another one. -/
def besideV (x y : Vl) : Vl := if x.k = 0 then ⟨y.k, 0, [], false, 0⟩ else x
theorem beside_any (w : World) (x y : Vl) : Calls Tryz.prog 78 #[x.val, y.val] w fun e w' => e = .returned (besideV x y).val ∧ Upd w w' (fun _ => False) := by
  have n3 : ∀ (A B C : Obj), (((w.alloc A).alloc B).alloc C).heap[w.heap.size + 1 + 1]? = some C := fun A B C => by
    have := Vnew2 (w.alloc A) B C
    simpa using this
  have n1 : ∀ (A B C : Obj), (((w.alloc A).alloc B).alloc C).heap[w.heap.size]? = some A := fun A B C => block_alloc (block_alloc (Vnew1 w A) B) C
  have n2 : ∀ (A B C : Obj), (((w.alloc A).alloc B).alloc C).heap[w.heap.size + 1]? = some B := fun A B C => block_alloc (Vnew2 w A B) C
  have N3 := hide n3
  clear n3 n1 n2
  obtain ⟨k, n, t, b, f⟩ := x
  obtain ⟨k', n', t', b', f'⟩ := y
  unfold besideV Vl.val
  simp only
  by_cases h : k = 0
  · subst h
    rw [if_pos rfl]
    go_enter Tryz.func78, Tryz.ntmps78
    go_wp2_with fail
    (try simp only [Exit.inBlock, Exit.then])
    refine bodyPost_ret (ret_vl rfl _ _ (w.heap.size + 1 + 1) ⟨k', 0, [], false, 0⟩ rfl (N3.out _ _ _)) rfl ?_
    exact ⟨rfl, (((Upd.refl w _).alloc _).alloc _).alloc _⟩
  · rw [if_neg h]
    have b0 : (k == 0) = false := by simpa using h
    clear h
    go_enter Tryz.func78, Tryz.ntmps78
    go_wp2_with fail
    (try simp only [Exit.inBlock, Exit.then])
    refine bodyPost_ret (ret_vl rfl _ _ (w.heap.size + 1 + 1) ⟨k, n, t, b, f⟩ rfl (N3.out _ _ _)) rfl ?_
    exact ⟨rfl, (((Upd.refl w _).alloc _).alloc _).alloc _⟩

/-- Which of two comes first. -/
def cmpI (a b : Int) : Int := if a < b then -1 else if b < a then 1 else 0
def cmpS (x y : List UInt8) : Int := if x < y then -1 else if y < x then 1 else 0
theorem isNaNK_any (w : World) (x : Int) : Calls Tryz.prog 128 #[.int .i64 x] w fun e w' => e = .returned (.bool false) ∧ w' = w := by
  go_enter Tryz.func128, Tryz.ntmps128
  go_wp2_with fail
  go_ret
  exact ⟨by simp, rfl⟩
theorem CompareK_any (w : World) (x y : Int) : Calls Tryz.prog 79 #[.int .i64 x, .int .i64 y] w fun e w' => e = .returned (.int .i64 (cmpI x y)) ∧ w' = w := by
  have NA := fun {w} v => isNaNK_any w v
  unfold cmpI
  by_cases h1 : x < y
  · have d1 : decide (x < y) = true := by simpa using h1
    rw [if_pos h1]
    clear h1
    go_enter Tryz.func79, Tryz.ntmps79
    go_wp2_with (go_at_call 128; refine Calls.mono (NA _) ?_; rintro e w1 ⟨rfl, rfl⟩)
    go_ret
    exact ⟨rfl, rfl⟩
  · have d1 : decide (x < y) = false := by simpa using h1
    rw [if_neg h1]
    by_cases h2 : y < x
    · have d2 : decide (y < x) = true := by simpa using h2
      rw [if_pos h2]
      clear h1 h2
      go_enter Tryz.func79, Tryz.ntmps79
      go_wp2_with (go_at_call 128; refine Calls.mono (NA _) ?_; rintro e w1 ⟨rfl, rfl⟩)
      go_ret
      exact ⟨rfl, rfl⟩
    · have d2 : decide (y < x) = false := by simpa using h2
      rw [if_neg h2]
      clear h1 h2
      go_enter Tryz.func79, Tryz.ntmps79
      go_wp2_with (go_at_call 128; refine Calls.mono (NA _) ?_; rintro e w1 ⟨rfl, rfl⟩)
      go_ret
      exact ⟨rfl, rfl⟩
theorem isNaNN_any (w : World) (x : Int) : Calls Tryz.prog 129 #[.int .i64 x] w fun e w' => e = .returned (.bool false) ∧ w' = w := by
  go_enter Tryz.func129, Tryz.ntmps129
  go_wp2_with fail
  go_ret
  exact ⟨by simp, rfl⟩
theorem CompareN_any (w : World) (x y : Int) : Calls Tryz.prog 80 #[.int .i64 x, .int .i64 y] w fun e w' => e = .returned (.int .i64 (cmpI x y)) ∧ w' = w := by
  have NA := fun {w} v => isNaNN_any w v
  unfold cmpI
  by_cases h1 : x < y
  · have d1 : decide (x < y) = true := by simpa using h1
    rw [if_pos h1]
    clear h1
    go_enter Tryz.func80, Tryz.ntmps80
    go_wp2_with (go_at_call 129; refine Calls.mono (NA _) ?_; rintro e w1 ⟨rfl, rfl⟩)
    go_ret
    exact ⟨rfl, rfl⟩
  · have d1 : decide (x < y) = false := by simpa using h1
    rw [if_neg h1]
    by_cases h2 : y < x
    · have d2 : decide (y < x) = true := by simpa using h2
      rw [if_pos h2]
      clear h1 h2
      go_enter Tryz.func80, Tryz.ntmps80
      go_wp2_with (go_at_call 129; refine Calls.mono (NA _) ?_; rintro e w1 ⟨rfl, rfl⟩)
      go_ret
      exact ⟨rfl, rfl⟩
    · have d2 : decide (y < x) = false := by simpa using h2
      rw [if_neg h2]
      clear h1 h2
      go_enter Tryz.func80, Tryz.ntmps80
      go_wp2_with (go_at_call 129; refine Calls.mono (NA _) ?_; rintro e w1 ⟨rfl, rfl⟩)
      go_ret
      exact ⟨rfl, rfl⟩
theorem isNaNS_any (w : World) (x : List UInt8) : Calls Tryz.prog 130 #[enS x] w fun e w' => e = .returned (.bool false) ∧ w' = w := by
  go_enter Tryz.func130, Tryz.ntmps130
  go_wp2_with fail
  go_ret
  exact ⟨by simp, rfl⟩
theorem CompareS_any (w : World) (x y : List UInt8) : Calls Tryz.prog 81 #[enS x, enS y] w fun e w' => e = .returned (.int .i64 (cmpS x y)) ∧ w' = w := by
  have b1 : Op.bytesLess x y = decide (x < y) := bytesLess_eq x y
  have b2 : ¬ x < y → (x == y) = !decide (y < x) := by
    intro h1
    by_cases h : y < x
    · have h2 : ¬ x = y := fun q => by subst q; exact h1 h
      simp [h, h2]
    · have h2 : x = y := List.le_antisymm (List.not_lt.1 h) (List.not_lt.1 h1)
      simp [h2]
  have NA := fun {w} v => isNaNS_any w v
  unfold cmpS
  by_cases h1 : x < y
  · have d1 : decide (x < y) = true := by simpa using h1
    rw [d1] at b1
    rw [if_pos h1]
    clear h1 b2
    go_enter Tryz.func81, Tryz.ntmps81
    go_wp2_with (go_at_call 130; refine Calls.mono (NA _) ?_; rintro e w1 ⟨rfl, rfl⟩)
    go_ret
    exact ⟨rfl, rfl⟩
  · have d1 : decide (x < y) = false := by simpa using h1
    rw [d1] at b1
    rw [if_neg h1]
    have b2 := b2 h1
    by_cases h2 : y < x
    · have d2 : decide (y < x) = true := by simpa using h2
      rw [d2] at b2
      rw [if_pos h2]
      clear h1 h2
      go_enter Tryz.func81, Tryz.ntmps81
      go_wp2_with (go_at_call 130; refine Calls.mono (NA _) ?_; rintro e w1 ⟨rfl, rfl⟩)
      go_ret
      exact ⟨rfl, rfl⟩
    · have d2 : decide (y < x) = false := by simpa using h2
      rw [d2] at b2
      rw [if_neg h2]
      clear h1 h2
      go_enter Tryz.func81, Tryz.ntmps81
      go_wp2_with (go_at_call 130; refine Calls.mono (NA _) ?_; rintro e w1 ⟨rfl, rfl⟩)
      go_ret
      exact ⟨rfl, rfl⟩
theorem numbers_any (w : World) (x y : Int) : Calls Tryz.prog 88 #[.int .i64 x, .int .i64 y] w fun e w' => e = .returned (.int .i64 (cmpI x y)) ∧ w' = w := by
  unfold cmpI
  by_cases h1 : x < y
  · have d1 : decide (x < y) = true := by simpa using h1
    rw [if_pos h1]
    clear h1
    go_enter Tryz.func88, Tryz.ntmps88
    go_wp2_with fail
    go_ret
    exact ⟨rfl, rfl⟩
  · have d1 : decide (x < y) = false := by simpa using h1
    rw [if_neg h1]
    by_cases h2 : y < x
    · have d2 : decide (y < x) = true := by simpa using h2
      rw [if_pos h2]
      clear h1 h2
      go_enter Tryz.func88, Tryz.ntmps88
      go_wp2_with fail
      go_ret
      exact ⟨rfl, rfl⟩
    · have d2 : decide (y < x) = false := by simpa using h2
      rw [if_neg h2]
      clear h1 h2
      go_enter Tryz.func88, Tryz.ntmps88
      go_wp2_with fail
      go_ret
      exact ⟨rfl, rfl⟩
end Go.Proofs.YtmfngdjhkpddoaaGreatDoor
