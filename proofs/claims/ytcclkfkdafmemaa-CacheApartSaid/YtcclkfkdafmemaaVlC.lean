/- The walks of package value's Good, sound, beside, rank. -/
import Derived.Test.YtcclkfkdafmemaaVlB
set_option maxRecDepth 100000
namespace Go.Proofs.Ytcclkfkdafmemaa
open Go.RowKit Go.Lat

/-- Good where another value is made first. -/
theorem eq_at (x y : Vl) (hx : x.ok) (hy : y.ok) {q : Bool} (hq : eqV x y = q) : ∀ w, (binOp .eql 46 (.agg #[.int .i64 x.k, .int .i64 x.n, .string ⟨x.t.toArray⟩, .bool x.b, .int .i64 x.f]) (.agg #[.int .i64 y.k, .int .i64 y.n, .string ⟨y.t.toArray⟩, .bool y.b, .int .i64 y.f])).run Try.prog w = .ok (.bool q) w := fun w => by
  have := eq_vl w hx hy
  rw [hq] at this
  exact this

set_option maxHeartbeats 1600000 in
theorem Good_any (w : World) (x : Vl) (hx : x.ok) : Calls Try.prog 12 #[x.val] w fun e w' => e = .returned (.bool (goodV x)) ∧ Upd w w' (fun _ => False) := by
  unfold goodV
  have bX := Vnew1 w (.cells x.cs 46)
  obtain ⟨c0, c1, c2, c3, c4⟩ := cells5 bX
  have HX := hide bX
  have xl : w.heap.size < (w.alloc (.cells x.cs 46)).heap.size := lt_at bX
  by_cases h0 : x.k = 0
  · rw [if_pos h0]
    obtain ⟨q, hq⟩ : ∃ q, eqV x vZero = q := ⟨_, rfl⟩
    have EQ := eq_at x vZero hx vZero_ok hq
    obtain ⟨k, n, t, b, f⟩ := x
    obtain rfl : k = 0 := h0
    simp only [vZero] at EQ
    rw [hq]
    unfold Vl.val
    clear hq HX
    go_enter Try.func12, Try.ntmps12
    go_wp2_with fail
    go_ret
    exact ⟨rfl, (Upd.refl w _).alloc _⟩
  · rw [if_neg h0]
    have b0 : (x.k == 0) = false := by simpa using h0
    by_cases h1 : x.k = 1
    · rw [if_pos h1]
      obtain ⟨q, hq⟩ : ∃ q, eqV x (mkN x.n) = q := ⟨_, rfl⟩
      have EQ := eq_at x (mkN x.n) hx (mkN_ok _) hq
      rw [hq]
      have NA := fun w => N_any w x.n
      obtain ⟨v, hv⟩ : ∃ v, mkN x.n = v := ⟨_, rfl⟩
      rw [hv] at EQ NA
      obtain ⟨k0, n0, t0, e0, f0⟩ := v
      obtain ⟨k, n, t, b, f⟩ := x
      obtain rfl : k = 1 := h1
      unfold Vl.val at NA ⊢
      simp only at EQ NA
      clear hq hv h0
      go_enter Try.func12, Try.ntmps12
      go_wp2_with fail
      go_region_held3 (fun w' => w'.cell? ⟨w.heap.size, 0, none⟩ = some (.int .i64 1) ∧ w'.cell? ⟨w.heap.size, 1, none⟩ = some (.int .i64 n) ∧ w'.cell? ⟨w.heap.size, 2, none⟩ = some (.string ⟨t.toArray⟩) ∧ w'.cell? ⟨w.heap.size, 3, none⟩ = some (.bool b) ∧ w'.cell? ⟨w.heap.size, 4, none⟩ = some (.int .i64 f))
        (first | (go_split_ands; exact cells5 bY) | go_keep)
        (first | (go_at_call 30; refine Calls.mono (NA _) ?_; rintro e w2 ⟨rfl, u2⟩; have bY := u2.get HX.out id))
      go_wp2_with fail
      go_ret
      exact ⟨rfl, (((Upd.refl w _).alloc _).drew).then u2 (fun _ _ => id)⟩
    · rw [if_neg h1]
      have b1 : (x.k == 1) = false := by simpa using h1
      by_cases h2 : x.k = 2
      · rw [if_pos h2]
        obtain ⟨q, hq⟩ : ∃ q, eqV x (mkT x.t) = q := ⟨_, rfl⟩
        have EQ := eq_at x (mkT x.t) hx (mkT_ok _) hq
        rw [hq]
        have NA := fun w => T_any w x.t
        obtain ⟨v, hv⟩ : ∃ v, mkT x.t = v := ⟨_, rfl⟩
        rw [hv] at EQ NA
        obtain ⟨k0, n0, t0, e0, f0⟩ := v
        obtain ⟨k, n, t, b, f⟩ := x
        obtain rfl : k = 2 := h2
        unfold Vl.val at NA ⊢
        simp only at EQ NA
        clear hq hv h0
        go_enter Try.func12, Try.ntmps12
        go_wp2_with fail
        go_region_held3 (fun w' => w'.cell? ⟨w.heap.size, 0, none⟩ = some (.int .i64 2) ∧ w'.cell? ⟨w.heap.size, 1, none⟩ = some (.int .i64 n) ∧ w'.cell? ⟨w.heap.size, 2, none⟩ = some (.string ⟨t.toArray⟩) ∧ w'.cell? ⟨w.heap.size, 3, none⟩ = some (.bool b) ∧ w'.cell? ⟨w.heap.size, 4, none⟩ = some (.int .i64 f))
          (first | (go_split_ands; exact cells5 bY) | go_keep)
          (first | (go_at_call 31; refine Calls.mono (NA _) ?_; rintro e w2 ⟨rfl, u2⟩; have bY := u2.get HX.out id))
        go_wp2_with fail
        go_ret
        exact ⟨rfl, (((Upd.refl w _).alloc _).drew).then u2 (fun _ _ => id)⟩
      · rw [if_neg h2]
        have b2 : (x.k == 2) = false := by simpa using h2
        by_cases h3 : x.k = 3
        · rw [if_pos h3]
          obtain ⟨q, hq⟩ : ∃ q, eqV x (mkB x.b) = q := ⟨_, rfl⟩
          have EQ := eq_at x (mkB x.b) hx (mkB_ok _) hq
          rw [hq]
          have NA := fun w => B_any w x.b
          obtain ⟨v, hv⟩ : ∃ v, mkB x.b = v := ⟨_, rfl⟩
          rw [hv] at EQ NA
          obtain ⟨k0, n0, t0, e0, f0⟩ := v
          obtain ⟨k, n, t, b, f⟩ := x
          obtain rfl : k = 3 := h3
          unfold Vl.val at NA ⊢
          simp only at EQ NA
          clear hq hv h0
          go_enter Try.func12, Try.ntmps12
          go_wp2_with fail
          go_region_held3 (fun w' => w'.cell? ⟨w.heap.size, 0, none⟩ = some (.int .i64 3) ∧ w'.cell? ⟨w.heap.size, 1, none⟩ = some (.int .i64 n) ∧ w'.cell? ⟨w.heap.size, 2, none⟩ = some (.string ⟨t.toArray⟩) ∧ w'.cell? ⟨w.heap.size, 3, none⟩ = some (.bool b) ∧ w'.cell? ⟨w.heap.size, 4, none⟩ = some (.int .i64 f))
            (first | (go_split_ands; exact cells5 bY) | go_keep)
            (first | (go_at_call 24; refine Calls.mono (NA _) ?_; rintro e w2 ⟨rfl, u2⟩; have bY := u2.get HX.out id))
          go_wp2_with fail
          go_ret
          exact ⟨rfl, (((Upd.refl w _).alloc _).drew).then u2 (fun _ _ => id)⟩
        · rw [if_neg h3]
          have b3 : (x.k == 3) = false := by simpa using h3
          by_cases h4 : x.k = 4
          · rw [if_pos h4]
            obtain ⟨q, hq⟩ : ∃ q, eqV x (mkE x.f) = q := ⟨_, rfl⟩
            have EQ := eq_at x (mkE x.f) hx (mkE_ok _) hq
            rw [hq]
            have NA := fun w => E_any w x.f
            obtain ⟨v, hv⟩ : ∃ v, mkE x.f = v := ⟨_, rfl⟩
            rw [hv] at EQ NA
            obtain ⟨k0, n0, t0, e0, f0⟩ := v
            obtain ⟨k, n, t, b, f⟩ := x
            obtain rfl : k = 4 := h4
            unfold Vl.val at NA ⊢
            simp only at EQ NA
            clear hq hv h0
            go_enter Try.func12, Try.ntmps12
            go_wp2_with fail
            go_region_held3 (fun w' => w'.cell? ⟨w.heap.size, 0, none⟩ = some (.int .i64 4) ∧ w'.cell? ⟨w.heap.size, 1, none⟩ = some (.int .i64 n) ∧ w'.cell? ⟨w.heap.size, 2, none⟩ = some (.string ⟨t.toArray⟩) ∧ w'.cell? ⟨w.heap.size, 3, none⟩ = some (.bool b) ∧ w'.cell? ⟨w.heap.size, 4, none⟩ = some (.int .i64 f))
              (first | (go_split_ands; exact cells5 bY) | go_keep)
              (first | (go_at_call 15; refine Calls.mono (NA _) ?_; rintro e w2 ⟨rfl, u2⟩; have bY := u2.get HX.out id))
            go_wp2_with fail
            go_ret
            exact ⟨rfl, (((Upd.refl w _).alloc _).drew).then u2 (fun _ _ => id)⟩
          · rw [if_neg h4]
            have b4 : (x.k == 4) = false := by simpa using h4
            obtain ⟨k, n, t, b, f⟩ := x
            unfold Vl.val
            simp only at b0 b1 b2 b3 b4
            clear h0 h1 h2 h3 h4
            go_enter Try.func12, Try.ntmps12
            go_wp2_with fail
            go_ret
            exact ⟨rfl, (Upd.refl w _).alloc _⟩

/-- A value that may be, or the error that it counts as. -/
def soundV (x : Vl) : Vl := if goodV x = true then x else mkE 3
end Go.Proofs.Ytcclkfkdafmemaa
