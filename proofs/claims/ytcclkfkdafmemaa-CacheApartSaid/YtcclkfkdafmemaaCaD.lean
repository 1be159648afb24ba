/- The order of links: cmp.Compare of texts and numbers, cmp.Or of four, the closure that sorted hands to the sort. -/
import Derived.Test.YtcclkfkdafmemaaCaC
import Derived.StillTailTactics
import Derived.Sort.Grow
import Derived.Sort.Walk0
set_option maxRecDepth 100000
namespace Go.Proofs.Ytcclkfkdafmemaa
open Go.RowKit Go.Lat Go.Sort

def cmpS (x y : List UInt8) : Int := if x < y then -1 else if y < x then 1 else 0
def cmpI (x y : Int) : Int := if x < y then -1 else if y < x then 1 else 0
theorem isNaNs_any (w : World) (x : List UInt8) : Calls Try.prog 56 #[enS x] w fun e w' => e = .returned (.bool false) ∧ w' = w := by
  go_enter Try.func56, Try.ntmps56
  go_wp2_with fail
  go_ret
  exact ⟨by simp, rfl⟩
theorem isNaNi_any (w : World) (x : Int) : Calls Try.prog 57 #[.int .i64 x] w fun e w' => e = .returned (.bool false) ∧ w' = w := by
  go_enter Try.func57, Try.ntmps57
  go_wp2_with fail
  go_ret
  exact ⟨by simp, rfl⟩
theorem CompareS_any (w : World) (x y : List UInt8) : Calls Try.prog 47 #[enS x, enS y] w fun e w' => e = .returned (.int .i64 (cmpS x y)) ∧ w' = w := by
  have b1 : Op.bytesLess x y = decide (x < y) := bytesLess_eq x y
  have b2 : ¬ x < y → (x == y) = !decide (y < x) := by
    intro h1
    by_cases h : y < x
    · have h2 : ¬ x = y := fun q => by subst q; exact h1 h
      simp [h, h2]
    · have h2 : x = y := List.le_antisymm (List.not_lt.1 h) (List.not_lt.1 h1)
      simp [h2]
  have NA := fun v => isNaNs_any w v
  unfold cmpS
  by_cases h1 : x < y
  · have d1 : decide (x < y) = true := by simpa using h1
    rw [d1] at b1
    rw [if_pos h1]
    clear h1 b2
    go_enter Try.func47, Try.ntmps47
    go_wp2_with (go_at_call 56; refine Calls.mono (NA _) ?_; rintro e w1 ⟨rfl, rfl⟩)
    go_ret
    exact ⟨rfl, rfl⟩
  · have d1 : decide (x < y) = false := by simpa using h1
    rw [d1] at b1
    rw [if_neg h1]
    have b2 := b2 h1
    by_cases h2 : y < x
    · have d2 : decide (y < x) = true := by simpa using h2
      rw [d2] at b2
      rw [if_pos h2]
      clear h1 h2
      go_enter Try.func47, Try.ntmps47
      go_wp2_with (go_at_call 56; refine Calls.mono (NA _) ?_; rintro e w1 ⟨rfl, rfl⟩)
      go_ret
      exact ⟨rfl, rfl⟩
    · have d2 : decide (y < x) = false := by simpa using h2
      rw [d2] at b2
      rw [if_neg h2]
      clear h1 h2
      go_enter Try.func47, Try.ntmps47
      go_wp2_with (go_at_call 56; refine Calls.mono (NA _) ?_; rintro e w1 ⟨rfl, rfl⟩)
      go_ret
      exact ⟨rfl, rfl⟩
theorem CompareI_any (w : World) (x y : Int) : Calls Try.prog 48 #[.int .i64 x, .int .i64 y] w fun e w' => e = .returned (.int .i64 (cmpI x y)) ∧ w' = w := by
  have NA := fun v => isNaNi_any w v
  unfold cmpI
  by_cases h1 : x < y
  · have d1 : decide (x < y) = true := by simpa using h1
    rw [if_pos h1]
    clear h1
    go_enter Try.func48, Try.ntmps48
    go_wp2_with (go_at_call 57; refine Calls.mono (NA _) ?_; rintro e w1 ⟨rfl, rfl⟩)
    go_ret
    exact ⟨rfl, rfl⟩
  · have d1 : decide (x < y) = false := by simpa using h1
    rw [if_neg h1]
    by_cases h2 : y < x
    · have d2 : decide (y < x) = true := by simpa using h2
      rw [if_pos h2]
      clear h1 h2
      go_enter Try.func48, Try.ntmps48
      go_wp2_with (go_at_call 57; refine Calls.mono (NA _) ?_; rintro e w1 ⟨rfl, rfl⟩)
      go_ret
      exact ⟨rfl, rfl⟩
    · have d2 : decide (y < x) = false := by simpa using h2
      rw [if_neg h2]
      clear h1 h2
      go_enter Try.func48, Try.ntmps48
      go_wp2_with (go_at_call 57; refine Calls.mono (NA _) ?_; rintro e w1 ⟨rfl, rfl⟩)
      go_ret
      exact ⟨rfl, rfl⟩
def or4 (a b c d : Int) : Int := if a ≠ 0 then a else if b ≠ 0 then b else if c ≠ 0 then c else d
theorem Or_any (w : World) (g : Nat) (a b c d : Int) (h0 : w.cell? ⟨g, 0, none⟩ = some (.int .i64 a)) (h1 : w.cell? ⟨g, 1, none⟩ = some (.int .i64 b)) (h2 : w.cell? ⟨g, 2, none⟩ = some (.int .i64 c)) (h3 : w.cell? ⟨g, 3, none⟩ = some (.int .i64 d)) :
    Calls Try.prog 46 #[.slice (some ⟨g, 0, none⟩) 4 4] w fun e w' => e = .returned (.int .i64 (or4 a b c d)) ∧ w' = w := by
  unfold or4
  by_cases ha : a = 0
  · subst ha
    have ta : (0 : Int) ≠ 0 ↔ False := by simp
    by_cases hb : b = 0
    · subst hb
      have tb : (0 : Int) ≠ 0 ↔ False := by simp
      by_cases hc : c = 0
      · subst hc
        have tc : (0 : Int) ≠ 0 ↔ False := by simp
        by_cases hd : d = 0
        · subst hd
          have td : (0 : Int) ≠ 0 ↔ False := by simp
          go_enter Try.func46, Try.ntmps46
          go_wp2
          refine wp_loop_rounds 5 ?_
          rw [rounds_succ]
          go_wp2
          rw [rounds_succ]
          go_wp2
          rw [rounds_succ]
          go_wp2
          rw [rounds_succ]
          go_wp2
          rw [rounds_succ]
          go_wp2
          go_ret
          exact ⟨by simp, rfl⟩
        · go_enter Try.func46, Try.ntmps46
          go_wp2
          refine wp_loop_rounds 4 ?_
          rw [rounds_succ]
          go_wp2
          rw [rounds_succ]
          go_wp2
          rw [rounds_succ]
          go_wp2
          rw [rounds_succ]
          go_wp2
          go_ret
          exact ⟨by simp, rfl⟩
      · go_enter Try.func46, Try.ntmps46
        go_wp2
        refine wp_loop_rounds 3 ?_
        rw [rounds_succ]
        go_wp2
        rw [rounds_succ]
        go_wp2
        rw [rounds_succ]
        go_wp2
        go_ret
        exact ⟨by simp, rfl⟩
    · go_enter Try.func46, Try.ntmps46
      go_wp2
      refine wp_loop_rounds 2 ?_
      rw [rounds_succ]
      go_wp2
      rw [rounds_succ]
      go_wp2
      go_ret
      exact ⟨by simp, rfl⟩
  · go_enter Try.func46, Try.ntmps46
    go_wp2
    refine wp_loop_rounds 1 ?_
    rw [rounds_succ]
    go_wp2
    go_ret
    exact ⟨by simp, rfl⟩

/-- w' is w but for draws and new blocks. -/
def Grown (w w' : World) : Prop := ∃ (q : Nat) (os : Array Obj), w' = grow (w.drewN q) os
theorem Grown.refl (w : World) : Grown w w := ⟨0, #[], by rw [grow_empty]; rfl⟩
theorem Grown.alloc {w w' : World} (h : Grown w w') (o : Obj) : Grown w (w'.alloc o) := by
  obtain ⟨q, os, rfl⟩ := h
  exact ⟨q, os ++ #[o], by rw [alloc_eq_grow, grow_grow]⟩
theorem Grown.drew {w w' : World} (h : Grown w w') : Grown w w'.drew := by
  obtain ⟨q, os, rfl⟩ := h
  exact ⟨q + 1, os, by rw [drew_grow]; rfl⟩

def cmpL (x y : Lk) : Int := or4 (cmpS x.b y.b) (cmpS x.s y.s) (cmpI x.r y.r) (cmpI x.c y.c)

set_option maxHeartbeats 3200000 in
theorem order_any (W : World) (x y : Lk) : Calls Try.prog 45 #[x.val, y.val] W fun e w' => e = .returned (.int .i64 (cmpL x y)) ∧ Grown W w' := by
  obtain ⟨xb, xs, xc, xr⟩ := x
  obtain ⟨yb, ys, yc, yr⟩ := y
  have C0 := fun w => CompareS_any w xb yb
  have C1 := fun w => CompareS_any w xs ys
  have C2 := fun w => CompareI_any w xr yr
  have C3 := fun w => CompareI_any w xc yc
  unfold cmpL Lk.val
  simp only
  obtain ⟨c0, hc0⟩ : ∃ c, cmpS xb yb = c := ⟨_, rfl⟩
  obtain ⟨c1, hc1⟩ : ∃ c, cmpS xs ys = c := ⟨_, rfl⟩
  obtain ⟨c2, hc2⟩ : ∃ c, cmpI xr yr = c := ⟨_, rfl⟩
  obtain ⟨c3, hc3⟩ : ∃ c, cmpI xc yc = c := ⟨_, rfl⟩
  rw [hc0] at C0
  rw [hc1] at C1
  rw [hc2] at C2
  rw [hc3] at C3
  rw [hc0, hc1, hc2, hc3]
  have OR := fun w g => Or_any w g c0 c1 c2 c3
  obtain ⟨r, hr⟩ : ∃ r, or4 c0 c1 c2 c3 = r := ⟨_, rfl⟩
  rw [hr] at OR ⊢
  obtain ⟨W1, hW1⟩ : ∃ W1, (W.alloc (.cells (Lk.mk xb xs xc xr).cs 30)).alloc (.cells (Lk.mk yb ys yc yr).cs 30) = W1 := ⟨_, rfl⟩
  have g1 : Grown W W1 := hW1 ▸ ((Grown.refl W).alloc _).alloc _
  have bx : W1.heap[W.heap.size]? = some (.cells #[enS xb, enS xs, .int .i64 xc, .int .i64 xr] 30 (0, 0)) := hW1 ▸ block_alloc (Vnew1 W _) _
  have by' : W1.heap[W.heap.size + 1]? = some (.cells #[enS yb, enS ys, .int .i64 yc, .int .i64 yr] 30 (0, 0)) := hW1 ▸ Vnew2 W _ _
  obtain ⟨p, hp⟩ : ∃ p, W.heap.size = p := ⟨_, rfl⟩
  rw [hp] at bx by'
  obtain ⟨x0, x1, x2, x3⟩ := cells4 bx
  obtain ⟨y0, y1, y2, y3⟩ := cells4 by'
  have lx := lt_at bx
  have ly := lt_at by'
  unfold Lk.cs at hW1
  simp only at hW1
  have HC0 := hide C0
  have HC1 := hide C1
  have HC2 := hide C2
  have HC3 := hide C3
  have HOR := hide OR
  have HG := hide g1
  have HW1 := hide hW1
  have HP := hide hp
  clear C0 C1 C2 C3 OR g1 hW1 hc0 hc1 hc2 hc3 hr bx by' hp
  go_enter Try.func45, Try.ntmps45
  go_wp2_with fail
  rw [HW1.out, HP.out]
  refine wp_region_still_tail 24 (by kernel_rfl) (by kernel_rfl) ?_
  simp only [List.take_succ_cons, List.take_zero, List.drop_succ_cons, List.drop_zero]
  still_step
  still_step
  still_step
  still_step
  still_call (HC0.out _)
  still_step
  still_step
  still_step
  still_step
  still_call (HC1.out _)
  still_step
  still_step
  still_step
  still_step
  still_step
  still_step
  still_call (HC2.out _)
  still_step
  still_step
  still_step
  still_step
  still_step
  still_step
  still_call (HC3.out _)
  refine wpStill_nil ?_
  change wpList _ _ _ _ _ W1.drew
  go_wp2_with (go_at_call 46; refine Calls.mono (HOR.out _ _ ?_ ?_ ?_ ?_) ?_; rotate_left 4; rintro e w2 ⟨rfl, rfl⟩)
  · go_ret
    exact ⟨rfl, (HG.out.alloc _).drew⟩
  · exact cell_at (Vnew1 W1 _) 0 _ rfl
  · exact cell_at (Vnew1 W1 _) 1 _ rfl
  · exact cell_at (Vnew1 W1 _) 2 _ rfl
  · exact cell_at (Vnew1 W1 _) 3 _ rfl

theorem cmpS_lt {x y : List UInt8} : cmpS x y < 0 ↔ x < y := by
  unfold cmpS
  by_cases h : x < y
  · simp [h]
  · by_cases h2 : y < x <;> simp [h, h2]
theorem cmpS_zero {x y : List UInt8} : cmpS x y = 0 ↔ x = y := by
  unfold cmpS
  by_cases h : x < y
  · have : x ≠ y := fun q => by subst q; exact List.lt_irrefl _ h
    simp [h, this]
  · by_cases h2 : y < x
    · have : x ≠ y := fun q => by subst q; exact List.lt_irrefl _ h2
      simp [h, h2, this]
    · have : x = y := List.le_antisymm (List.not_lt.1 h2) (List.not_lt.1 h)
      rw [if_neg h, if_neg h2]
      simp [this]
theorem cmpI_lt {x y : Int} : cmpI x y < 0 ↔ x < y := by
  unfold cmpI
  split
  · simp [*]
  · split <;> simp [*]
theorem cmpI_zero {x y : Int} : cmpI x y = 0 ↔ x = y := by
  unfold cmpI
  split
  · simp; omega
  · split
    · simp; omega
    · simp; omega
/-- One link ahead of another one. -/
def ltP (x y : Lk) : Prop := x.b < y.b ∨ (x.b = y.b ∧ (x.s < y.s ∨ (x.s = y.s ∧ (x.r < y.r ∨ (x.r = y.r ∧ x.c < y.c)))))
theorem cmpL_lt {x y : Lk} : cmpL x y < 0 ↔ ltP x y := by
  unfold cmpL ltP or4
  by_cases h : x.b = y.b
  · rw [if_neg (by simpa using cmpS_zero.2 h)]
    have n0 : ¬ y.b < y.b := List.lt_irrefl _
    by_cases h1 : x.s = y.s
    · rw [if_neg (by simpa using cmpS_zero.2 h1)]
      have n1 : ¬ y.s < y.s := List.lt_irrefl _
      by_cases h2 : x.r = y.r
      · rw [if_neg (by simpa using cmpI_zero.2 h2), cmpI_lt]
        simp [h, h1, h2, n0, n1]
      · rw [if_pos (fun q => h2 (cmpI_zero.1 q)), cmpI_lt]
        simp [h, h1, h2, n0, n1]
    · rw [if_pos (fun q => h1 (cmpS_zero.1 q)), cmpS_lt]
      simp [h, h1, n0]
  · rw [if_pos (fun q => h (cmpS_zero.1 q)), cmpS_lt]
    simp [h]
theorem ltP_irrefl (x : Lk) : ¬ ltP x x := by
  rintro (h | ⟨_, h | ⟨_, h | ⟨_, h⟩⟩⟩)
  · exact List.lt_irrefl _ h
  · exact List.lt_irrefl _ h
  · omega
  · omega
theorem ltP_trans {x y z : Lk} (h1 : ltP x y) (h2 : ltP y z) : ltP x z := by
  unfold ltP at *
  rcases h1 with h1 | ⟨e1, h1⟩
  · rcases h2 with h2 | ⟨e2, h2⟩
    · exact .inl (List.lt_trans h1 h2)
    · exact .inl (e2 ▸ h1)
  · rcases h2 with h2 | ⟨e2, h2⟩
    · exact .inl (e1 ▸ h2)
    · refine .inr ⟨e1.trans e2, ?_⟩
      rcases h1 with h1 | ⟨f1, h1⟩
      · rcases h2 with h2 | ⟨f2, h2⟩
        · exact .inl (List.lt_trans h1 h2)
        · exact .inl (f2 ▸ h1)
      · rcases h2 with h2 | ⟨f2, h2⟩
        · exact .inl (f1 ▸ h2)
        · refine .inr ⟨f1.trans f2, ?_⟩
          omega
theorem ltP_total {x y : Lk} (h1 : ¬ ltP x y) (h2 : ¬ ltP y x) : x = y := by
  unfold ltP at h1 h2
  have e1 : x.b = y.b := List.le_antisymm (List.not_lt.1 fun q => h2 (.inl q)) (List.not_lt.1 fun q => h1 (.inl q))
  have e2 : x.s = y.s := List.le_antisymm (List.not_lt.1 fun q => h2 (.inr ⟨e1.symm, .inl q⟩)) (List.not_lt.1 fun q => h1 (.inr ⟨e1, .inl q⟩))
  have n1 : ¬ (x.r < y.r ∨ (x.r = y.r ∧ x.c < y.c)) := fun q => h1 (.inr ⟨e1, .inr ⟨e2, q⟩⟩)
  have n2 : ¬ (y.r < x.r ∨ (y.r = x.r ∧ y.c < x.c)) := fun q => h2 (.inr ⟨e1.symm, .inr ⟨e2.symm, q⟩⟩)
  obtain ⟨a, b, c, d⟩ := x
  obtain ⟨a', b', c', d'⟩ := y
  simp only at *
  have : d = d' := by omega
  have : c = c' := by omega
  subst_vars
  rfl
end Go.Proofs.Ytcclkfkdafmemaa
