/- The order of pairs: cmp.Compare of texts, cmp.Or, the closure that Pairs hands to the sort. -/
import Derived.Test.YtleehgpfoigajaaNetC
import Derived.StillTailTactics
import Derived.Sort.Grow
import Derived.Sort.Walk0
set_option maxRecDepth 100000
namespace Go.Proofs.Ytleehgpfoigajaa
open Go.RowKit Go.Lat Go.Sort

theorem new1 (w : World) (A : Obj) : (w.alloc A).heap[w.heap.size]? = some A := heap_alloc_new w A
theorem new2 (w : World) (A B : Obj) : ((w.alloc A).alloc B).heap[w.heap.size + 1]? = some B := by
  have := heap_alloc_new (w.alloc A) B
  simpa using this
def cmpS (x y : List UInt8) : Int := if x < y then -1 else if y < x then 1 else 0
theorem isNaN_any (w : World) (x : List UInt8) : Calls Try.prog 37 #[encStr x] w fun e w' => e = .returned (.bool false) ∧ w' = w := by
  go_enter Try.func37, Try.ntmps37
  go_wp2_with fail
  go_ret
  exact ⟨by simp, rfl⟩
theorem Compare_any (w : World) (x y : List UInt8) : Calls Try.prog 26 #[encStr x, encStr y] w fun e w' => e = .returned (.int .i64 (cmpS x y)) ∧ w' = w := by
  have b1 : Op.bytesLess x y = decide (x < y) := bytesLess_eq x y
  have b2 : ¬ x < y → (x == y) = !decide (y < x) := by
    intro h1
    by_cases h : y < x
    · have h2 : ¬ x = y := fun q => by subst q; exact h1 h
      simp [h, h2]
    · have h2 : x = y := List.le_antisymm (List.not_lt.1 h) (List.not_lt.1 h1)
      simp [h2]
  have NA := fun v => isNaN_any w v
  unfold cmpS
  by_cases h1 : x < y
  · have d1 : decide (x < y) = true := by simpa using h1
    rw [d1] at b1
    rw [if_pos h1]
    clear h1 b2
    go_enter Try.func26, Try.ntmps26
    go_wp2_with (go_at_call 37; refine Calls.mono (NA _) ?_; rintro e w1 ⟨rfl, rfl⟩)
    go_ret
    exact ⟨rfl, rfl⟩
  · have d1 : decide (x < y) = false := by simpa using h1
    rw [d1] at b1
    rw [if_neg h1]
    have b2 := b2 h1
    by_cases h2 : y < x
    · have d2 : decide (y < x) = true := by simpa using h2
      rw [d2] at b2
      rw [if_pos h2]
      clear h1 h2
      go_enter Try.func26, Try.ntmps26
      go_wp2_with (go_at_call 37; refine Calls.mono (NA _) ?_; rintro e w1 ⟨rfl, rfl⟩)
      go_ret
      exact ⟨rfl, rfl⟩
    · have d2 : decide (y < x) = false := by simpa using h2
      rw [d2] at b2
      rw [if_neg h2]
      clear h1 h2
      go_enter Try.func26, Try.ntmps26
      go_wp2_with (go_at_call 37; refine Calls.mono (NA _) ?_; rintro e w1 ⟨rfl, rfl⟩)
      go_ret
      exact ⟨rfl, rfl⟩

theorem Or_any (w : World) (g : Nat) (a b : Int) (h0 : w.cell? ⟨g, 0, none⟩ = some (.int .i64 a)) (h1 : w.cell? ⟨g, 1, none⟩ = some (.int .i64 b)) :
    Calls Try.prog 25 #[.slice (some ⟨g, 0, none⟩) 2 2] w fun e w' => e = .returned (.int .i64 (if a ≠ 0 then a else b)) ∧ w' = w := by
  by_cases ha : a = 0
  · subst ha
    by_cases hb : b = 0
    · subst hb
      go_enter Try.func25, Try.ntmps25
      go_wp2
      refine wp_loop_rounds 3 ?_
      rw [rounds_succ]
      go_wp2
      rw [rounds_succ]
      go_wp2
      rw [rounds_succ]
      go_wp2
      go_ret
      exact ⟨rfl, rfl⟩
    · go_enter Try.func25, Try.ntmps25
      go_wp2
      refine wp_loop_rounds 2 ?_
      rw [rounds_succ]
      go_wp2
      rw [rounds_succ]
      go_wp2
      go_ret
      exact ⟨rfl, rfl⟩
  · go_enter Try.func25, Try.ntmps25
    go_wp2
    refine wp_loop_rounds 1 ?_
    rw [rounds_succ]
    go_wp2
    go_ret
    exact ⟨by simp, rfl⟩

/-- w' is w but for draws and new blocks. -/
def Grown (w w' : World) : Prop := ∃ (q : Nat) (os : Array Obj), w' = grow (w.drewN q) os
theorem Grown.refl (w : World) : Grown w w := ⟨0, #[], by rw [grow_empty]; rfl⟩
theorem Grown.alloc {w w' : World} (h : Grown w w') (o : Obj) : Grown w (w'.alloc o) := by
  obtain ⟨q, os, rfl⟩ := h
  exact ⟨q, os ++ #[o], by rw [alloc_eq_grow, grow_grow]⟩
theorem Grown.drew {w w' : World} (h : Grown w w') : Grown w w'.drew := by
  obtain ⟨q, os, rfl⟩ := h
  exact ⟨q + 1, os, by rw [drew_grow]; rfl⟩

abbrev Pr := List UInt8 × List UInt8
def cmpP (x y : Pr) : Int := if cmpS x.1 y.1 ≠ 0 then cmpS x.1 y.1 else cmpS x.2 y.2

set_option maxHeartbeats 3200000 in
theorem order_any (W : World) (x y : Pr) : Calls Try.prog 24 #[.agg #[encStr x.1, encStr x.2], .agg #[encStr y.1, encStr y.2]] W fun e w' => e = .returned (.int .i64 (cmpP x y)) ∧ Grown W w' := by
  obtain ⟨a0, a1⟩ := x
  obtain ⟨b0, b1⟩ := y
  have C0 := fun w => Compare_any w a0 b0
  have C1 := fun w => Compare_any w a1 b1
  unfold cmpP
  simp only
  obtain ⟨c0, hc0⟩ : ∃ c, cmpS a0 b0 = c := ⟨_, rfl⟩
  obtain ⟨c1, hc1⟩ : ∃ c, cmpS a1 b1 = c := ⟨_, rfl⟩
  rw [hc0] at C0
  rw [hc1] at C1
  rw [hc0, hc1]
  obtain ⟨r, hr⟩ : ∃ r, (if c0 ≠ 0 then c0 else c1) = r := ⟨_, rfl⟩
  rw [hr]
  have OR : ∀ w g, w.cell? ⟨g, 0, none⟩ = some (.int .i64 c0) → w.cell? ⟨g, 1, none⟩ = some (.int .i64 c1) → Calls Try.prog 25 #[.slice (some ⟨g, 0, none⟩) 2 2] w fun e w' => e = .returned (.int .i64 r) ∧ w' = w := fun w g h0 h1 => hr ▸ Or_any w g c0 c1 h0 h1
  obtain ⟨W1, hW1⟩ : ∃ W1, (W.alloc (.cells #[encStr a0, encStr a1] 40)).alloc (.cells #[encStr b0, encStr b1] 40) = W1 := ⟨_, rfl⟩
  have g1 : Grown W W1 := hW1 ▸ ((Grown.refl W).alloc _).alloc _
  have bx : W1.heap[W.heap.size]? = some (.cells #[encStr a0, encStr a1] 40 (0, 0)) := hW1 ▸ block_alloc (new1 W _) _
  have by' : W1.heap[W.heap.size + 1]? = some (.cells #[encStr b0, encStr b1] 40 (0, 0)) := hW1 ▸ new2 W _ _
  obtain ⟨p, hp⟩ : ∃ p, W.heap.size = p := ⟨_, rfl⟩
  rw [hp] at bx by'
  obtain ⟨x0, x1⟩ := cells2 bx
  obtain ⟨y0, y1⟩ := cells2 by'
  have lx := lt_at bx
  have ly := lt_at by'
  have HC0 := hide C0
  have HC1 := hide C1
  have HOR := hide OR
  have HG := hide g1
  have HW1 := hide hW1
  have HP := hide hp
  clear C0 C1 OR g1 hW1 hc0 hc1 hr bx by' hp
  go_enter Try.func24, Try.ntmps24
  go_wp2_with fail
  rw [HW1.out, HP.out]
  refine wp_region_still_tail 10 (by kernel_rfl) (by kernel_rfl) ?_
  simp only [List.take_succ_cons, List.take_zero, List.drop_succ_cons, List.drop_zero]
  still_step
  still_step
  still_step
  still_step
  still_call (HC0.out _)
  still_step
  still_step
  still_step
  still_step
  still_call (HC1.out _)
  refine wpStill_nil ?_
  change wpList _ _ _ _ _ W1.drew
  go_wp2_with (go_at_call 25; refine Calls.mono (HOR.out _ _ ?_ ?_) ?_; rotate_left 2; rintro e w2 ⟨rfl, rfl⟩)
  · go_ret
    exact ⟨rfl, (HG.out.alloc _).drew⟩
  · exact cell_at (new1 W1 _) 0 _ rfl
  · exact cell_at (new1 W1 _) 1 _ rfl

theorem cmpS_lt {x y : List UInt8} : cmpS x y < 0 ↔ x < y := by
  unfold cmpS
  by_cases h : x < y
  · simp [h]
  · by_cases h2 : y < x <;> simp [h, h2]
theorem cmpS_zero {x y : List UInt8} : cmpS x y = 0 ↔ x = y := by
  unfold cmpS
  by_cases h : x < y
  · have : x ≠ y := fun q => by subst q; exact List.lt_irrefl _ h
    simp [h, this]
  · by_cases h2 : y < x
    · have : x ≠ y := fun q => by subst q; exact List.lt_irrefl _ h2
      simp [h, h2, this]
    · have : x = y := List.le_antisymm (List.not_lt.1 h2) (List.not_lt.1 h)
      rw [if_neg h, if_neg h2]
      simp [this]
/-- One pair ahead of another one. -/
def ltP (x y : Pr) : Prop := x.1 < y.1 ∨ (x.1 = y.1 ∧ x.2 < y.2)
theorem cmpP_lt {x y : Pr} : cmpP x y < 0 ↔ ltP x y := by
  unfold cmpP ltP
  by_cases h : x.1 = y.1
  · have h0 := cmpS_zero.2 h
    rw [if_neg (by simpa using h0), cmpS_lt]
    have : ¬ x.1 < y.1 := by rw [h]; exact List.lt_irrefl _
    exact ⟨fun q => .inr ⟨h, q⟩, fun q => q.elim (fun z => absurd z this) (fun z => z.2)⟩
  · have h0 : cmpS x.1 y.1 ≠ 0 := fun q => h (cmpS_zero.1 q)
    rw [if_pos h0, cmpS_lt]
    simp [h]
theorem ltP_irrefl (x : Pr) : ¬ ltP x x := by
  rintro (h | ⟨_, h⟩)
  · exact List.lt_irrefl _ h
  · exact List.lt_irrefl _ h
theorem ltP_trans {x y z : Pr} (h1 : ltP x y) (h2 : ltP y z) : ltP x z := by
  rcases h1 with h1 | ⟨e1, h1⟩
  · rcases h2 with h2 | ⟨e2, h2⟩
    · exact .inl (List.lt_trans h1 h2)
    · exact .inl (e2 ▸ h1)
  · rcases h2 with h2 | ⟨e2, h2⟩
    · exact .inl (e1 ▸ h2)
    · exact .inr ⟨e1.trans e2, List.lt_trans h1 h2⟩
theorem ltP_total {x y : Pr} (h1 : ¬ ltP x y) (h2 : ¬ ltP y x) : x = y := by
  have e1 : x.1 = y.1 := List.le_antisymm (List.not_lt.1 fun q => h2 (.inl q)) (List.not_lt.1 fun q => h1 (.inl q))
  have e2 : x.2 = y.2 := List.le_antisymm (List.not_lt.1 fun q => h2 (.inr ⟨e1.symm, q⟩)) (List.not_lt.1 fun q => h1 (.inr ⟨e1, q⟩))
  exact Prod.ext e1 e2
end Go.Proofs.Ytleehgpfoigajaa
