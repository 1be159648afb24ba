/- Rounds of the program and of the reference agree: the other cases, and the join. -/
import Derived.Test.YtckpomcenkgekaaDoorFRnd
set_option maxRecDepth 100000
namespace Go.Proofs.YtckpomcenkgekaaDoor
open Go.RowKit Go.Lat

theorem Round_bad (w : World) (a p : Int) (h : okNum a = false) : Calls Tryd.prog 27 #[.int .i64 a, .int .i64 p] w fun e w' => e = .returned (.tuple #[.int .i64 0, .int .i64 5]) ∧ Upd w w' (fun _ => False) := by
  have G := fun w B k => fixgood_any w B a k
  rw [h] at G
  clear h
  go_enter Tryd.func27, Tryd.ntmps27
  go_wp2_with fail
  refine Calls.mono (G _ _ (cells1 (heap_alloc_new w _))) ?_
  rintro e' w1 ⟨rfl, rfl⟩
  go_wp2_with fail
  go_ret2
  exact ⟨rfl, (Upd.refl w _).alloc _⟩

theorem Round_arg (w : World) (a p : Int) (h : okNum a = true) (hp : p < -15 ∨ 15 < p) : Calls Tryd.prog 27 #[.int .i64 a, .int .i64 p] w fun e w' => e = .returned (.tuple #[.int .i64 0, .int .i64 2]) ∧ Upd w w' (fun _ => False) := by
  have G := fun w B k => fixgood_any w B a k
  rw [h] at G
  clear h
  by_cases h1 : p < -15
  · have d1 : decide (p < -15) = true := by simpa using h1
    clear hp h1
    go_enter Tryd.func27, Tryd.ntmps27
    go_wp2_with fail
    refine Calls.mono (G _ _ (cells1 (heap_alloc_new w _))) ?_
    rintro e' w1 ⟨rfl, rfl⟩
    go_wp2_with fail
    go_ret2
    exact ⟨rfl, (Upd.refl w _).alloc _⟩
  · have d1 : decide (p < -15) = false := by simpa using h1
    have d2 : decide (15 < p) = true := by simp; omega
    clear hp h1
    go_enter Tryd.func27, Tryd.ntmps27
    go_wp2_with fail
    refine Calls.mono (G _ _ (cells1 (heap_alloc_new w _))) ?_
    rintro e' w1 ⟨rfl, rfl⟩
    go_wp2_with fail
    go_ret2
    exact ⟨rfl, (Upd.refl w _).alloc _⟩

theorem Round_same (w : World) (a p : Int) (h : okNum a = true) (h1 : 4 ≤ p) (h2 : p ≤ 15) : Calls Tryd.prog 27 #[.int .i64 a, .int .i64 p] w fun e w' => e = .returned (.tuple #[.int .i64 a, .int .i64 0]) ∧ Upd w w' (fun _ => False) := by
  have G := fun w B k => fixgood_any w B a k
  rw [h] at G
  have d1 : decide (p < -15) = false := by simp; omega
  have d2 : decide (15 < p) = false := by simp; omega
  have d3 : decide (4 ≤ p) = true := by simp; omega
  clear h h1 h2
  go_enter Tryd.func27, Tryd.ntmps27
  go_wp2_with fail
  refine Calls.mono (G _ _ (cells1 (heap_alloc_new w _))) ?_
  rintro e' w1 ⟨rfl, rfl⟩
  go_wp2_with fail
  go_ret2
  exact ⟨rfl, (Upd.refl w _).alloc _⟩

theorem RefRound_bad (w : World) (a p : Int) (h : okNum a = false) : Calls Tryd.prog 28 #[.int .i64 a, .int .i64 p] w fun e w' => e = .returned (.tuple #[.int .i64 0, .int .i64 5]) ∧ Upd w w' (fun _ => False) := by
  have G := fun w => RefGood_any w a
  rw [h] at G
  clear h
  go_enter Tryd.func28, Tryd.ntmps28
  go_wp2_with fail
  refine Calls.mono (G _) ?_
  rintro e' w1 ⟨rfl, hw⟩
  replace hw := hw.symm
  subst hw
  go_wp2_with fail
  go_ret2
  exact ⟨rfl, Upd.refl _ _⟩

theorem RefRound_arg (w : World) (a p : Int) (h : okNum a = true) (hp : p < -15 ∨ 15 < p) : Calls Tryd.prog 28 #[.int .i64 a, .int .i64 p] w fun e w' => e = .returned (.tuple #[.int .i64 0, .int .i64 2]) ∧ Upd w w' (fun _ => False) := by
  have G := fun w => RefGood_any w a
  rw [h] at G
  clear h
  by_cases h1 : p < -15
  · have d1 : decide (p < -15) = true := by simpa using h1
    clear hp h1
    go_enter Tryd.func28, Tryd.ntmps28
    go_wp2_with fail
    refine Calls.mono (G _) ?_
    rintro e' w1 ⟨rfl, hw⟩
    replace hw := hw.symm
    subst hw
    go_wp2_with fail
    go_ret2
    exact ⟨rfl, Upd.refl _ _⟩
  · have d1 : decide (p < -15) = false := by simpa using h1
    have d2 : decide (15 < p) = true := by simp; omega
    clear hp h1
    go_enter Tryd.func28, Tryd.ntmps28
    go_wp2_with fail
    refine Calls.mono (G _) ?_
    rintro e' w1 ⟨rfl, hw⟩
    replace hw := hw.symm
    subst hw
    go_wp2_with fail
    go_ret2
    exact ⟨rfl, Upd.refl _ _⟩

theorem RefRound_same (w : World) (a p : Int) (h : okNum a = true) (h1 : 4 ≤ p) (h2 : p ≤ 15) : Calls Tryd.prog 28 #[.int .i64 a, .int .i64 p] w fun e w' => e = .returned (.tuple #[.int .i64 a, .int .i64 0]) ∧ Upd w w' (fun _ => False) := by
  have G := fun w => RefGood_any w a
  rw [h] at G
  have d1 : decide (p < -15) = false := by simp; omega
  have d2 : decide (15 < p) = false := by simp; omega
  have d3 : decide (3 < p) = true := by simp; omega
  clear h h1 h2
  go_enter Tryd.func28, Tryd.ntmps28
  go_wp2_with fail
  refine Calls.mono (G _) ?_
  rintro e' w1 ⟨rfl, hw⟩
  replace hw := hw.symm
  subst hw
  go_wp2_with fail
  go_ret2
  exact ⟨rfl, Upd.refl _ _⟩

theorem Round_in (w : World) (s : Bool) (x : Nat) (hx : x ≤ 9000000000000000000) (h0 : s = true → 0 < x) (p : Int) (hp : -15 ≤ p) (hp2 : p ≤ 3) (e : Nat) (he : (e : Int) = 4 - p) :
    Calls Tryd.prog 27 #[.int .i64 (if s then -(x : Int) else x), .int .i64 p] w fun e' w' => e' = .returned (.tuple #[.int .i64 (numV s (rnd x (10 ^ e) * 10 ^ e)), .int .i64 (numE (rnd x (10 ^ e) * 10 ^ e))]) ∧ Upd w w' (fun _ => False) := by
  unfold rnd
  by_cases h : 2 * (x % 10 ^ e) < 10 ^ e
  · rw [if_pos h, Nat.add_zero]
    exact Round_down w s x hx h0 p hp hp2 e he _ rfl h
  · rw [if_neg h]
    exact Round_up w s x hx h0 p hp hp2 e he _ rfl (by omega)

/-- The program and the reference round alike. -/
theorem Round_both (a p : Int) : ∃ V E : Int,
    (∀ w, Calls Tryd.prog 27 #[.int .i64 a, .int .i64 p] w fun e w' => e = .returned (.tuple #[.int .i64 V, .int .i64 E]) ∧ Upd w w' (fun _ => False)) ∧
    (∀ w, Calls Tryd.prog 28 #[.int .i64 a, .int .i64 p] w fun e w' => e = .returned (.tuple #[.int .i64 V, .int .i64 E]) ∧ Upd w w' (fun _ => False)) := by
  cases h : okNum a with
  | false => exact ⟨0, 5, fun w => Round_bad w a p h, fun w => RefRound_bad w a p h⟩
  | true =>
    by_cases hp : p < -15 ∨ 15 < p
    · exact ⟨0, 2, fun w => Round_arg w a p h hp, fun w => RefRound_arg w a p h hp⟩
    · by_cases h4 : 4 ≤ p
      · exact ⟨a, 0, fun w => Round_same w a p h h4 (by omega), fun w => RefRound_same w a p h h4 (by omega)⟩
      · obtain ⟨s, x, ea, h0, hs, hx⟩ := signed a
        have ba := okNum_true h
        obtain ⟨e, he⟩ : ∃ e : Nat, (e : Int) = 4 - p := ⟨(4 - p).toNat, by omega⟩
        have hR := fun w => Round_in w s x (by omega) h0 p (by omega) (by omega) e he
        rw [← ea] at hR
        exact ⟨_, _, hR, fun w => RefRound_in w a h s x ea hs (by omega) p (by omega) (by omega) e he⟩
end Go.Proofs.YtckpomcenkgekaaDoor
