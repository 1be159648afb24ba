/- The walks of package fixed: what may be. -/
import Derived.Test.YtcclkfkdafmemaaLib
set_option maxRecDepth 100000
namespace Go.Proofs.Ytcclkfkdafmemaa
open Go.RowKit Go.Lat

def okNum (a : Int) : Bool := decide (-9000000000000000000 ≤ a) && decide (a ≤ 9000000000000000000)

theorem okNum_true {a : Int} (h : okNum a = true) : -9000000000000000000 ≤ a ∧ a ≤ 9000000000000000000 := by simpa [okNum] using h
theorem okNum_false {a : Int} (h : okNum a = false) : a < -9000000000000000000 ∨ 9000000000000000000 < a := by
  simp [okNum] at h
  omega

theorem fixgood_any (w : World) (B : Nat) (a : Int) (hc : w.cell? ⟨B, 0, none⟩ = some (.int .i64 a)) : Calls Try.prog 75 #[.slice (some ⟨B, 0, none⟩) 1 1] w fun e w' => e = .returned (.bool (okNum a)) ∧ w' = w := by
  unfold okNum
  by_cases h1 : a < -9000000000000000000
  · have d1 : decide (a < -9000000000000000000) = true := by simpa using h1
    have d2 : decide (-9000000000000000000 ≤ a) = false := by simp; omega
    rw [d2]
    clear h1 d2
    go_enter Try.func75, Try.ntmps75
    go_wp2_with fail
    refine wp_loop_rounds 1 ?_
    rw [rounds_succ]
    go_wp2_with fail
    go_ret
    exact ⟨rfl, rfl⟩
  · have d1 : decide (a < -9000000000000000000) = false := by simpa using h1
    have d2 : decide (-9000000000000000000 ≤ a) = true := by simp; omega
    rw [d2]
    clear h1 d2
    by_cases h3 : 9000000000000000000 < a
    · have d3 : decide (9000000000000000000 < a) = true := by simpa using h3
      have d4 : decide (a ≤ 9000000000000000000) = false := by simp; omega
      rw [d4]
      clear h3 d4
      go_enter Try.func75, Try.ntmps75
      go_wp2_with fail
      refine wp_loop_rounds 1 ?_
      rw [rounds_succ]
      go_wp2_with fail
      go_ret
      exact ⟨rfl, rfl⟩
    · have d3 : decide (9000000000000000000 < a) = false := by simpa using h3
      have d4 : decide (a ≤ 9000000000000000000) = true := by simp; omega
      rw [d4]
      clear h3 d4
      go_enter Try.func75, Try.ntmps75
      go_wp2_with fail
      refine wp_loop_rounds 2 ?_
      rw [rounds_succ]
      go_wp2_with fail
      rw [rounds_succ]
      go_wp2_with fail
      go_ret
      exact ⟨rfl, rfl⟩

theorem fixgood2_any (w : World) (B : Nat) (a b : Int) (hc : w.cell? ⟨B, 0, none⟩ = some (.int .i64 a)) (hc2 : w.cell? ⟨B, 1, none⟩ = some (.int .i64 b)) :
    Calls Try.prog 75 #[.slice (some ⟨B, 0, none⟩) 2 2] w fun e w' => e = .returned (.bool (okNum a && okNum b)) ∧ w' = w := by
  cases ha : okNum a with
  | false =>
    simp only [Bool.false_and]
    by_cases h1 : a < -9000000000000000000
    · have d1 : decide (a < -9000000000000000000) = true := by simpa using h1
      clear h1 ha
      go_enter Try.func75, Try.ntmps75
      go_wp2_with fail
      refine wp_loop_rounds 1 ?_
      rw [rounds_succ]
      go_wp2_with fail
      go_ret
      exact ⟨rfl, rfl⟩
    · have d1 : decide (a < -9000000000000000000) = false := by simpa using h1
      have d3 : decide (9000000000000000000 < a) = true := by have := okNum_false ha; simp; omega
      clear h1 ha
      go_enter Try.func75, Try.ntmps75
      go_wp2_with fail
      refine wp_loop_rounds 1 ?_
      rw [rounds_succ]
      go_wp2_with fail
      go_ret
      exact ⟨rfl, rfl⟩
  | true =>
    have d1 : decide (a < -9000000000000000000) = false := by have := okNum_true ha; simp; omega
    have d3 : decide (9000000000000000000 < a) = false := by have := okNum_true ha; simp; omega
    clear ha
    simp only [Bool.true_and]
    cases hb : okNum b with
    | false =>
      by_cases h1 : b < -9000000000000000000
      · have d4 : decide (b < -9000000000000000000) = true := by simpa using h1
        clear h1 hb
        go_enter Try.func75, Try.ntmps75
        go_wp2_with fail
        refine wp_loop_rounds 2 ?_
        rw [rounds_succ]
        go_wp2_with fail
        rw [rounds_succ]
        go_wp2_with fail
        go_ret
        exact ⟨rfl, rfl⟩
      · have d4 : decide (b < -9000000000000000000) = false := by simpa using h1
        have d5 : decide (9000000000000000000 < b) = true := by have := okNum_false hb; simp; omega
        clear h1 hb
        go_enter Try.func75, Try.ntmps75
        go_wp2_with fail
        refine wp_loop_rounds 2 ?_
        rw [rounds_succ]
        go_wp2_with fail
        rw [rounds_succ]
        go_wp2_with fail
        go_ret
        exact ⟨rfl, rfl⟩
    | true =>
      have d4 : decide (b < -9000000000000000000) = false := by have := okNum_true hb; simp; omega
      have d5 : decide (9000000000000000000 < b) = false := by have := okNum_true hb; simp; omega
      clear hb
      go_enter Try.func75, Try.ntmps75
      go_wp2_with fail
      refine wp_loop_rounds 3 ?_
      rw [rounds_succ]
      go_wp2_with fail
      rw [rounds_succ]
      go_wp2_with fail
      rw [rounds_succ]
      go_wp2_with fail
      go_ret
      exact ⟨rfl, rfl⟩

theorem told_any (w : World) (a : Int) : Calls Try.prog 64 #[.int .i64 a] w fun e w' => e = .returned (.tuple #[.int .i64 (if okNum a then a else 0), .int .i64 (if okNum a then 0 else 5)]) ∧ Upd w w' (fun _ => False) := by
  have hg := fixgood_any (w.alloc (.cells #[.int .i64 a] 43)) w.heap.size a (cells1 (heap_alloc_new w _))
  obtain ⟨x, hx⟩ : ∃ x, okNum a = x := ⟨_, rfl⟩
  rw [hx] at hg ⊢
  clear hx
  cases x with
  | true =>
    go_enter Try.func64, Try.ntmps64
    go_wp2_with fail
    refine Calls.mono hg ?_
    rintro e w1 ⟨rfl, rfl⟩
    go_wp2_with fail
    go_ret2
    exact ⟨rfl, (Upd.refl w _).alloc _⟩
  | false =>
    go_enter Try.func64, Try.ntmps64
    go_wp2_with fail
    refine Calls.mono hg ?_
    rintro e w1 ⟨rfl, rfl⟩
    go_wp2_with fail
    go_ret2
    exact ⟨rfl, (Upd.refl w _).alloc _⟩

theorem Raw_any (w : World) (a : Int) : Calls Try.prog 58 #[.int .i64 a] w fun e w' => e = .returned (.tuple #[.int .i64 (if okNum a then a else 0), .int .i64 (if okNum a then 0 else 5)]) ∧ Upd w w' (fun _ => False) := by
  go_enter Try.func58, Try.ntmps58
  go_wp2_with fail
  refine Calls.mono (told_any w a) ?_
  rintro e w1 ⟨rfl, hu⟩
  go_wp2_with fail
  all_goals go_ret2
  all_goals exact ⟨rfl, hu⟩

end Go.Proofs.Ytcclkfkdafmemaa
