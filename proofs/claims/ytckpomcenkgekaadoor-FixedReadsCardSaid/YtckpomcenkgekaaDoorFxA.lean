/- The walks of package fixed: what may be, sums, differences, whole numbers. -/
import Derived.Test.YtckpomcenkgekaaDoorLib
set_option maxRecDepth 100000
namespace Go.Proofs.YtckpomcenkgekaaDoor
open Go.RowKit Go.Lat

def okNum (a : Int) : Bool := decide (-9000000000000000000 ≤ a) && decide (a ≤ 9000000000000000000)

theorem okNum_true {a : Int} (h : okNum a = true) : -9000000000000000000 ≤ a ∧ a ≤ 9000000000000000000 := by simpa [okNum] using h
theorem okNum_false {a : Int} (h : okNum a = false) : a < -9000000000000000000 ∨ 9000000000000000000 < a := by
  simp [okNum] at h
  omega

theorem fixgood_any (w : World) (B : Nat) (a : Int) (hc : w.cell? ⟨B, 0, none⟩ = some (.int .i64 a)) : Calls Tryd.prog 33 #[.slice (some ⟨B, 0, none⟩) 1 1] w fun e w' => e = .returned (.bool (okNum a)) ∧ w' = w := by
  unfold okNum
  by_cases h1 : a < -9000000000000000000
  · have d1 : decide (a < -9000000000000000000) = true := by simpa using h1
    have d2 : decide (-9000000000000000000 ≤ a) = false := by simp; omega
    rw [d2]
    clear h1 d2
    go_enter Tryd.func33, Tryd.ntmps33
    go_wp2_with fail
    refine wp_loop_rounds 1 ?_
    rw [rounds_succ]
    go_wp2_with fail
    go_ret
    exact ⟨rfl, rfl⟩
  · have d1 : decide (a < -9000000000000000000) = false := by simpa using h1
    have d2 : decide (-9000000000000000000 ≤ a) = true := by simp; omega
    rw [d2]
    clear h1 d2
    by_cases h3 : 9000000000000000000 < a
    · have d3 : decide (9000000000000000000 < a) = true := by simpa using h3
      have d4 : decide (a ≤ 9000000000000000000) = false := by simp; omega
      rw [d4]
      clear h3 d4
      go_enter Tryd.func33, Tryd.ntmps33
      go_wp2_with fail
      refine wp_loop_rounds 1 ?_
      rw [rounds_succ]
      go_wp2_with fail
      go_ret
      exact ⟨rfl, rfl⟩
    · have d3 : decide (9000000000000000000 < a) = false := by simpa using h3
      have d4 : decide (a ≤ 9000000000000000000) = true := by simp; omega
      rw [d4]
      clear h3 d4
      go_enter Tryd.func33, Tryd.ntmps33
      go_wp2_with fail
      refine wp_loop_rounds 2 ?_
      rw [rounds_succ]
      go_wp2_with fail
      rw [rounds_succ]
      go_wp2_with fail
      go_ret
      exact ⟨rfl, rfl⟩

theorem fixgood2_any (w : World) (B : Nat) (a b : Int) (hc : w.cell? ⟨B, 0, none⟩ = some (.int .i64 a)) (hc2 : w.cell? ⟨B, 1, none⟩ = some (.int .i64 b)) :
    Calls Tryd.prog 33 #[.slice (some ⟨B, 0, none⟩) 2 2] w fun e w' => e = .returned (.bool (okNum a && okNum b)) ∧ w' = w := by
  cases ha : okNum a with
  | false =>
    simp only [Bool.false_and]
    by_cases h1 : a < -9000000000000000000
    · have d1 : decide (a < -9000000000000000000) = true := by simpa using h1
      clear h1 ha
      go_enter Tryd.func33, Tryd.ntmps33
      go_wp2_with fail
      refine wp_loop_rounds 1 ?_
      rw [rounds_succ]
      go_wp2_with fail
      go_ret
      exact ⟨rfl, rfl⟩
    · have d1 : decide (a < -9000000000000000000) = false := by simpa using h1
      have d3 : decide (9000000000000000000 < a) = true := by have := okNum_false ha; simp; omega
      clear h1 ha
      go_enter Tryd.func33, Tryd.ntmps33
      go_wp2_with fail
      refine wp_loop_rounds 1 ?_
      rw [rounds_succ]
      go_wp2_with fail
      go_ret
      exact ⟨rfl, rfl⟩
  | true =>
    have d1 : decide (a < -9000000000000000000) = false := by have := okNum_true ha; simp; omega
    have d3 : decide (9000000000000000000 < a) = false := by have := okNum_true ha; simp; omega
    clear ha
    simp only [Bool.true_and]
    cases hb : okNum b with
    | false =>
      by_cases h1 : b < -9000000000000000000
      · have d4 : decide (b < -9000000000000000000) = true := by simpa using h1
        clear h1 hb
        go_enter Tryd.func33, Tryd.ntmps33
        go_wp2_with fail
        refine wp_loop_rounds 2 ?_
        rw [rounds_succ]
        go_wp2_with fail
        rw [rounds_succ]
        go_wp2_with fail
        go_ret
        exact ⟨rfl, rfl⟩
      · have d4 : decide (b < -9000000000000000000) = false := by simpa using h1
        have d5 : decide (9000000000000000000 < b) = true := by have := okNum_false hb; simp; omega
        clear h1 hb
        go_enter Tryd.func33, Tryd.ntmps33
        go_wp2_with fail
        refine wp_loop_rounds 2 ?_
        rw [rounds_succ]
        go_wp2_with fail
        rw [rounds_succ]
        go_wp2_with fail
        go_ret
        exact ⟨rfl, rfl⟩
    | true =>
      have d4 : decide (b < -9000000000000000000) = false := by have := okNum_true hb; simp; omega
      have d5 : decide (9000000000000000000 < b) = false := by have := okNum_true hb; simp; omega
      clear hb
      go_enter Tryd.func33, Tryd.ntmps33
      go_wp2_with fail
      refine wp_loop_rounds 3 ?_
      rw [rounds_succ]
      go_wp2_with fail
      rw [rounds_succ]
      go_wp2_with fail
      rw [rounds_succ]
      go_wp2_with fail
      go_ret
      exact ⟨rfl, rfl⟩

theorem told_any (w : World) (a : Int) : Calls Tryd.prog 49 #[.int .i64 a] w fun e w' => e = .returned (.tuple #[.int .i64 (if okNum a then a else 0), .int .i64 (if okNum a then 0 else 5)]) ∧ Upd w w' (fun _ => False) := by
  have hg := fixgood_any (w.alloc (.cells #[.int .i64 a] 22)) w.heap.size a (cells1 (heap_alloc_new w _))
  obtain ⟨x, hx⟩ : ∃ x, okNum a = x := ⟨_, rfl⟩
  rw [hx] at hg ⊢
  clear hx
  cases x with
  | true =>
    go_enter Tryd.func49, Tryd.ntmps49
    go_wp2_with fail
    refine Calls.mono hg ?_
    rintro e w1 ⟨rfl, rfl⟩
    go_wp2_with fail
    go_ret2
    exact ⟨rfl, (Upd.refl w _).alloc _⟩
  | false =>
    go_enter Tryd.func49, Tryd.ntmps49
    go_wp2_with fail
    refine Calls.mono hg ?_
    rintro e w1 ⟨rfl, rfl⟩
    go_wp2_with fail
    go_ret2
    exact ⟨rfl, (Upd.refl w _).alloc _⟩

theorem Raw_any (w : World) (a : Int) : Calls Tryd.prog 20 #[.int .i64 a] w fun e w' => e = .returned (.tuple #[.int .i64 (if okNum a then a else 0), .int .i64 (if okNum a then 0 else 5)]) ∧ Upd w w' (fun _ => False) := by
  go_enter Tryd.func20, Tryd.ntmps20
  go_wp2_with fail
  refine Calls.mono (told_any w a) ?_
  rintro e w1 ⟨rfl, hu⟩
  go_wp2_with fail
  all_goals go_ret2
  all_goals exact ⟨rfl, hu⟩

/-- The sum, and its error. -/
def addV (a b : Int) : Int := if okNum a && okNum b && okNum (a + b) then a + b else 0
def addE (a b : Int) : Int := if okNum a && okNum b && okNum (a + b) then 0 else 5

theorem Add_any (w : World) (a b : Int) : Calls Tryd.prog 21 #[.int .i64 a, .int .i64 b] w fun e w' => e = .returned (.tuple #[.int .i64 (addV a b), .int .i64 (addE a b)]) ∧ Upd w w' (fun _ => False) := by
  have hg := fixgood2_any (w.alloc (.cells #[.int .i64 a, .int .i64 b] 22)) w.heap.size a b (cells2 (heap_alloc_new w _)).1 (cells2 (heap_alloc_new w _)).2
  unfold addV addE
  cases hx : (okNum a && okNum b) with
  | false =>
    rw [hx] at hg
    simp only [Bool.false_and]
    clear hx
    go_enter Tryd.func21, Tryd.ntmps21
    go_wp2_with fail
    refine Calls.mono hg ?_
    rintro e w1 ⟨rfl, rfl⟩
    go_wp2_with fail
    go_ret2
    exact ⟨rfl, (Upd.refl w _).alloc _⟩
  | true =>
    rw [hx] at hg
    simp only [Bool.true_and]
    have hx' := hx
    simp only [Bool.and_eq_true] at hx'
    have ba := okNum_true hx'.1
    have bb := okNum_true hx'.2
    clear hx hx'
    have w1 : IntKind.i64.wrap (9000000000000000000 - b) = 9000000000000000000 - b ∨ ¬ 0 < b := by
      by_cases h : 0 < b
      · exact .inl (IntWalk.i64_in _ (by omega))
      · exact .inr h
    have w2 : IntKind.i64.wrap (-9000000000000000000 - b) = -9000000000000000000 - b ∨ ¬ b < 0 := by
      by_cases h : b < 0
      · exact .inl (IntWalk.i64_in _ (by omega))
      · exact .inr h
    by_cases hp : 0 < b
    · have d1 : decide (0 < b) = true := by simpa using hp
      have d2 : decide (b < 0) = false := by simp; omega
      have w1' := w1.resolve_right (by omega)
      clear w1 w2
      cases h3 : okNum (a + b) with
      | true =>
        have b3 := okNum_true h3
        have d3 : decide (9000000000000000000 - b < a) = false := by simp; omega
        have w3 : IntKind.i64.wrap (a + b) = a + b := IntWalk.i64_in _ (by omega)
        clear h3 ba bb b3 hp
        go_enter Tryd.func21, Tryd.ntmps21
        go_wp2_with fail
        refine Calls.mono hg ?_
        rintro e w1 ⟨rfl, rfl⟩
        go_wp2_with fail
        go_ret2
        exact ⟨rfl, (Upd.refl w _).alloc _⟩
      | false =>
        have b3 := okNum_false h3
        have d3 : decide (9000000000000000000 - b < a) = true := by simp; omega
        clear h3 ba bb b3 hp
        go_enter Tryd.func21, Tryd.ntmps21
        go_wp2_with fail
        refine Calls.mono hg ?_
        rintro e w1 ⟨rfl, rfl⟩
        go_wp2_with fail
        go_ret2
        exact ⟨rfl, (Upd.refl w _).alloc _⟩
    · have d1 : decide (0 < b) = false := by simpa using hp
      clear w1
      by_cases hn : b < 0
      · have d2 : decide (b < 0) = true := by simpa using hn
        have w2' := w2.resolve_right (by omega)
        clear w2
        cases h3 : okNum (a + b) with
        | true =>
          have b3 := okNum_true h3
          have d3 : decide (a < -9000000000000000000 - b) = false := by simp; omega
          have w3 : IntKind.i64.wrap (a + b) = a + b := IntWalk.i64_in _ (by omega)
          clear h3 ba bb b3 hp hn
          go_enter Tryd.func21, Tryd.ntmps21
          go_wp2_with fail
          refine Calls.mono hg ?_
          rintro e w1 ⟨rfl, rfl⟩
          go_wp2_with fail
          go_ret2
          exact ⟨rfl, (Upd.refl w _).alloc _⟩
        | false =>
          have b3 := okNum_false h3
          have d3 : decide (a < -9000000000000000000 - b) = true := by simp; omega
          clear h3 ba bb b3 hp hn
          go_enter Tryd.func21, Tryd.ntmps21
          go_wp2_with fail
          refine Calls.mono hg ?_
          rintro e w1 ⟨rfl, rfl⟩
          go_wp2_with fail
          go_ret2
          exact ⟨rfl, (Upd.refl w _).alloc _⟩
      · obtain rfl : b = 0 := by omega
        have h3 : okNum (a + 0) = true := by rw [Int.add_zero]; simp [okNum]; omega
        rw [h3]
        have w3 : IntKind.i64.wrap (a + 0) = a + 0 := IntWalk.i64_in _ (by omega)
        have w4 : IntKind.i64.wrap a = a := IntWalk.i64_in _ (by omega)
        clear w2 h3 ba bb hp hn
        go_enter Tryd.func21, Tryd.ntmps21
        go_wp2_with fail
        refine Calls.mono hg ?_
        rintro e w1 ⟨rfl, rfl⟩
        go_wp2_with fail
        go_ret2
        exact ⟨by simp, (Upd.refl w _).alloc _⟩
end Go.Proofs.YtckpomcenkgekaaDoor
