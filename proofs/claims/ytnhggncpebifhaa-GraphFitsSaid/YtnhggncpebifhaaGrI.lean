/- slices.Index, Min and Contains at nodes; the walk of close. -/
import Derived.Test.YtnhggncpebifhaaGrH
set_option maxRecDepth 100000
namespace Go.Lat
theorem foldl_min (l : List Nat) (a : Nat) : ∃ m : Nat, (l.map (fun (k : Nat) => (k : Int))).foldl min (a : Int) = (m : Int) ∧ m ≤ a ∧ (∀ u ∈ l, m ≤ u) ∧ (m = a ∨ m ∈ l) := by
  induction l generalizing a with
  | nil => exact ⟨a, rfl, Nat.le_refl _, by simp, .inl rfl⟩
  | cons x l ih =>
    have e : min (a : Int) (x : Int) = ((min a x : Nat) : Int) := by omega
    obtain ⟨m, h1, h2, h3, h4⟩ := ih (min a x)
    refine ⟨m, by simpa [e] using h1, by omega, fun u hu => ?_, ?_⟩
    · rcases List.mem_cons.1 hu with rfl | hu
      · omega
      · exact h3 u hu
    · rcases h4 with h4 | h4
      · by_cases q : a ≤ x
        · exact .inl (by omega)
        · exact .inr (by rw [h4, Nat.min_eq_right (by omega)]; simp)
      · exact .inr (List.mem_cons_of_mem _ h4)
theorem minOf_nat (l : List Nat) (h : l ≠ []) : ∃ m : Nat, Go.Lib.minOf (l.map (fun (k : Nat) => (k : Int))) = (m : Int) ∧ m ∈ l ∧ ∀ u ∈ l, m ≤ u := by
  cases l with
  | nil => exact absurd rfl h
  | cons a l =>
    obtain ⟨m, h1, h2, h3, h4⟩ := foldl_min (a :: l) a
    refine ⟨m, by simpa [Go.Lib.minOf] using h1, ?_, h3⟩
    rcases h4 with h4 | h4
    · rw [h4]; simp
    · exact h4
end Go.Lat
namespace Go.Proofs.Ytnhggncpebifhaa
open Go.RowKit Go.Lat Go.Tarjan

theorem getD_at {l : List Nat} {j : Nat} (h : j < l.length) : (natCells l)[j]? = some (.int .i64 ((l.map (fun (k : Nat) => (k : Int))).getD j 0)) := by
  rw [natCells_get (List.getElem?_eq_getElem h)]
  simp [List.getD, h]
theorem Index_any (w : World) (va : Option Addr) (vc : Nat) (l : List Nat) (h : Rw w 3 1 (.slice va l.length vc) l.length (natCells l)) (hl : l.length ≤ 1000000) (q x : Nat) (hq : l[q]? = some x) (hf : ∀ j, j < q → l[j]? ≠ some x) :
    Calls Try.prog 52 #[.slice va l.length vc, .int .i64 (x : Int)] w fun e w' => e = .returned (.int .i64 (q : Int)) ∧ w' = w := by
  have hql : q < l.length := (List.getElem?_eq_some_iff.1 hq).1
  obtain ⟨g, off, cap, hv, hg, hc⟩ := Rw.pos h (by omega)
  simp only [Value.slice.injEq, true_and] at hv
  obtain ⟨rfl, rfl⟩ := hv
  have hlen : (l.map (fun (k : Nat) => (k : Int))).length = l.length := by simp
  refine Calls.mono (Try.slices_Index_int g off l.length vc (l.map (fun (k : Nat) => (k : Int))) (x : Int) w (by rw [hlen]; exact Nat.le_refl _) (by omega) (fun j hj => hc _ _ (getD_at (by rw [hlen] at hj; exact hj)))) ?_
  rintro e w' ⟨rfl, rfl⟩
  rw [Lib.idxOf_hit _ _ q (x : Int) hql (by rw [hlen]; exact Nat.le_refl _) ?_ ?_]
  · exact ⟨rfl, rfl⟩
  · simp [List.getD, hq]
  · intro j hj e
    have hjl : j < l.length := by omega
    simp [List.getD, hjl] at e
    have e' : l[j] = x := by omega
    exact hf j hj (by rw [List.getElem?_eq_getElem hjl, e'])
theorem Min_any (w : World) (va : Option Addr) (vc : Nat) (l : List Nat) (h : Rw w 3 1 (.slice va l.length vc) l.length (natCells l)) (hl : l.length ≤ 1000000) (hne : l ≠ []) :
    ∃ mn : Nat, mn ∈ l ∧ (∀ u ∈ l, mn ≤ u) ∧ Calls Try.prog 53 #[.slice va l.length vc] w fun e w' => e = .returned (.int .i64 (mn : Int)) ∧ w' = w := by
  have hp : 0 < l.length := List.length_pos_iff.2 hne
  obtain ⟨g, off, cap, hv, hg, hc⟩ := Rw.pos h hp
  simp only [Value.slice.injEq, true_and] at hv
  obtain ⟨rfl, rfl⟩ := hv
  have hlen : (l.map (fun (k : Nat) => (k : Int))).length = l.length := by simp
  obtain ⟨mn, h1, h2, h3⟩ := minOf_nat l hne
  refine ⟨mn, h2, h3, Calls.mono (Try.slices_Min_int g off l.length vc (l.map (fun (k : Nat) => (k : Int))) w hp (by rw [hlen]; exact Nat.le_refl _) (by omega) (fun j hj => hc _ _ (getD_at (by rw [hlen] at hj; exact hj)))) ?_⟩
  rintro e w' ⟨rfl, rfl⟩
  rw [List.take_of_length_le (by rw [hlen]; exact Nat.le_refl _), h1]
  exact ⟨rfl, rfl⟩
theorem Contains_any (w : World) (va : Option Addr) (vc : Nat) (l : List Nat) (h : Rw w 3 1 (.slice va l.length vc) l.length (natCells l)) (hl : l.length ≤ 1000000) (x : Nat) :
    Calls Try.prog 45 #[.slice va l.length vc, .int .i64 (x : Int)] w fun e w' => e = .returned (.bool (decide (x ∈ l))) ∧ w' = w := by
  by_cases hp : l = []
  · subst hp
    refine Calls.mono (Try.slices_Contains_int_empty va vc (x : Int) w) ?_
    rintro e w' ⟨rfl, rfl⟩
    exact ⟨by simp, rfl⟩
  · obtain ⟨g, off, cap, hv, hg, hc⟩ := Rw.pos h (List.length_pos_iff.2 hp)
    simp only [Value.slice.injEq, true_and] at hv
    obtain ⟨rfl, rfl⟩ := hv
    have hlen : (l.map (fun (k : Nat) => (k : Int))).length = l.length := by simp
    refine Calls.mono (Try.slices_Contains_int g off l.length vc (l.map (fun (k : Nat) => (k : Int))) (x : Int) w (by rw [hlen]; exact Nat.le_refl _) (by omega) (fun j hj => hc _ _ (getD_at (by rw [hlen] at hj; exact hj)))) ?_
    rintro e w' ⟨rfl, rfl⟩
    rw [List.take_of_length_le (by rw [hlen]; exact Nat.le_refl _)]
    refine ⟨?_, rfl⟩
    congr 2
    rw [Bool.eq_iff_iff]
    simp
    constructor
    · rintro ⟨a, ha, e⟩
      have e' : a = x := by omega
      exact e' ▸ ha
    · exact fun q => ⟨x, q, rfl⟩
end Go.Proofs.Ytnhggncpebifhaa
