/- The way's memory: a slice of frames. -/
import Derived.Test.YtnhggncpebifhaaGrJ
import Derived.Test.YtnhggncpebifhaaGrK
set_option maxRecDepth 100000
namespace Go.Proofs.Ytnhggncpebifhaa
open Go.RowKit Go.Lat Go.Tarjan

def frC (f : Nat × Nat) : List Value := [.int .i64 (f.1 : Int), .int .i64 (f.2 : Int)]
def wayCells (l : List (Nat × Nat)) : List Value := l.reverse.flatMap frC
theorem wayCells_cons (f : Nat × Nat) (r : List (Nat × Nat)) : wayCells (f :: r) = wayCells r ++ frC f := by simp [wayCells]
theorem wayCells_len : ∀ l : List (Nat × Nat), (wayCells l).length = l.length * 2
  | [] => rfl
  | f :: r => by rw [wayCells_cons, List.length_append, wayCells_len r]; simp [frC]; omega
theorem way_top {w : World} {wa : Option Addr} {wc v k : Nat} {r : List (Nat × Nat)} {R : Nat} (hR : r.length = R) (h : Rw w 74 2 (.slice wa (R + 1) wc) (R + 1) (wayCells ((v, k) :: r))) :
    ∃ g off, wa = some ⟨g, off, none⟩ ∧ g < w.heap.size ∧ w.cell? ⟨g, off + R * 2, none⟩ = some (.int .i64 (v : Int)) ∧ w.cell? ⟨g, off + R * 2 + 1, none⟩ = some (.int .i64 (k : Int)) ∧ w.frozen? ⟨g, off + R * 2 + 1, none⟩ = false := by
  rcases id h.2 with ⟨he, h0⟩ | ⟨g, off, cap, cur, he, hg, _⟩
  · omega
  · simp only [Value.slice.injEq] at he
    obtain ⟨rfl, -, rfl⟩ := he
    have hc := Rw.cells h
    have e1 : (wayCells ((v, k) :: r))[R * 2]? = some (.int .i64 (v : Int)) := by
      rw [wayCells_cons, List.getElem?_append_right (by rw [wayCells_len, hR]; exact Nat.le_refl _), wayCells_len, hR]
      simp [frC]
    have e2 : (wayCells ((v, k) :: r))[R * 2 + 1]? = some (.int .i64 (k : Int)) := by
      rw [wayCells_cons, List.getElem?_append_right (by rw [wayCells_len, hR]; omega), wayCells_len, hR]
      simp [frC]
    refine ⟨g, off, rfl, lt_at hg, hc _ _ e1, ?_, ?_⟩
    · rw [Nat.add_assoc]
      exact hc _ _ e2
    · simp [World.frozen?, hg]
theorem way_next {w : World} {g off wc v k k2 : Nat} {r : List (Nat × Nat)} {R : Nat} (hR : r.length = R) (h : Rw w 74 2 (.slice (some ⟨g, off, none⟩) (R + 1) wc) (R + 1) (wayCells ((v, k) :: r))) :
    Rw (w.setCell ⟨g, off + R * 2 + 1, none⟩ (.int .i64 (k2 : Int))) 74 2 (.slice (some ⟨g, off, none⟩) (R + 1) wc) (R + 1) (wayCells ((v, k2) :: r)) := by
  have q := Rw.setL [.int .i64 (k2 : Int)] h (R * 2 + 1) (by simp; omega)
  have e : setL (wayCells ((v, k) :: r)) (R * 2 + 1) [.int .i64 (k2 : Int)] = wayCells ((v, k2) :: r) := by
    rw [setL_eq _ _ _ (by rw [wayCells_len]; simp; omega), wayCells_cons, wayCells_cons, List.take_append, List.drop_append, wayCells_len, hR]
    rw [List.take_of_length_le (by rw [wayCells_len, hR]; omega), List.drop_of_length_le (by rw [wayCells_len, hR]; simp; omega)]
    have e1 : R * 2 + 1 - R * 2 = 1 := by omega
    have e2 : R * 2 + 1 + [Value.int .i64 (k2 : Int)].length - R * 2 = 2 := by simp; omega
    rw [e1, e2]
    simp [frC]
  rw [e, ← Nat.add_assoc] at q
  exact q
theorem way_pop {w : World} {wa : Option Addr} {wc v k : Nat} {r : List (Nat × Nat)} {R : Nat} (hR : r.length = R) (i : TypeInfo) (hi : Try.prog.info? 74 = some i) (hz1 : i.size = 2) (h : Rw w 74 2 (.slice wa (R + 1) wc) (R + 1) (wayCells ((v, k) :: r))) :
    ∃ a c, (∀ w', (Instr.slice 76 (.slice wa (R + 1) wc) none (some (.int .i64 (R : Int))) none).run Try.prog w' = .ok (.slice a R c) w') ∧ Rw w 74 2 (.slice a R c) R (wayCells r) ∧ (Value.slice a R c).ownBlock = (Value.slice wa (R + 1) wc).ownBlock := by
  obtain ⟨a, c, h1, h2, h3⟩ := Rw.slice_to (P := Try.prog) h 76 i Try.underlying76 hi hz1 R (by omega)
  refine ⟨a, c, h1, ?_, h3⟩
  have e : (wayCells ((v, k) :: r)).take (R * 2) = wayCells r := by
    rw [wayCells_cons, List.take_append_of_le_length (by rw [wayCells_len, hR]; exact Nat.le_refl _), List.take_of_length_le (by rw [wayCells_len, hR]; exact Nat.le_refl _)]
  rw [e] at h2
  exact h2
/-- A node's row of the graph. -/
theorem row_at {w : World} {gb n : Nat} {m : Gm} {E D : Nat → Nat → Bool} (h : GrAt w gb n m E D) (z : Nat) (hz : z < n) :
    ∃ rg ro sc ra rc, w.cell? ⟨gb, 0, none⟩ = some (.slice (some ⟨rg, ro, none⟩) n sc) ∧ gb < w.heap.size ∧ rg < w.heap.size ∧ w.cell? ⟨rg, ro + z, none⟩ = some (.slice ra (rowE n (E z)).length rc) ∧ Rw w 3 1 (.slice ra (rowE n (E z)).length rc) (rowE n (E z)).length (natCells (rowE n (E z))) := by
  obtain ⟨sv, sc, hv⟩ := slice_form h.r.spine
  obtain ⟨g, off, hg, hgl, d1, f1⟩ := Rw.cell1 (by have := h.r.spine; rw [hv] at this; exact this) hz
  subst hg
  obtain ⟨ra, rc, hfa⟩ := slice_form (h.r.row z hz)
  have hra := h.r.row z hz
  rw [natCells_len] at hfa hra
  rw [hfa] at hra d1
  have d0 := (cells2 h.c).1
  rw [hv] at d0
  exact ⟨g, off, sc, ra, rc, d0, lt_at h.c, hgl, d1, hra⟩
end Go.Proofs.Ytnhggncpebifhaa
