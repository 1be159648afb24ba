/- An array of places in memory that is written in place. -/
import Derived.Test.YtckpomcenkgekaaDoorFBelow
import Derived.Test.YtckpomcenkgekaaDoorDigM
import Derived.Laws.OwnMore
import Derived.Deep.OwnRows
set_option maxRecDepth 100000
namespace Go.Proofs.YtckpomcenkgekaaDoor
open Go.RowKit Go.Lat

def ArrAt (w : World) (g : Nat) (l : List Nat) : Prop := ∃ cs, w.heap[g]? = some (.cells cs 3 (0, 0)) ∧ cs.toList = l.map fun d => .int .i64 (d : Nat)

theorem ArrAt.lt {w : World} {g : Nat} {l : List Nat} (h : ArrAt w g l) : g < w.heap.size := by
  obtain ⟨cs, h1, -⟩ := h
  exact lt_at h1
theorem ArrAt.cell {w : World} {g : Nat} {l : List Nat} (h : ArrAt w g l) (j : Nat) (hj : j < l.length) : w.cell? ⟨g, j, none⟩ = some (.int .i64 (l.getD j 0 : Nat)) := by
  obtain ⟨cs, h1, h2⟩ := h
  refine cell_at h1 j _ ?_
  rw [← Array.getElem?_toList, h2]
  simp [hj]
theorem ArrAt.free {w : World} {g : Nat} {l : List Nat} (h : ArrAt w g l) (j : Nat) : w.frozen? ⟨g, j, none⟩ = false := by
  obtain ⟨cs, h1, -⟩ := h
  exact free_at h1 j
theorem ArrAt.set {w : World} {g : Nat} {l : List Nat} (h : ArrAt w g l) (j x : Nat) : ArrAt (w.setCell ⟨g, j, none⟩ (.int .i64 (x : Nat))) g (l.set j x) := by
  obtain ⟨cs, h1, h2⟩ := h
  refine ⟨_, block_setCell h1 j _, ?_⟩
  rw [Array.toList_setIfInBounds, h2, List.map_set]
theorem ArrAt.upd {w w' : World} {g : Nat} {l : List Nat} {S : Nat → Prop} (h : ArrAt w g l) (u : Upd w w' S) (hg : ¬ S g) : ArrAt w' g l := by
  obtain ⟨cs, h1, h2⟩ := h
  exact ⟨cs, u.get h1 hg, h2⟩
theorem ArrAt.dg {w : World} {g : Nat} {l : List Nat} (h : ArrAt w g l) : DgAt w (.slice (some ⟨g, 0, none⟩) l.length l.length) l := by
  obtain ⟨cs, h1, h2⟩ := h
  have hs : cs.size = l.length := by rw [← Array.length_toList, h2, List.length_map]
  refine ⟨by simp, .inr ⟨g, 0, l.length, cs, rfl, h1, Nat.le_refl _, by omega, ?_⟩⟩
  rw [h2, List.drop_zero, Nat.mul_one, List.take_of_length_le (by simp)]
theorem ArrAt.dg_take {w : World} {g : Nat} {l : List Nat} (h : ArrAt w g l) (m : Nat) (hm : m ≤ l.length) : DgAt w (.slice (some ⟨g, 0, none⟩) m l.length) (l.take m) := by
  obtain ⟨cs, h1, h2⟩ := h
  have hs : cs.size = l.length := by rw [← Array.length_toList, h2, List.length_map]
  have hl : (l.take m).length = m := by rw [List.length_take, Nat.min_eq_left hm]
  unfold DgAt
  rw [hl]
  refine ⟨by rw [List.length_map, hl, Nat.mul_one], .inr ⟨g, 0, l.length, cs, rfl, h1, hm, by omega, ?_⟩⟩
  rw [h2, List.drop_zero, Nat.mul_one, List.map_take]
theorem ArrAt.made (w : World) (n : Nat) : ArrAt (w.alloc (.cells (madeCells #[.int .i64 0] n) 3)) w.heap.size (List.replicate n 0) := by
  refine ⟨_, heap_alloc_new w _, ?_⟩
  rw [toList_madeCells_one, List.map_replicate]
  rfl

/-- A number's places in order: 10 times by place. -/
theorem dgs_le (l : List Nat) (h : Norm l) : ∀ j, l.getD j 0 ≤ 9 := by
  intro j
  by_cases hj : j < l.length
  · have := h.1 _ (getD_mem l j hj)
    omega
  · rw [List.getD_eq_getElem?_getD, List.getElem?_eq_none (by omega)]
    simp
end Go.Proofs.YtckpomcenkgekaaDoor
