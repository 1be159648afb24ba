/- The places of WebWhole's right: what one store makes of them. -/
import Derived.Test.YtcdimledeomahaaWholeC
set_option maxRecDepth 100000
namespace Go.Proofs.Ytcdimledeomahaa
open Go.RowKit Go.Lat

/-- The places met, in memory. -/
def MetAt (w : World) (g : Nat) (v : Nat → Bool) : Prop := w.heap[g]? = some (.cells (boolCells 20 v) 102 (0, 0))
theorem MetAt.cell {w : World} {g : Nat} {v : Nat → Bool} (h : MetAt w g v) {i q : Nat} (hi : i < 10) (hq : q < 2) : w.cell? ⟨g, i * 2 + q, none⟩ = some (.bool (v (i * 2 + q))) :=
  cell_at h (i * 2 + q) _ (bool_at 20 _ (by omega))
theorem MetAt.free {w : World} {g : Nat} {v : Nat → Bool} (h : MetAt w g v) (j : Nat) : w.frozen? ⟨g, j, none⟩ = false := free_at h j
theorem MetAt.congr {w : World} {g : Nat} {u v : Nat → Bool} (h : MetAt w g u) (e : ∀ j, j < 20 → u j = v j) : MetAt w g v := by
  unfold MetAt at *
  rw [h, bool_congr 20 e]
theorem MetAt.upd {w w' : World} {g : Nat} {v : Nat → Bool} {S : Nat → Prop} (h : MetAt w g v) (u : Upd w w' S) (hg : ¬ S g) : MetAt w' g v := u.get h hg

/-- A store at the start of a round. -/
theorem MetAt.base {w : World} {g : Nat} {T0 : Nat → Nat} {b : Nat → Bool} {k : Nat} {u : Nat → Bool} (h : MetAt w g (baseS T0 b k u)) (hb : b k = true) : MetAt (w.setCell ⟨g, T0 k, none⟩ (.bool true)) g (baseS T0 b (k + 1) u) := by
  have := block_setCell h (T0 k) (.bool true)
  rw [bool_set] at this
  unfold MetAt
  rw [this, bool_congr 20 (v := baseS T0 b (k + 1) u)]
  intro j _
  simp only [baseS, hb, Bool.and_true]
  by_cases e : j = T0 k
  · simp [e]
  · simp [e]
theorem MetAt.base_no {w : World} {g : Nat} {T0 : Nat → Nat} {b : Nat → Bool} {k : Nat} {u : Nat → Bool} (h : MetAt w g (baseS T0 b k u)) (hb : b k = false) : MetAt w g (baseS T0 b (k + 1) u) :=
  h.congr fun j _ => by simp [baseS, hb]

/-- A store within a round. -/
theorem MetAt.step {w : World} {g : Nat} {T : Nat → Nat → Nat} {e : Nat → Nat → Bool} {a k : Nat} {u : Nat → Bool} (h : MetAt w g (rowS T e a k u)) (hv : rowS T e a k u a = true) (he : e a k = true) : MetAt (w.setCell ⟨g, T a k, none⟩ (.bool true)) g (rowS T e a (k + 1) u) := by
  have := block_setCell h (T a k) (.bool true)
  rw [bool_set] at this
  unfold MetAt
  rw [this, bool_congr 20 (v := rowS T e a (k + 1) u)]
  intro j _
  simp only [rowS, cellS, hv, he, Bool.and_true]
  by_cases q : j = T a k
  · simp [q]
  · simp [q]
theorem MetAt.step_no {w : World} {g : Nat} {T : Nat → Nat → Nat} {e : Nat → Nat → Bool} {a k : Nat} {u : Nat → Bool} (h : MetAt w g (rowS T e a k u)) (hne : (rowS T e a k u a && e a k) = false) : MetAt w g (rowS T e a (k + 1) u) :=
  h.congr fun j _ => by
    simp only [rowS, cellS, Bool.and_assoc, hne]
    simp

def metT (a k : Nat) : Nat := k * 2 + farN (a / 2) k (a % 2)
theorem metT_at {i k q : Nat} (hq : q < 2) : metT (i * 2 + q) k = k * 2 + farN i k q := by
  unfold metT
  rw [show (i * 2 + q) / 2 = i by omega, show (i * 2 + q) % 2 = q by omega]
theorem met_zero (w : World) : MetAt (w.alloc (.cells #[.bool false, .bool false, .bool false, .bool false, .bool false, .bool false, .bool false, .bool false, .bool false, .bool false, .bool false, .bool false, .bool false, .bool false, .bool false, .bool false, .bool false, .bool false, .bool false, .bool false] 102)) w.heap.size (fun _ => false) := new1 w _
end Go.Proofs.Ytcdimledeomahaa
