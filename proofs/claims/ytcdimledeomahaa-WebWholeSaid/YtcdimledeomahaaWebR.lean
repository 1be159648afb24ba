/- Four cells at once; rows that are written over. -/
import Derived.Test.YtcdimledeomahaaWebH
import Derived.Test.YtcdimledeomahaaWebQ
set_option maxRecDepth 100000
namespace Go.Proofs.Ytcdimledeomahaa
open Go.RowKit Go.Lat

abbrev set4 (w : World) (g o : Nat) (v0 v1 v2 v3 : Value) : World := (((w.setCell ⟨g, o, none⟩ v0).setCell ⟨g, o + 1, none⟩ v1).setCell ⟨g, o + 2, none⟩ v2).setCell ⟨g, o + 3, none⟩ v3

theorem upd4 {w0 w : World} {S : Nat → Prop} (u : Upd w0 w S) {g : Nat} (hg : w0.heap.size ≤ g ∨ S g) (o : Nat) (v0 v1 v2 v3 : Value) : Upd w0 (set4 w g o v0 v1 v2 v3) S :=
  (((u.setCell _ _ hg).setCell _ _ hg).setCell _ _ hg).setCell _ _ hg

/-- A slice that reads still reads, whatever is written. -/
theorem Rw.any_set {w : World} {e size : Nat} {v : Value} {n : Nat} {xs : List Value} (h : Rw w e size v n xs) (g o : Nat) (u : Value) : ∃ ys, Rw (w.setCell ⟨g, o, none⟩ u) e size v n ys := by
  by_cases hb : v.ownBlock = some g
  · obtain ⟨h1, h2⟩ := h
    rcases h2 with ⟨rfl, _⟩ | ⟨g', off, cap, cur, rfl, hg, hnc, hcs, htake⟩
    · cases hb
    · have e1 : g' = g := Option.some.inj hb
      subst e1
      have hm : n * size ≤ cap * size := Nat.mul_le_mul_right _ hnc
      exact ⟨_, by simp; omega, .inr ⟨g', off, cap, cur.setIfInBounds o u, rfl, block_setCell hg _ _, hnc, by simpa using hcs, rfl⟩⟩
  · exact ⟨xs, h.setCell _ _ hb⟩
theorem Rw.any4 {w : World} {e size : Nat} {v : Value} {n : Nat} {xs : List Value} (h : Rw w e size v n xs) (g o : Nat) (v0 v1 v2 v3 : Value) : ∃ ys, Rw (set4 w g o v0 v1 v2 v3) e size v n ys := by
  obtain ⟨y0, k0⟩ := Rw.any_set h g o v0
  obtain ⟨y1, k1⟩ := Rw.any_set k0 g (o + 1) v1
  obtain ⟨y2, k2⟩ := Rw.any_set k1 g (o + 2) v2
  exact Rw.any_set k2 g (o + 3) v3
theorem Rw.keep4 {w : World} {e size : Nat} {v : Value} {n : Nat} {xs : List Value} (h : Rw w e size v n xs) {g : Nat} (hne : v.ownBlock ≠ some g) (o : Nat) (v0 v1 v2 v3 : Value) : Rw (set4 w g o v0 v1 v2 v3) e size v n xs :=
  (((h.setCell _ _ hne).setCell _ _ hne).setCell _ _ hne).setCell _ _ hne
theorem Rw.put4 {w : World} {e g off n cap : Nat} {xs : List Value} (h : Rw w e 4 (.slice (some ⟨g, off, none⟩) n cap) n xs) (i : Nat) (hi : i < n) (v0 v1 v2 v3 : Value) :
    ∃ ys, Rw (set4 w g (off + i * 4) v0 v1 v2 v3) e 4 (.slice (some ⟨g, off, none⟩) n cap) n ys ∧ ∀ j t, j ≠ i → t < 4 → ys[j * 4 + t]? = xs[j * 4 + t]? := by
  have k0 := Rw.set h (i * 4) v0 (by omega)
  have k1 := Rw.set k0 (i * 4 + 1) v1 (by omega)
  have k2 := Rw.set k1 (i * 4 + 2) v2 (by omega)
  have k3 := Rw.set k2 (i * 4 + 3) v3 (by omega)
  simp only [← Nat.add_assoc] at k3
  refine ⟨_, k3, fun j t hj ht => ?_⟩
  rw [List.getElem?_set_ne (by omega), List.getElem?_set_ne (by omega), List.getElem?_set_ne (by omega), List.getElem?_set_ne (by omega)]

/-- Row j of a slice of links. -/
def LkRow (xs : List Value) (j : Nat) (x : Lk) : Prop := xs[j * 4]? = some (encStr x.b) ∧ xs[j * 4 + 1]? = some (encStr x.s) ∧ xs[j * 4 + 2]? = some (.int .i64 x.c) ∧ xs[j * 4 + 3]? = some (.int .i64 x.r)
theorem LkRow.at {w : World} {e : TypeId} {sa : Option Addr} {n c : Nat} {xs : List Value} (h : Rw w e 4 (.slice sa n c) n xs) {j : Nat} {x : Lk} (hr : LkRow xs j x) (hj : j < n) :
    ∃ g off, sa = some ⟨g, off, none⟩ ∧ g < w.heap.size ∧ w.cell? ⟨g, off + j * 4, none⟩ = some (encStr x.b) ∧ w.cell? ⟨g, off + j * 4 + 1, none⟩ = some (encStr x.s) ∧ w.cell? ⟨g, off + j * 4 + 2, none⟩ = some (.int .i64 x.c) ∧ w.cell? ⟨g, off + j * 4 + 3, none⟩ = some (.int .i64 x.r) := by
  obtain ⟨g, off, cap, hv, hg, hc⟩ := Rw.pos h (by omega)
  simp at hv
  obtain ⟨c0, c1, c2, c3⟩ := hr
  exact ⟨g, off, hv.1, hg, hc _ _ c0, hc _ _ c1, hc _ _ c2, hc _ _ c3⟩
theorem lkRow_of {l : List Lk} {j : Nat} {x : Lk} (h : l[j]? = some x) : LkRow (lkCells l) j x := lkCells_get l j x h

/-- The edges' shape: their rows' links may have been written over. -/
def Shape (w : World) (S : Nat → Prop) (xs : List Value) (es : List Ed) : Prop :=
  ∀ i e, es[i]? = some e → ∃ ra rc ys, EdRow xs i e (.slice ra e.reads.length rc) ∧ Rw w 40 4 (.slice ra e.reads.length rc) e.reads.length ys ∧ ∀ k, (Value.slice ra e.reads.length rc).ownBlock = some k → S k
theorem Shape.put {w : World} {S : Nat → Prop} {xs : List Value} {es : List Ed} (h : Shape w S xs es) (g o : Nat) (v0 v1 v2 v3 : Value) : Shape (set4 w g o v0 v1 v2 v3) S xs es := by
  intro i e he
  obtain ⟨ra, rc, ys, h1, h2, h3⟩ := h i e he
  obtain ⟨ys', h4⟩ := Rw.any4 h2 g o v0 v1 v2 v3
  exact ⟨ra, rc, ys', h1, h4, h3⟩
theorem ed_at {w : World} {sa : Option Addr} {n c : Nat} {xs : List Value} (h : Rw w 83 4 (.slice sa n c) n xs) {j : Nat} {e : Ed} {rv : Value} (hr : EdRow xs j e rv) (hj : j < n) :
    ∃ g off, sa = some ⟨g, off, none⟩ ∧ g < w.heap.size ∧ w.cell? ⟨g, off + j * 4 + 3, none⟩ = some rv := by
  obtain ⟨g, off, cap, hv, hg, hc⟩ := Rw.pos h (by omega)
  simp at hv
  exact ⟨g, off, hv.1, hg, hc _ _ hr.2.2.2⟩
end Go.Proofs.Ytcdimledeomahaa
