/- slices.Sort of nodes; the closure of spread. -/
import Derived.Test.YtnhggncpebifhaaGrO
import Derived.Test.YtnhggncpebifhaaShelfS
set_option maxRecDepth 100000
namespace Go.Lat
open Go.RowKit
open Go.Sort (putRow putCells Holds)
open Go.Sort
theorem upd_grow {a w : World} {S : Nat → Prop} (h : Upd a w S) (os : Array Obj) : Upd a (grow w os) S :=
  h.then (T := fun _ => False) ⟨rfl, rfl, rfl, by simp, fun k hk _ => heap_grow_old w os hk⟩ (fun _ _ => False.elim)
theorem rw_putInts (w : World) (e g off n cap q : Nat) (zs ys : List Int) (hr : Rw w e 1 (.slice (some ⟨g, off, none⟩) n cap) n (zs.map (.int .i64))) (hl : ys.length = n) :
    Rw (putRow (Value.int .i64) (Go.Sort.ahead w q) g off ys.toArray) e 1 (.slice (some ⟨g, off, none⟩) n cap) n (ys.map (.int .i64)) ∧ Upd w (putRow (Value.int .i64) (Go.Sort.ahead w q) g off ys.toArray) (fun k => k = g) := by
  obtain ⟨h1, h2⟩ := hr
  rcases h2 with ⟨he, _⟩ | ⟨g', off', cap', cur, he, hg, hnc, hcs, htake⟩
  · cases he
  · cases he
    constructor
    · refine ⟨by simp; omega, .inr ⟨g, off, cap, putCells (Value.int .i64) off ys.toArray cur, rfl, ?_, by omega, ?_, ?_⟩⟩
      · simp [putRow, Go.Sort.mapBlock, Go.Sort.ahead, Array.getElem?_modify, hg, Go.Sort.onCells]
      · simp [putCells]
        omega
      · apply List.ext_getElem?
        intro j
        by_cases hj : j < n
        · rw [Nat.mul_one, List.getElem?_take_of_lt hj, List.getElem?_drop, Array.getElem?_toList]
          have e1 : off + j < cur.size := by omega
          have e2 : off + j < off + ys.length := by omega
          have e3 : j < ys.length := by omega
          simp [putCells, e1, e2, e3]
        · rw [Nat.mul_one, List.getElem?_take_eq_none (by omega), List.getElem?_eq_none (by simp; omega)]
    · refine ⟨rfl, rfl, rfl, by simp, fun k _ hk => ?_⟩
      have : g ≠ k := fun e => hk e.symm
      simp [putRow, Go.Sort.mapBlock, Go.Sort.ahead, Array.getElem?_modify, this]
end Go.Lat
namespace Go.Proofs.Ytnhggncpebifhaa
open Go.RowKit Go.Lat Go.Tarjan
open Go.Sort (putRow putCells Holds)
open Go.Sort

/-- The nodes of a list, told by a predicate, rising. -/
theorem sort_rowE {l : List Nat} {n : Nat} {p : Nat → Bool} (hd : l.Nodup) (hm : ∀ x, x ∈ l ↔ x < n ∧ p x = true) : (l.map (fun (k : Nat) => (k : Int))).mergeSort (fun x y => decide (x ≤ y)) = (rowE n p).map (fun (k : Nat) => (k : Int)) := by
  have h1 : ((rowE n p).map (fun (k : Nat) => (k : Int))).Pairwise (fun a b => a ≤ b) := by
    rw [List.pairwise_map]
    exact (rowE_rising n p).imp (fun h => by omega)
  have h2 : ((l.map (fun (k : Nat) => (k : Int))).mergeSort (fun x y => decide (x ≤ y))).Pairwise (fun a b => a ≤ b) := by
    have := List.pairwise_mergeSort (le := fun (x y : Int) => decide (x ≤ y)) (fun a b c h1 h2 => by simp at *; omega) (fun a b => by simp; omega) (l.map (fun (k : Nat) => (k : Int)))
    exact this.imp (fun h => by simpa using h)
  have hp : ((l.map (fun (k : Nat) => (k : Int))).mergeSort (fun x y => decide (x ≤ y))).Perm ((rowE n p).map (fun (k : Nat) => (k : Int))) := by
    refine (List.mergeSort_perm _ _).trans (List.Perm.map _ ?_)
    refine (List.perm_ext_iff_of_nodup hd ?_).2 (fun x => by rw [hm, rowE_mem])
    exact (rowE_rising n p).imp (fun h => by omega)
  exact hp.eq_of_pairwise (fun a b _ _ h1 h2 => by omega) h2 h1
theorem SortI_any (w : World) (a : Option Addr) (c n : Nat) (l : List Nat) (p : Nat → Bool) (hr : Rw w 3 1 (.slice a l.length c) l.length (natCells l)) (hd : l.Nodup) (hm : ∀ x, x ∈ l ↔ x < n ∧ p x = true) (hl : l.length ≤ 1000000) :
    Calls Try.prog 47 #[.slice a l.length c] w fun e w' => e = .returned (.tuple #[]) ∧ Rw w' 3 1 (.slice a (rowE n p).length c) (rowE n p).length (natCells (rowE n p)) ∧ l.length = (rowE n p).length ∧ Upd w w' (fun k => (Value.slice a 0 0).ownBlock = some k) := by
  have hs := sort_rowE hd hm
  have hlen : l.length = (rowE n p).length := by
    have := congrArg List.length hs
    simpa using this
  cases a with
  | none =>
    have h0 : l.length = 0 := by
      rcases hr.2 with ⟨_, h⟩ | ⟨g, off, cap, cur, he, _⟩
      · exact h
      · cases he
    have hl0 : l = [] := List.eq_nil_of_length_eq_zero h0
    subst hl0
    refine Calls.mono (Try.slices_Sort_int_none none c w) ?_
    rintro e w' ⟨rfl, rfl⟩
    have hE : rowE n p = [] := List.eq_nil_of_length_eq_zero (by simpa using hlen.symm)
    rw [hE]
    exact ⟨rfl, hr, rfl, Upd.refl _ _⟩
  | some ad =>
    obtain ⟨g, off, cap, cur, he, hg, hnc, hcs, htk⟩ : ∃ g off cap cur, Value.slice (some ad) l.length c = .slice (some ⟨g, off, none⟩) l.length cap ∧ w.heap[g]? = some (.cells cur 3 (0, 0)) ∧ l.length ≤ cap ∧ off + cap * 1 ≤ cur.size ∧ (cur.toList.drop off).take (l.length * 1) = natCells l := by
      rcases hr.2 with ⟨he, _⟩ | h
      · cases he
      · exact h
    simp only [Value.slice.injEq, Option.some.injEq] at he
    obtain ⟨rfl, -, rfl⟩ := he
    have hlm : (l.map (fun (k : Nat) => (k : Int))).length = l.length := by simp
    have hH : Holds (Value.int .i64) w g off (l.map (fun (k : Nat) => (k : Int))).toArray := by
      intro j hj
      have hj' : j < l.length := by simpa using hj
      refine ⟨?_, free_at hg (off + j)⟩
      have := hr.cells j _ (natCells_get (List.getElem?_eq_getElem hj'))
      rw [this]
      simp [hj']
    have SO := Try.slices_Sort_int g off c (l.map (fun (k : Nat) => (k : Int))) w hH (lt_at hg) (by rw [hlm]; omega)
    rw [hlm] at SO
    refine Calls.mono SO ?_
    rintro e w' ⟨rfl, q, os, rfl⟩
    rw [hs]
    obtain ⟨k1, k2⟩ := rw_putInts w 3 g off l.length c q _ ((rowE n p).map (fun (k : Nat) => (k : Int))) hr (by simp [hlen])
    have u := upd_grow (Upd.refl (putRow (Value.int .i64) (Go.Sort.ahead w q) g off ((rowE n p).map (fun (k : Nat) => (k : Int))).toArray) (fun _ => False)) os
    rw [← hlen]
    exact ⟨rfl, u.rw k1 (fun _ _ => id), rfl, (upd_grow k2 os).weaken fun k _ e => by rw [e]; rfl⟩
end Go.Proofs.Ytnhggncpebifhaa
