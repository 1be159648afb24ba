/- The walk of GraphLong. -/
import Derived.Test.YtnhggncpebifhaaGtB
set_option maxRecDepth 100000
namespace Go.Proofs.Ytnhggncpebifhaa
open Go.RowKit Go.Lat Go.Tarjan

/-- A way of nodes, so far; round, when its end comes back. -/
def pathE (i : Nat) : Nat → Nat → Bool := fun a b => decide (b = a + 1) && decide (a < i)
theorem pathE_zero : pathE 0 = fun _ _ => false := by
  funext a b
  simp [pathE]
theorem pathE_succ (i : Nat) : addE (pathE i) i (i + 1) = pathE (i + 1) := by
  funext a b
  unfold addE pathE
  rw [Bool.eq_iff_iff]
  simp only [Bool.or_eq_true, Bool.and_eq_true, decide_eq_true_eq]
  omega
def roundE (k : Nat) : Nat → Nat → Bool := addE (pathE (k - 1)) (k - 1) 0
theorem addE_flip2 (E : Nat → Nat → Bool) (a b : Nat) : addE (fun x y => E y x) b a = fun x y => addE E a b y x := by
  funext x y
  unfold addE
  rw [Bool.and_comm]
section
variable {k : Nat} {E : Nat → Nat → Bool}
theorem path_up (hE : ∀ i, i + 1 < k → E i (i + 1) = true) : ∀ d i, i + d < k → Rch (adjE k E) i (i + d)
  | 0, i, _ => .refl _
  | d + 1, i, h => by
    have h1 := path_up hE d i (by omega)
    refine h1.snoc ?_
    rw [adjE_mem]
    exact ⟨by omega, hE (i + d) (by omega)⟩
theorem path_le (hE : ∀ i, i + 1 < k → E i (i + 1) = true) {i j : Nat} (h : i ≤ j) (hj : j < k) : Rch (adjE k E) i j := by
  have := path_up hE (j - i) i (by omega)
  rwa [show i + (j - i) = j by omega] at this
theorem all_row {n : Nat} {p : Nat → Bool} (h : ∀ i, i < n → p i = true) : (rowE n p).length = n := by
  rw [rowE_congr (q := fun _ => true) h]
  unfold rowE
  rw [List.filter_eq_self.2 (fun _ _ => rfl), List.length_range]
theorem no_row {n : Nat} {p : Nat → Bool} (h : ∀ i, i < n → p i = false) : (rowE n p).length = 0 := by
  rw [rowE_congr (q := fun _ => false) h]
  unfold rowE
  rw [List.filter_eq_nil_iff.2 (fun _ _ => Bool.false_ne_true)]
  rfl
theorem reach_zero (hk : 0 < k) (hE : ∀ i, i + 1 < k → E i (i + 1) = true) : (rowE k (reachB k (wrun E k) (fun x => decide ((x : Int) ∈ [(0 : Int)])))).length = k :=
  all_row (fun i hi => (reachB_iff hi).2 ⟨0, hk, by simp, path_le hE (Nat.zero_le _) hi⟩)
theorem pl_flip {a b : Nat} (h : Pl k E b a) : Pl k (fun x y => E y x) a b := by
  induction h with
  | edge h1 h2 h3 => exact .edge h2 h1 h3
  | trans _ _ h1 h2 => exact .trans h2 h1
theorem dirty_end (hk : 0 < k) (hE : ∀ i, i + 1 < k → E i (i + 1) = true) {z : Int} (hz : z = ((k - 1 : Nat) : Int)) : (rowE k (reachB k (wrun (fun a b => E b a) k) (fun x => decide ((x : Int) ∈ [z])))).length = k :=
  all_row (fun i hi => (reachB_iff hi).2 ⟨k - 1, by omega, by simp [hz], by
    rcases rch_pl hi (path_le hE (by omega : i ≤ k - 1) (by omega)) with e | h
    · rw [e]; exact .refl _
    · exact pl_rch (pl_flip h)⟩)
end
theorem path_edge {k i : Nat} (h : i + 1 < k) : pathE (k - 1) i (i + 1) = true := by
  unfold pathE
  simp
  omega
theorem round_edge {k i : Nat} (h : i + 1 < k) : roundE k i (i + 1) = true := by
  unfold roundE addE
  rw [path_edge h]
  rfl
theorem round_back (k : Nat) : roundE k (k - 1) 0 = true := by
  unfold roundE addE
  simp
theorem path_lt {k m a b : Nat} (h : Pl k (pathE m) a b) : a < b := by
  induction h with
  | edge h1 h2 h3 =>
    unfold pathE at h3
    simp at h3
    omega
  | trans _ _ h1 h2 => omega
theorem round_all {k i j : Nat} (hi : i < k) (hj : j < k) : Rch (adjE k (roundE k)) i j := by
  have h1 : Rch (adjE k (roundE k)) i (k - 1) := path_le (fun i h => round_edge h) (by omega) (by omega)
  have h2 : Rch (adjE k (roundE k)) (k - 1) 0 := Rch.edge (by rw [adjE_mem]; exact ⟨by omega, round_back k⟩)
  exact h1.trans (h2.trans (path_le (fun i h => round_edge h) (Nat.zero_le _) hj))
theorem round_cycles {k : Nat} : (rowE k (fun i => wrun (roundE k) k i i)).length = k :=
  all_row (fun i hi => by
    rw [wrun_iff hi hi]
    have h2 : k - 1 < k := by omega
    have e : Pl k (roundE k) (k - 1) 0 := .edge h2 (by omega) (round_back k)
    rcases rch_pl hi (round_all hi h2) with e1 | e1
    · rcases rch_pl (by omega : 0 < k) (round_all (by omega : 0 < k) hi) with e2 | e2
      · subst e2
        rw [← e1] at e
        exact e
      · rw [e1] at e2 ⊢
        exact .trans e e2
    · rcases rch_pl (by omega : 0 < k) (round_all (by omega : 0 < k) hi) with e2 | e2
      · rw [← e2] at e1 ⊢
        exact .trans e1 e
      · exact .trans e1 (.trans e e2))
theorem path_cycles {k : Nat} : (rowE k (fun i => wrun (pathE (k - 1)) k i i)).length = 0 :=
  no_row (fun i hi => by
    cases q : wrun (pathE (k - 1)) k i i with
    | false => rfl
    | true => have := path_lt ((wrun_iff hi hi).1 q); omega)
theorem round_part {k : Nat} (hk : 0 < k) : partF (wrun (roundE k) k) (k - 1) = 0 :=
  (part_ref (by omega)).uniq ⟨round_all (by omega) hk, round_all hk (by omega), fun x _ _ => Nat.zero_le _⟩
theorem path_part {k : Nat} (hk : 0 < k) : partF (wrun (pathE (k - 1)) k) (k - 1) = k - 1 := by
  refine (part_ref (by omega)).uniq ⟨.refl _, .refl _, fun x h1 _ => ?_⟩
  rcases rch_pl (by omega : k - 1 < k) h1 with e | e
  · omega
  · have := path_lt e; omega
end Go.Proofs.Ytnhggncpebifhaa
