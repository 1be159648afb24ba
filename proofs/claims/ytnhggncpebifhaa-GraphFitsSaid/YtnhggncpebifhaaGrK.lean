/- Tarjan's way: what each step leaves of the work to do. No program. -/
import Derived.Test.YtnhggncpebifhaaGrT
set_option maxRecDepth 10000
namespace Go.Tarjan

def rsum (n : Nat) (f : Nat → Nat) : Nat := ((List.range n).map f).sum
theorem rsum_succ (n : Nat) (f : Nat → Nat) : rsum (n + 1) f = rsum n f + f n := by simp [rsum, List.range_succ]
theorem rsum_congr {n : Nat} {f g : Nat → Nat} (h : ∀ u, u < n → f u = g u) : rsum n f = rsum n g := by
  unfold rsum
  rw [List.map_congr_left (fun u hu => h u (List.mem_range.1 hu))]
theorem rsum_at {n : Nat} {f g : Nat → Nat} {t : Nat} (ht : t < n) (h : ∀ u, u ≠ t → f u = g u) : rsum n f + g t = rsum n g + f t := by
  induction n with
  | zero => omega
  | succ n ih =>
    rw [rsum_succ, rsum_succ]
    by_cases e : t = n
    · subst e
      rw [rsum_congr (fun u hu => h u (by omega))]
      omega
    · have := ih (by omega)
      rw [h n (by omega)]
      omega
theorem rsum_le {n : Nat} {f : Nat → Nat} {c : Nat} (h : ∀ u, f u ≤ c) : rsum n f ≤ n * c := by
  induction n with
  | zero => simp [rsum]
  | succ n ih =>
    rw [rsum_succ, Nat.succ_mul]
    have := h n
    omega

def unseen (adj : Nat → List Nat) (n : Nat) (idx : Nat → Nat) : Nat := rsum n (fun u => if idx u = 0 then (adj u).length + 1 else 0)
def wayM (adj : Nat → List Nat) (way : List (Nat × Nat)) : Nat := (way.map (fun f => (adj f.1).length - f.2 + 1)).sum
/-- What is left to do. -/
def St.M (adj : Nat → List Nat) (n : Nat) (s : St) : Nat := unseen adj n s.idx + wayM adj s.way
def seen (n : Nat) (idx : Nat → Nat) : Nat := rsum n (fun u => if idx u = 0 then 0 else 1)
theorem seen_le (n : Nat) (idx : Nat → Nat) : seen n idx ≤ n := by
  have := rsum_le (n := n) (f := fun u => if idx u = 0 then 0 else 1) (c := 1) (fun u => by split <;> omega)
  simpa [seen] using this
theorem seen_meet {n : Nat} {idx : Nat → Nat} {t c : Nat} (ht : t < n) (h0 : idx t = 0) : seen n (upd idx t (c + 1)) = seen n idx + 1 := by
  have := rsum_at (n := n) (f := fun u => if upd idx t (c + 1) u = 0 then 0 else 1) (g := fun u => if idx u = 0 then 0 else 1) ht (fun u hu => by simp only [upd_other _ _ _ hu])
  simp only [upd_same, h0, if_true, Nat.add_one_ne_zero, if_false] at this
  unfold seen
  omega
theorem unseen_meet {adj : Nat → List Nat} {n : Nat} {idx : Nat → Nat} {t c : Nat} (ht : t < n) (h0 : idx t = 0) : unseen adj n (upd idx t (c + 1)) + ((adj t).length + 1) = unseen adj n idx := by
  have := rsum_at (n := n) (f := fun u => if upd idx t (c + 1) u = 0 then (adj u).length + 1 else 0) (g := fun u => if idx u = 0 then (adj u).length + 1 else 0) ht (fun u hu => by simp only [upd_other _ _ _ hu])
  simp only [upd_same, h0, if_true, Nat.add_one_ne_zero, if_false] at this
  unfold unseen
  omega
theorem M_meet {adj : Nat → List Nat} {n : Nat} {s : St} {v k t : Nat} {r : List (Nat × Nat)} (hw : s.way = (v, k) :: r) (hk : (adj v)[k]? = some t) (ht : s.idx t = 0) (htn : t < n) : (s.meet t ((v, k + 1) :: r)).M adj n < s.M adj n := by
  have h1 := unseen_meet (adj := adj) (c := s.count) htn ht
  have h2 := (List.getElem?_eq_some_iff.1 hk).1
  unfold St.M wayM St.meet
  rw [hw]
  simp only [List.map_cons, List.sum_cons]
  omega
theorem M_skip {adj : Nat → List Nat} {n : Nat} {s : St} {v k t : Nat} {r : List (Nat × Nat)} (hw : s.way = (v, k) :: r) (hk : (adj v)[k]? = some t) : (s.skip v k t r).M adj n < s.M adj n := by
  have h2 := (List.getElem?_eq_some_iff.1 hk).1
  unfold St.M wayM St.skip
  rw [hw]
  simp only [List.map_cons, List.sum_cons]
  omega
theorem M_pop {adj : Nat → List Nat} {n : Nat} {s : St} {v k : Nat} {r : List (Nat × Nat)} (hw : s.way = (v, k) :: r) : (s.pop v r).M adj n < s.M adj n := by
  unfold St.M wayM St.pop
  rw [hw]
  simp only [List.map_cons, List.sum_cons]
  omega
theorem M_close {adj : Nat → List Nat} {n : Nat} {s : St} {v k m : Nat} {r : List (Nat × Nat)} (hw : s.way = (v, k) :: r) : (s.close v m r).M adj n < s.M adj n := by
  unfold St.M wayM St.close
  rw [hw]
  simp only [List.map_cons, List.sum_cons]
  omega
theorem nodup_le {l : List Nat} {n : Nat} (hd : l.Nodup) (hl : ∀ u ∈ l, u < n) : l.length ≤ n := by
  have h1 : l.length ≤ (List.range n).length := hd.length_le_of_subset (fun u hu => List.mem_range.2 (hl u hu))
  simpa using h1
theorem stk_nodup {adj : Nat → List Nat} {n : Nat} {s : St} (h : Inv adj n s) : s.stk.Nodup := by
  refine List.Pairwise.imp ?_ h.so
  intro a b hab e
  subst e
  omega
theorem stk_len {adj : Nat → List Nat} {n : Nat} {s : St} (h : Inv adj n s) : s.stk.length ≤ n := nodup_le (stk_nodup h) (fun u hu => h.lt u (h.sm u hu))
theorem way_nodup {adj : Nat → List Nat} {n : Nat} {s : St} (h : Inv adj n s) : s.ww.Nodup := by
  refine List.Pairwise.imp ?_ h.wo
  intro a b hab e
  subst e
  omega
theorem way_len {adj : Nat → List Nat} {n : Nat} {s : St} (h : Inv adj n s) : s.way.length ≤ n := by
  have := nodup_le (way_nodup h) (fun u hu => h.lt u (h.sm u (h.ws u hu)))
  simpa [St.ww] using this
/-- The stack as what lies above a node of the way, the node, what lies below. -/
theorem stk_split {adj : Nat → List Nat} {n : Nat} {s : St} (h : Inv adj n s) {v : Nat} (hv : v ∈ s.stk) : ∃ A B, s.stk = A ++ v :: B ∧ v ∉ B ∧ s.stk.filter (fun u => decide (s.idx u < s.idx v)) = B ∧ (∀ u, u ∈ v :: A.reverse ↔ u ∈ s.stk ∧ s.idx v ≤ s.idx u) := by
  obtain ⟨A, B, e⟩ := List.append_of_mem hv
  have so := h.so
  rw [e, List.pairwise_append] at so
  obtain ⟨sA, sB, sAB⟩ := so
  rw [List.pairwise_cons] at sB
  have hvB : v ∉ B := fun q => by have := sB.1 v q; omega
  have hA : ∀ a ∈ A, s.idx v < s.idx a := fun a ha => sAB a ha v (by simp)
  refine ⟨A, B, e, hvB, ?_, fun u => ?_⟩
  · rw [e, List.filter_append, List.filter_cons]
    have f1 : A.filter (fun u => decide (s.idx u < s.idx v)) = [] := by
      rw [List.filter_eq_nil_iff]
      intro a ha
      have := hA a ha
      simp
      omega
    have f2 : B.filter (fun u => decide (s.idx u < s.idx v)) = B := by
      rw [List.filter_eq_self]
      intro b hb
      have := sB.1 b hb
      simpa using this
    rw [f1, f2]
    simp
  · rw [e]
    constructor
    · intro hu
      rcases List.mem_cons.1 hu with rfl | hu
      · exact ⟨by simp, Nat.le_refl _⟩
      · have := hA u (List.mem_reverse.1 hu)
        exact ⟨by simp [List.mem_reverse.1 hu], by omega⟩
    · rintro ⟨hu, hle⟩
      rcases List.mem_append.1 hu with q | q
      · simp [q]
      · rcases List.mem_cons.1 q with rfl | q
        · simp
        · have := sB.1 u q
          omega
end Go.Tarjan
