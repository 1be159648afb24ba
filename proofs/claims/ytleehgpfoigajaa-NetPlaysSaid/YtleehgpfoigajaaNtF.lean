/- The sums of NetNil; an argument of calls. -/
import Derived.Test.YtleehgpfoigajaaNtE
set_option maxRecDepth 100000
namespace Go.Proofs.Ytleehgpfoigajaa
open Go.RowKit Go.Lat Go.Sort

/-- A call as plain data. -/
structure AcD where
  dov : Int
  i : Int
  f : List UInt8
  t : List UInt8
  s : List UInt8
def AcD.p (a : AcD) : Pr := (a.f, a.t)
/-- An argument of calls. -/
def AcArg (w : World) (v : Value) (l : List AcD) : Prop :=
  ∃ (a : Option Addr) (cap : Nat), v = .slice a l.length cap ∧ l.length ≤ cap ∧ cap ≤ maxLen ∧ (a = none → cap = 0) ∧
    ∀ i x, l[i]? = some x → ∃ g off, a = some ⟨g, off, none⟩ ∧ g < w.heap.size ∧ w.cell? ⟨g, off + i * 5, none⟩ = some (.int .i64 x.dov) ∧ w.cell? ⟨g, off + i * 5 + 1, none⟩ = some (.int .i64 x.i) ∧ w.cell? ⟨g, off + i * 5 + 2, none⟩ = some (encStr x.f) ∧ w.cell? ⟨g, off + i * 5 + 3, none⟩ = some (encStr x.t) ∧ w.cell? ⟨g, off + i * 5 + 4, none⟩ = some (encStr x.s) ∧
      x.f.length ≤ maxLen ∧ x.t.length ≤ maxLen ∧ x.s.length ≤ maxLen ∧ -9223372036854775808 ≤ x.dov ∧ x.dov ≤ 9223372036854775807 ∧ -9223372036854775808 ≤ x.i ∧ x.i ≤ 9223372036854775807

def lenS (M : Pr → List (List UInt8)) (l : List Pr) : Nat := (l.map fun p => (M p).length).sum
def keptL (name : List UInt8) (l : List Pr) : List Pr := l.filter fun p => !inv name p
theorem lenS_app (M : Pr → List (List UInt8)) (a b : List Pr) : lenS M (a ++ b) = lenS M a + lenS M b := by simp [lenS]
theorem lenS_next {M : Pr → List (List UInt8)} {l : List Pr} {j : Nat} {p : Pr} (h : l[j]? = some p) : lenS M (l.take (j + 1)) = lenS M (l.take j) + (M p).length := by
  rw [List.take_add_one, h, lenS_app]
  simp [lenS]
theorem kept_yes {M : Pr → List (List UInt8)} {name : List UInt8} {l : List Pr} {j : Nat} {p : Pr} (h : l[j]? = some p) (hi : inv name p = false) : lenS M (keptL name (l.take (j + 1))) = lenS M (keptL name (l.take j)) + (M p).length := by
  rw [List.take_add_one, h]
  simp [keptL, hi, lenS]
theorem kept_no {M : Pr → List (List UInt8)} {name : List UInt8} {l : List Pr} {j : Nat} {p : Pr} (h : l[j]? = some p) (hi : inv name p = true) : lenS M (keptL name (l.take (j + 1))) = lenS M (keptL name (l.take j)) := by
  rw [List.take_add_one, h]
  simp [keptL, hi]
theorem lenS_le {M : Pr → List (List UInt8)} {B : Nat} (h : ∀ p, (M p).length ≤ B) : ∀ l : List Pr, lenS M l ≤ l.length * B
  | [] => by simp [lenS]
  | p :: l => by
    have h1 := lenS_le h l
    have h2 := h p
    simp only [lenS, List.map_cons, List.sum_cons, List.length_cons, Nat.add_mul, Nat.one_mul] at *
    omega
theorem keptL_len (name : List UInt8) (l : List Pr) : (keptL name l).length ≤ l.length := List.length_filter_le _ _
/-- What stands behind Clear are the pairs that were kept. -/
theorem kept_eq {M : Pr → List (List UInt8)} {name : List UInt8} {ks ks2 : List Pr} (h1 : ks.Pairwise ltP) (h2 : ks2.Pairwise ltP) (o1 : ∀ p ∈ ks, prOk p) (o2 : ∀ p ∈ ks2, prOk p) (m1 : ∀ p, prOk p → (p ∈ ks ↔ M p ≠ [])) (m2 : ∀ p, prOk p → (p ∈ ks2 ↔ clearM name M p ≠ [])) : ks2 = keptL name ks := by
  refine sorted_eq h2 (List.Pairwise.filter _ h1) fun p => ?_
  simp only [keptL, List.mem_filter, Bool.not_eq_true']
  constructor
  · intro hp
    have := (m2 p (o2 p hp)).1 hp
    unfold clearM at this
    cases hi : inv name p with
    | true => rw [hi] at this; simp at this
    | false =>
      rw [hi] at this
      exact ⟨(m1 p (o2 p hp)).2 (by simpa using this), rfl⟩
  · rintro ⟨hp, hi⟩
    refine (m2 p (o1 p hp)).2 ?_
    unfold clearM
    rw [hi]
    simpa using (m1 p (o1 p hp)).1 hp
theorem clear_len {M : Pr → List (List UInt8)} {name : List UInt8} (l : List Pr) : lenS (clearM name M) (keptL name l) = lenS M (keptL name l) := by
  unfold lenS
  congr 1
  refine List.map_congr_left fun p hp => ?_
  have : inv name p = false := by simpa [keptL] using (List.mem_filter.1 hp).2
  simp [clearM, this]
theorem clear_le {M : Pr → List (List UInt8)} {name : List UInt8} {B : Nat} (h : ∀ p, (M p).length ≤ B) (p : Pr) : (clearM name M p).length ≤ B := by
  unfold clearM
  split
  · simp
  · exact h p
theorem send_le {M : Pr → List (List UInt8)} {k : Nat} (h : ∀ p, (M p).length ≤ k) (p : Pr) (s : List UInt8) (q : Pr) : (sendM M p s q).length ≤ k + 1 := by
  unfold sendM
  have := h q
  have := h p
  split
  · by_cases e : q = p
    · subst e
      rw [setF_same]
      simp
      omega
    · rw [setF_other _ _ _ e]
      omega
  · omega
theorem pr_at {w : World} {sa : Option Addr} {n c : Nat} {l : List Pr} (h : Rw w 40 2 (.slice sa n c) n (prCells l)) (j : Nat) (x : Pr) (hx : l[j]? = some x) (hj : j < n) :
    ∃ g off, sa = some ⟨g, off, none⟩ ∧ g < w.heap.size ∧ w.cell? ⟨g, off + j * 2, none⟩ = some (encStr x.1) ∧ w.cell? ⟨g, off + j * 2 + 1, none⟩ = some (encStr x.2) := by
  obtain ⟨g, off, cap, hv, hg, hc⟩ := Rw.pos h (by omega)
  simp at hv
  obtain ⟨c0, c1⟩ := prCells_get l j x hx
  exact ⟨g, off, hv.1, hg, hc _ _ c0, hc _ _ c1⟩
end Go.Proofs.Ytleehgpfoigajaa
