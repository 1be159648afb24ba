/- Who waits on whom, and who may come next: plain laws of Order. No program. -/
import Derived.Test.YtnhggncpebifhaaGrP
set_option maxRecDepth 10000
namespace Go.Tarjan

def waitP (inn : Nat → Bool) (c : Nat → Nat → Bool) (i k : Nat) : Bool := inn i && (inn k && c i k)
def lef (n : Nat) (inn : Nat → Bool) (c : Nat → Nat → Bool) (out : List Nat) (i : Nat) : Nat := rsum n (fun k => if waitP inn c i k = true ∧ k ∉ out then 1 else 0)
section
variable {n : Nat} {inn : Nat → Bool} {c : Nat → Nat → Bool}
theorem lef_zero {out : List Nat} {i : Nat} : lef n inn c out i = 0 ↔ ∀ k, k < n → waitP inn c i k = true → k ∈ out := by
  unfold lef
  constructor
  · intro h k hk hw
    by_cases q : k ∈ out
    · exact q
    · have := rsum_pos (f := fun k => if waitP inn c i k = true ∧ k ∉ out then 1 else 0) hk
      simp only [if_pos (And.intro hw q)] at this
      omega
  · intro h
    refine rsum_zero (fun k hk => ?_)
    rw [if_neg]
    rintro ⟨a, b⟩
    exact b (h k hk a)
theorem ready_iff {out : List Nat} {i : Nat} : readyB n inn c out i = true ↔ inn i = true ∧ i ∉ out ∧ lef n inn c out i = 0 := by
  rw [lef_zero]
  constructor
  · intro h
    obtain ⟨a, b, d⟩ := ready_parts h
    refine ⟨a, b, fun k hk hw => ?_⟩
    unfold waitP at hw
    simp only [Bool.and_eq_true] at hw
    exact d k hk hw.2.1 hw.2.2
  · rintro ⟨a, b, d⟩
    unfold readyB
    rw [a, decide_eq_false b]
    simp only [Bool.not_false, Bool.true_and, List.all_eq_true, List.mem_range]
    intro k hk
    have := d k hk
    unfold waitP at this
    rw [a] at this
    by_cases q : k ∈ out
    · simp [q]
    · cases h1 : inn k <;> cases h2 : c i k <;> simp [h1, h2, q] at this ⊢
theorem lef_snoc {out : List Nat} {i x : Nat} (hx : x < n) (hn : x ∉ out) : lef n inn c (out ++ [x]) i + (if waitP inn c i x = true then 1 else 0) = lef n inn c out i := by
  have := rsum_at (n := n) (f := fun k => if waitP inn c i k = true ∧ k ∉ out ++ [x] then 1 else 0) (g := fun k => if waitP inn c i k = true ∧ k ∉ out then 1 else 0) hx (fun u hu => by simp [hu])
  simp only [List.mem_append, List.mem_singleton, or_true, not_true_eq_false, and_false, if_false, hn, not_false_eq_true, and_true] at this
  unfold lef
  simp only [List.mem_append, List.mem_singleton]
  omega
theorem lef_le (out : List Nat) (i : Nat) : lef n inn c out i ≤ n := by
  have := rsum_le (n := n) (f := fun k => if waitP inn c i k = true ∧ k ∉ out then 1 else 0) (c := 1) (fun u => by split <;> omega)
  simpa [lef] using this
/-- The heap's nodes ahead of a step. -/
structure QOk (n : Nat) (inn : Nat → Bool) (c : Nat → Nat → Bool) (out l : List Nat) : Prop where
  nd : l.Nodup
  mem : ∀ i, i ∈ l ↔ i < n ∧ readyB n inn c out i = true
theorem QOk.none {out : List Nat} (h : QOk n inn c out []) : nextB n inn c out = none := by
  unfold nextB
  rw [List.find?_eq_none]
  intro x hx q
  have := (h.mem x).2 ⟨List.mem_range.1 hx, q⟩
  simp at this
theorem QOk.next {out l L : List Nat} {x : Nat} (h : QOk n inn c out l) (hp : (L ++ [x]).Perm l) (hm : ∀ u ∈ l, x ≤ u) : nextB n inn c out = some x := by
  have hx := (h.mem x).1 (hp.mem_iff.1 (by simp))
  unfold nextB
  rw [List.find?_range_eq_some]
  refine ⟨hx.2, List.mem_range.2 hx.1, fun j hj => ?_⟩
  cases q : readyB n inn c out j with
  | false => rfl
  | true =>
    have := hm j ((h.mem j).2 ⟨by omega, q⟩)
    omega
/-- The heap's nodes while those that wait on x are gone through. -/
structure QJ (n : Nat) (inn : Nat → Bool) (c : Nat → Nat → Bool) (out : List Nat) (x : Nat) (bl : List Nat) (j : Nat) (l : List Nat) : Prop where
  nd : l.Nodup
  mem : ∀ i, i ∈ l ↔ (i < n ∧ readyB n inn c out i = true ∧ i ≠ x) ∨ (i ∈ bl.take j ∧ lef n inn c (out ++ [x]) i = 0)
theorem QOk.pop {out l L bl : List Nat} {x : Nat} (h : QOk n inn c out l) (hp : (L ++ [x]).Perm l) : QJ n inn c out x bl 0 L := by
  have hnd : (L ++ [x]).Nodup := hp.nodup_iff.2 h.nd
  rw [List.nodup_append] at hnd
  refine ⟨hnd.1, fun i => ?_⟩
  have hm := (hp.mem_iff (a := i)).trans (h.mem i)
  simp only [List.mem_append, List.mem_singleton] at hm
  simp only [List.take_zero, List.not_mem_nil, false_and, or_false]
  constructor
  · intro q
    have := hm.1 (.inl q)
    exact ⟨this.1, this.2, fun e => hnd.2.2 i q x (by simp) e⟩
  · rintro ⟨a, b, d⟩
    exact (hm.2 ⟨a, b⟩).resolve_right d
theorem take_mem_snoc {l : List Nat} {j x : Nat} (h : l[j]? = some x) (y : Nat) : y ∈ l.take (j + 1) ↔ y ∈ l.take j ∨ y = x := by
  rw [List.take_add_one, h]
  simp
theorem QJ.no {out bl l : List Nat} {x j y : Nat} (h : QJ n inn c out x bl j l) (hy : bl[j]? = some y) (h0 : lef n inn c (out ++ [x]) y ≠ 0) : QJ n inn c out x bl (j + 1) l := by
  refine ⟨h.nd, fun i => ?_⟩
  rw [h.mem, take_mem_snoc hy]
  constructor
  · rintro (q | ⟨a, b⟩)
    · exact .inl q
    · exact .inr ⟨.inl a, b⟩
  · rintro (q | ⟨a | a, b⟩)
    · exact .inl q
    · exact .inr ⟨a, b⟩
    · rw [a] at b; exact (h0 b).elim
theorem QJ.yes {out bl l l' : List Nat} {x j y : Nat} (h : QJ n inn c out x bl j l) (hy : bl[j]? = some y) (h0 : lef n inn c (out ++ [x]) y = 0) (hb : ∀ u ∈ bl, waitP inn c u x = true) (hnd : y ∉ bl.take j) (hx : x < n) (hxo : x ∉ out) (hp : l'.Perm (l ++ [y])) : QJ n inn c out x bl (j + 1) l' := by
  have hw := hb y (List.mem_of_getElem? hy)
  have hnr : ¬ readyB n inn c out y = true := fun q => by
    have := (ready_iff.1 q).2.2
    have e := lef_snoc (c := c) (inn := inn) (i := y) hx hxo
    rw [if_pos hw] at e
    omega
  have hyl : y ∉ l := fun q => by
    rcases (h.mem y).1 q with z | z
    · exact hnr z.2.1
    · exact hnd z.1
  refine ⟨hp.nodup_iff.2 (List.nodup_append.2 ⟨h.nd, by simp, fun a ha b hb e => ?_⟩), fun i => ?_⟩
  · rw [List.mem_singleton] at hb
    subst hb e
    exact hyl ha
  · rw [hp.mem_iff, List.mem_append, List.mem_singleton, h.mem, take_mem_snoc hy]
    constructor
    · rintro ((q | ⟨a, b⟩) | q)
      · exact .inl q
      · exact .inr ⟨.inl a, b⟩
      · rw [q]; exact .inr ⟨.inr rfl, h0⟩
    · rintro (q | ⟨a | a, b⟩)
      · exact .inl (.inl q)
      · exact .inl (.inr ⟨a, b⟩)
      · exact .inr a
theorem QJ.fin {out bl l : List Nat} {x : Nat} (h : QJ n inn c out x bl bl.length l) (hO : OrdOk n inn c out) (hx : x < n) (hr : readyB n inn c out x = true) (hb : ∀ u, u ∈ bl ↔ u < n ∧ waitP inn c u x = true) (hir : c x x = false) : QOk n inn c (out ++ [x]) l := by
  obtain ⟨x1, x2, x3⟩ := ready_iff.1 hr
  refine ⟨h.nd, fun i => ?_⟩
  rw [h.mem, List.take_length, ready_iff (out := out ++ [x])]
  have e := lef_snoc (c := c) (inn := inn) (i := i) hx x2
  simp only [List.mem_append, List.mem_singleton]
  constructor
  · rintro (⟨a, b, d⟩ | ⟨a, b⟩)
    · obtain ⟨b1, b2, b3⟩ := ready_iff.1 b
      exact ⟨a, b1, fun q => q.elim b2 d, by omega⟩
    · obtain ⟨a1, a2⟩ := (hb i).1 a
      have a3 := a2
      unfold waitP at a3
      simp only [Bool.and_eq_true] at a3
      refine ⟨a1, a3.1, fun q => ?_, b⟩
      rcases q with q | q
      · obtain ⟨u, v, e2⟩ := List.append_of_mem q
        exact x2 (by rw [e2]; exact List.mem_append_left _ (hO.dep u v i e2 x hx a3.2.1 a3.2.2))
      · rw [q, hir] at a3
        exact Bool.noConfusion a3.2.2
  · rintro ⟨a, b1, b2, b3⟩
    by_cases q : lef n inn c out i = 0
    · exact .inl ⟨a, ready_iff.2 ⟨b1, fun z => b2 (.inl z), q⟩, fun z => b2 (.inr z)⟩
    · refine .inr ⟨(hb i).2 ⟨a, ?_⟩, b3⟩
      by_cases w : waitP inn c i x = true
      · exact w
      · rw [if_neg w] at e
        omega
/-- The heap's nodes at first, of the nodes below i. -/
structure QI (n : Nat) (inn : Nat → Bool) (c : Nat → Nat → Bool) (i : Nat) (l : List Nat) : Prop where
  nd : l.Nodup
  mem : ∀ u, u ∈ l ↔ u < i ∧ readyB n inn c [] u = true
theorem QI.nil : QI n inn c 0 [] := ⟨List.nodup_nil, fun u => by simp⟩
theorem QI.no {i : Nat} {l : List Nat} (h : QI n inn c i l) (hr : readyB n inn c [] i = false) : QI n inn c (i + 1) l := by
  refine ⟨h.nd, fun u => ?_⟩
  rw [h.mem]
  constructor
  · rintro ⟨a, b⟩; exact ⟨by omega, b⟩
  · rintro ⟨a, b⟩
    refine ⟨?_, b⟩
    have : u ≠ i := fun e => by rw [e, hr] at b; cases b
    omega
theorem QI.yes {i : Nat} {l l' : List Nat} (h : QI n inn c i l) (hr : readyB n inn c [] i = true) (hp : l'.Perm (l ++ [i])) : QI n inn c (i + 1) l' := by
  refine ⟨hp.nodup_iff.2 (List.nodup_append.2 ⟨h.nd, by simp, fun a ha b hb e => ?_⟩), fun u => ?_⟩
  · rw [List.mem_singleton] at hb
    subst hb e
    have := (h.mem _).1 ha
    omega
  · rw [hp.mem_iff, List.mem_append, List.mem_singleton, h.mem]
    constructor
    · rintro (⟨a, b⟩ | q)
      · exact ⟨by omega, b⟩
      · rw [q]; exact ⟨by omega, hr⟩
    · rintro ⟨a, b⟩
      by_cases e : u = i
      · exact .inr e
      · exact .inl ⟨by omega, b⟩
theorem QI.fin {l : List Nat} (h : QI n inn c n l) : QOk n inn c [] l := ⟨h.nd, h.mem⟩
theorem QI.len {i : Nat} {l : List Nat} (h : QI n inn c i l) : l.length ≤ i := nodup_le h.nd (fun u hu => ((h.mem u).1 hu).1)
theorem QOk.len {out l : List Nat} (h : QOk n inn c out l) : l.length ≤ n := nodup_le h.nd (fun u hu => ((h.mem u).1 hu).1)
theorem QJ.len {out bl l : List Nat} {x j : Nat} (h : QJ n inn c out x bl j l) (hb : ∀ u ∈ bl, u < n) : l.length ≤ n := nodup_le h.nd (fun u hu => by
  rcases (h.mem u).1 hu with q | q
  · exact q.1
  · exact hb u (List.mem_of_mem_take q.1))
end
end Go.Tarjan
