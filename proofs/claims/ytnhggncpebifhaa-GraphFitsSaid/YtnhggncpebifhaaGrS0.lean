/- What spread has met, what is left, what is out: a plain law. No program. -/
import Derived.Test.YtnhggncpebifhaaGrP
set_option maxRecDepth 10000
namespace Go.Tarjan

structure Ph (n : Nat) (A : Nat → List Nat) (fr : List Int) (met : Nat → Bool) (left out : List Nat) (ex : Nat → Nat → Prop) (fx : Nat → Prop) : Prop where
  lt : ∀ u, met u = true → u < n
  mem : ∀ u, met u = true ↔ u ∈ left ∨ u ∈ out
  nd : (left ++ out).Nodup
  ed : ∀ u ∈ out, ∀ t ∈ A u, met t = true ∨ ex u t
  rch : ∀ u, met u = true → ∃ k : Nat, (k : Int) ∈ fr ∧ k < n ∧ Rch A k u
  frm : ∀ k : Nat, (k : Int) ∈ fr → k < n → met k = true ∨ fx k
def metU (met : Nat → Bool) (t : Nat) : Nat → Bool := fun k => if k = t then true else met k
section
variable {n : Nat} {A : Nat → List Nat} {fr : List Int} {met : Nat → Bool} {left out : List Nat} {ex ex' : Nat → Nat → Prop} {fx fx' : Nat → Prop}
theorem Ph.start (n : Nat) (A : Nat → List Nat) (fr : List Int) : Ph n A fr (fun _ => false) [] [] (fun _ _ => False) (fun k => (k : Int) ∈ fr) :=
  ⟨by simp, by simp, by simp, by simp, by simp, fun k h _ => .inr h⟩
theorem Ph.same (h : Ph n A fr met left out ex fx) (hex : ∀ u t, ex u t → met t = true ∨ ex' u t) (hfx : ∀ k, k < n → fx k → met k = true ∨ fx' k) : Ph n A fr met left out ex' fx' :=
  ⟨h.lt, h.mem, h.nd, fun u hu t ht => (h.ed u hu t ht).elim .inl (hex u t), h.rch, fun k hk hn => (h.frm k hk hn).elim .inl (hfx k hn)⟩
theorem Ph.see (h : Ph n A fr met left out ex fx) {t : Nat} (ht : t < n) (hm : met t = false) (hr : ∃ k : Nat, (k : Int) ∈ fr ∧ k < n ∧ Rch A k t) (hex : ∀ u x, ex u x → x = t ∨ met x = true ∨ ex' u x) (hfx : ∀ k, k < n → fx k → k = t ∨ met k = true ∨ fx' k) : Ph n A fr (metU met t) (left ++ [t]) out ex' fx' := by
  have hn : t ∉ left ∧ t ∉ out := ⟨fun q => (by have := (h.mem t).2 (.inl q); rw [hm] at this; exact Bool.noConfusion this), fun q => (by have := (h.mem t).2 (.inr q); rw [hm] at this; exact Bool.noConfusion this)⟩
  have up : ∀ x, metU met t x = true ↔ x = t ∨ met x = true := fun x => by
    unfold metU
    by_cases e : x = t
    · simp [e]
    · simp [e]
  refine ⟨fun u hu => ?_, fun u => ?_, ?_, fun u hu x hx => ?_, fun u hu => ?_, fun k hk hkn => ?_⟩
  · rcases (up u).1 hu with e | e
    · rw [e]; exact ht
    · exact h.lt u e
  · rw [up, h.mem]
    simp only [List.mem_append, List.mem_singleton]
    constructor
    · rintro (q | q | q)
      · exact .inl (.inr q)
      · exact .inl (.inl q)
      · exact .inr q
    · rintro ((q | q) | q)
      · exact .inr (.inl q)
      · exact .inl q
      · exact .inr (.inr q)
  · have := h.nd
    rw [List.nodup_append] at this ⊢
    obtain ⟨a, b, c⟩ := this
    refine ⟨List.nodup_append.2 ⟨a, by simp, fun x hx y hy e => ?_⟩, b, fun x hx y hy e => ?_⟩
    · rw [List.mem_singleton] at hy
      subst hy e
      exact hn.1 hx
    · rcases List.mem_append.1 hx with q | q
      · exact c x q y hy e
      · rw [List.mem_singleton] at q
        subst q e
        exact hn.2 hy
  · rw [up]
    rcases h.ed u hu x hx with q | q
    · exact .inl (.inr q)
    · rcases hex u x q with q | q | q
      · exact .inl (.inl q)
      · exact .inl (.inr q)
      · exact .inr q
  · rcases (up u).1 hu with e | e
    · rw [e]; exact hr
    · exact h.rch u e
  · rw [up]
    rcases h.frm k hk hkn with q | q
    · exact .inl (.inr q)
    · rcases hfx k hkn q with q | q | q
      · exact .inl (.inl q)
      · exact .inl (.inr q)
      · exact .inr q
theorem Ph.pop {v : Nat} (h : Ph n A fr met (left ++ [v]) out (fun _ _ => False) (fun _ => False)) : Ph n A fr met left (out ++ [v]) (fun u t => u = v ∧ t ∈ A v) (fun _ => False) := by
  refine ⟨h.lt, fun u => ?_, ?_, fun u hu t ht => ?_, h.rch, h.frm⟩
  · rw [h.mem]
    simp only [List.mem_append, List.mem_singleton]
    constructor
    · rintro ((q | q) | q)
      · exact .inl q
      · exact .inr (.inr q)
      · exact .inr (.inl q)
    · rintro (q | q | q)
      · exact .inl (.inl q)
      · exact .inr q
      · exact .inl (.inr q)
  · have := h.nd
    refine List.Perm.nodup ?_ this
    rw [List.append_assoc]
    exact List.Perm.append_left _ (List.perm_append_comm)
  · rcases List.mem_append.1 hu with q | q
    · exact (h.ed u q t ht).elim .inl (fun z => z.elim)
    · rw [List.mem_singleton] at q
      subst q
      exact .inr ⟨rfl, ht⟩
theorem Ph.lens (h : Ph n A fr met left out ex fx) : left.length + out.length ≤ n := by
  have := nodup_le h.nd (fun u hu => h.lt u ((h.mem u).2 (List.mem_append.1 hu)))
  simpa using this
theorem Ph.all {E : Nat → Nat → Bool} (h : Ph n (adjE n E) fr met [] out (fun _ _ => False) (fun _ => False)) : ∀ u, u ∈ out ↔ u < n ∧ reachB n (wrun E n) (fun k => decide ((k : Int) ∈ fr)) u = true := by
  intro u
  have hm : ∀ u, u ∈ out ↔ met u = true := fun u => by rw [h.mem]; simp
  rw [hm]
  constructor
  · intro q
    have hu := h.lt u q
    refine ⟨hu, ?_⟩
    obtain ⟨k, h1, h2, h3⟩ := h.rch u q
    exact (reachB_iff hu).2 ⟨k, h2, by simpa using h1, h3⟩
  · rintro ⟨hu, q⟩
    obtain ⟨k, hk, h1, h2⟩ := (reachB_iff hu).1 q
    have h0 : met k = true := (h.frm k (by simpa using h1) hk).elim id (fun z => z.elim)
    clear q h1
    induction h2 with
    | refl => exact h0
    | step a b ih => exact ih hu (adjE_mem.1 a).1 ((h.ed _ ((hm _).2 h0) _ a).elim id (fun z => z.elim))
theorem Ph.nodup (h : Ph n A fr met [] out ex fx) : out.Nodup := by
  have := h.nd
  simpa using this
end
end Go.Tarjan
