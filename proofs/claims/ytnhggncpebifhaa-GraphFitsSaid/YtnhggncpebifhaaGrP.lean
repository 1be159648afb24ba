/- What reads what, step by step, as a table; parts, cycles, the order: plain laws. No program. -/
import Derived.Test.YtnhggncpebifhaaGrK
set_option maxRecDepth 10000
namespace Go.Tarjan

def adjE (n : Nat) (E : Nat → Nat → Bool) (u : Nat) : List Nat := (List.range n).filter (E u)
theorem adjE_mem {n : Nat} {E : Nat → Nat → Bool} {u x : Nat} : x ∈ adjE n E u ↔ x < n ∧ E u x = true := by simp [adjE]
/-- One reads another step by step. -/
inductive Pl (n : Nat) (E : Nat → Nat → Bool) : Nat → Nat → Prop
  | edge {i k : Nat} : i < n → k < n → E i k = true → Pl n E i k
  | trans {i j k : Nat} : Pl n E i j → Pl n E j k → Pl n E i k
def wstep (m : Nat) (c : Nat → Nat → Bool) : Nat → Nat → Bool := fun i k => c i k || (c i m && c m k)
def wrun (E : Nat → Nat → Bool) : Nat → Nat → Nat → Bool
  | 0 => E
  | m + 1 => wstep m (wrun E m)
section
variable {n : Nat} {E : Nat → Nat → Bool}
theorem Pl.lt {i k : Nat} (h : Pl n E i k) : i < n ∧ k < n := by
  induction h with
  | edge h1 h2 _ => exact ⟨h1, h2⟩
  | trans _ _ a b => exact ⟨a.1, b.2⟩
theorem wrun_sound : ∀ (m : Nat), m ≤ n → ∀ i k, i < n → k < n → wrun E m i k = true → Pl n E i k
  | 0, _, i, k, hi, hk, h => .edge hi hk h
  | m + 1, hm, i, k, hi, hk, h => by
    simp only [wrun, wstep, Bool.or_eq_true, Bool.and_eq_true] at h
    rcases h with h | ⟨h1, h2⟩
    · exact wrun_sound m (by omega) i k hi hk h
    · exact .trans (wrun_sound m (by omega) i m hi (by omega) h1) (wrun_sound m (by omega) m k (by omega) hk h2)
theorem wrun_mono : ∀ (m : Nat) {i k : Nat}, E i k = true → wrun E m i k = true
  | 0, _, _, h => h
  | m + 1, i, k, h => by
    simp only [wrun, wstep, Bool.or_eq_true]
    exact .inl (wrun_mono m h)
theorem wrun_closed : ∀ (m : Nat) (i j k : Nat), j < m → wrun E m i j = true → wrun E m j k = true → wrun E m i k = true
  | 0, _, _, _, h, _, _ => by omega
  | m + 1, i, j, k, hj, h1, h2 => by
    have C := wrun_closed m
    have e : ∀ a b, wrun E (m + 1) a b = (wrun E m a b || (wrun E m a m && wrun E m m b)) := fun _ _ => rfl
    rw [e] at h1 h2 ⊢
    simp only [Bool.or_eq_true, Bool.and_eq_true] at h1 h2 ⊢
    by_cases q : j = m
    · subst q
      rcases h1 with h1 | ⟨h1, _⟩ <;> rcases h2 with h2 | ⟨_, h2⟩ <;> exact .inr ⟨h1, h2⟩
    · have hjm : j < m := by omega
      rcases h1 with h1 | ⟨h1, h3⟩
      · rcases h2 with h2 | ⟨h2, h4⟩
        · exact .inl (C i j k hjm h1 h2)
        · exact .inr ⟨C i j m hjm h1 h2, h4⟩
      · rcases h2 with h2 | ⟨_, h4⟩
        · exact .inr ⟨h1, C m j k hjm h3 h2⟩
        · exact .inr ⟨h1, h4⟩
theorem wrun_iff {i k : Nat} (hi : i < n) (hk : k < n) : wrun E n i k = true ↔ Pl n E i k := by
  refine ⟨wrun_sound n (Nat.le_refl _) i k hi hk, fun h => ?_⟩
  clear hi hk
  induction h with
  | edge _ _ h => exact wrun_mono n h
  | trans a b h1 h2 => exact wrun_closed n _ _ _ a.lt.2 h1 h2
theorem pl_of_rch {i t k : Nat} (hi : i < n) (ht : t ∈ adjE n E i) (h : Rch (adjE n E) t k) : Pl n E i k := by
  induction h generalizing i with
  | refl u => exact .edge hi (adjE_mem.1 ht).1 (adjE_mem.1 ht).2
  | step a _ ih => exact .trans (.edge hi (adjE_mem.1 ht).1 (adjE_mem.1 ht).2) (ih (adjE_mem.1 ht).1 a)
theorem rch_of_pl {i k : Nat} (h : Pl n E i k) : ∃ t, t ∈ adjE n E i ∧ Rch (adjE n E) t k := by
  induction h with
  | edge _ h2 h3 => exact ⟨_, adjE_mem.2 ⟨h2, h3⟩, .refl _⟩
  | trans _ _ h1 h2 =>
    obtain ⟨t, ht, hr⟩ := h1
    obtain ⟨t2, ht2, hr2⟩ := h2
    exact ⟨t, ht, hr.trans (.step ht2 hr2)⟩
theorem rch_pl {i k : Nat} (hi : i < n) (h : Rch (adjE n E) i k) : i = k ∨ Pl n E i k := by
  cases h with
  | refl => exact .inl rfl
  | step a b => exact .inr (pl_of_rch hi a b)
theorem pl_rch {i k : Nat} (h : Pl n E i k) : Rch (adjE n E) i k := by
  obtain ⟨t, ht, hr⟩ := rch_of_pl h
  exact .step ht hr
theorem Least.uniq {adj : Nat → List Nat} {u p q : Nat} (h : Least adj u p) (k : Least adj u q) : p = q := by
  have := h.2.2 q k.1 k.2.1
  have := k.2.2 p h.1 h.2.1
  omega
/-- The part of a node, as the document has it. -/
def partF (c : Nat → Nat → Bool) (i : Nat) : Nat := ((List.range i).find? (fun k => c i k && c k i)).getD i
theorem find_min {n : Nat} {p : Nat → Bool} {x : Nat} (h : (List.range n).find? p = some x) : x < n ∧ p x = true ∧ ∀ y, y < x → p y = false := by
  rw [List.find?_range_eq_some] at h
  obtain ⟨h1, h2, h3⟩ := h
  refine ⟨List.mem_range.1 h2, h1, fun y hy => ?_⟩
  have := h3 y hy
  simpa using this
theorem find_no {n : Nat} {p : Nat → Bool} (h : (List.range n).find? p = none) : ∀ y, y < n → p y = false := fun y hy => by
  have := List.find?_eq_none.1 h y (List.mem_range.2 hy)
  simpa using this
theorem part_ref {i : Nat} (hi : i < n) : Least (adjE n E) i (partF (wrun E n) i) := by
  unfold partF
  cases hf : (List.range i).find? (fun k => wrun E n i k && wrun E n k i) with
  | none =>
    have h := find_no hf
    refine ⟨.refl _, .refl _, fun x h1 h2 => ?_⟩
    show i ≤ x
    rcases Nat.lt_or_ge x i with q | q
    · exfalso
      have hp := (rch_pl hi h1).resolve_left (by omega)
      have hq := (rch_pl (by omega : x < n) h2).resolve_left (by omega)
      have := h x q
      rw [(wrun_iff hi (by omega)).2 hp, (wrun_iff (by omega) hi).2 hq] at this
      cases this
    · exact q
  | some k =>
    obtain ⟨h1, h2, h3⟩ := find_min hf
    simp only [Bool.and_eq_true] at h2
    show Least (adjE n E) i k
    refine ⟨pl_rch ((wrun_iff hi (by omega)).1 h2.1), pl_rch ((wrun_iff (by omega) hi).1 h2.2), fun x hx hy => ?_⟩
    show k ≤ x
    rcases Nat.lt_or_ge x k with q | q
    · exfalso
      have hp := (rch_pl hi hx).resolve_left (by omega)
      have hq := (rch_pl (by omega : x < n) hy).resolve_left (by omega)
      have := h3 x q
      rw [(wrun_iff hi (by omega)).2 hp, (wrun_iff (by omega) hi).2 hq] at this
      cases this
    · exact q
theorem rsum_pos {n : Nat} {f : Nat → Nat} {t : Nat} (ht : t < n) : f t ≤ rsum n f := by
  induction n with
  | zero => omega
  | succ n ih =>
    rw [rsum_succ]
    by_cases e : t = n
    · subst e; omega
    · have := ih (by omega)
      omega
theorem rsum_two {n : Nat} {f : Nat → Nat} {t u : Nat} (ht : t < n) (hu : u < n) (h : t ≠ u) : f t + f u ≤ rsum n f := by
  induction n with
  | zero => omega
  | succ n ih =>
    rw [rsum_succ]
    by_cases e : t = n
    · subst e
      have := rsum_pos (f := f) (by omega : u < t)
      omega
    · by_cases e2 : u = n
      · subst e2
        have := rsum_pos (f := f) (by omega : t < u)
        omega
      · have := ih (by omega) (by omega)
        omega
theorem rsum_zero {n : Nat} {f : Nat → Nat} (h : ∀ u, u < n → f u = 0) : rsum n f = 0 := by
  induction n with
  | zero => simp [rsum]
  | succ n ih => rw [rsum_succ, ih (fun u hu => h u (by omega)), h n (by omega)]
/-- So many nodes have a part. -/
def sizeP (n : Nat) (part : Nat → Nat) (p : Nat) : Nat := rsum n (fun j => if part j = p then 1 else 0)
theorem cyc_iff {part : Nat → Nat} (hp : ∀ u, u < n → Least (adjE n E) u (part u)) {i : Nat} (hi : i < n) : (1 < sizeP n part (part i) ∨ E i i = true) ↔ wrun E n i i = true := by
  rw [wrun_iff hi hi]
  constructor
  · rintro (h | h)
    · by_cases q : ∃ j, j < n ∧ j ≠ i ∧ part j = part i
      · obtain ⟨j, hj, hji, e⟩ := q
        have h1 := hp j hj
        rw [e] at h1
        have h2 := hp i hi
        have r1 := (rch_pl hi (h2.1.trans h1.2.1)).resolve_left (fun z => hji z.symm)
        have r2 := (rch_pl hj (h1.1.trans h2.2.1)).resolve_left hji
        exact .trans r1 r2
      · exfalso
        have h0 := rsum_at (n := n) (f := fun j => if part j = part i then 1 else 0) (g := fun _ => 0) (t := i) hi
        have hz : ∀ u, u < n → u ≠ i → (if part u = part i then 1 else 0) = 0 := fun u hu hui => if_neg (fun e => q ⟨u, hu, hui, e⟩)
        have h3 : rsum n (fun j => if part j = part i then 1 else 0) = rsum n (fun j => if j = i then 1 else 0) := rsum_congr (fun u hu => by
          by_cases e : u = i
          · subst e; simp
          · rw [hz u hu e, if_neg e])
        have h4 := rsum_at (n := n) (f := fun j => if j = i then 1 else 0) (g := fun _ => 0) (t := i) hi (fun u hu => by simp [hu])
        rw [rsum_zero (f := fun _ => 0) (fun _ _ => rfl)] at h4
        simp only [if_pos] at h4
        unfold sizeP at h
        omega
    · exact .edge hi hi h
  · intro h
    obtain ⟨t, ht, hr⟩ := rch_of_pl h
    obtain ⟨htn, hE⟩ := adjE_mem.1 ht
    by_cases e : t = i
    · subst e; exact .inr hE
    · refine .inl ?_
      have h1 := hp t htn
      have h2 := hp i hi
      have : part t = part i := by
        have a := h1.2.2 (part i) (hr.trans h2.1) (h2.2.1.trans (Rch.edge ht))
        have b := h2.2.2 (part t) ((Rch.edge ht).trans h1.1) (h1.2.1.trans hr)
        omega
      have := rsum_two (f := fun j => if part j = part i then 1 else 0) hi htn (fun z => e z.symm)
      unfold sizeP
      rename_i e3
      rw [if_pos rfl, if_pos e3] at this
      omega
/-- What is come to from some nodes. -/
def reachB (n : Nat) (c : Nat → Nat → Bool) (from_ : Nat → Bool) (i : Nat) : Bool := from_ i || (List.range n).any (fun k => from_ k && c k i)
theorem reachB_iff {fr : Nat → Bool} {i : Nat} (hi : i < n) : reachB n (wrun E n) fr i = true ↔ ∃ k, k < n ∧ fr k = true ∧ Rch (adjE n E) k i := by
  unfold reachB
  simp only [Bool.or_eq_true, List.any_eq_true, List.mem_range, Bool.and_eq_true]
  constructor
  · rintro (h | ⟨k, hk, h1, h2⟩)
    · exact ⟨i, hi, h, .refl _⟩
    · exact ⟨k, hk, h1, pl_rch ((wrun_iff hk hi).1 h2)⟩
  · rintro ⟨k, hk, h1, h2⟩
    rcases rch_pl hk h2 with rfl | h
    · exact .inl h1
    · exact .inr ⟨k, hk, h1, (wrun_iff hk hi).2 h⟩
end

/-- May a node come next? -/
def readyB (n : Nat) (inn : Nat → Bool) (c : Nat → Nat → Bool) (out : List Nat) (i : Nat) : Bool := inn i && (!decide (i ∈ out) && (List.range n).all (fun k => !(inn k && (!decide (k ∈ out) && c i k))))
def nextB (n : Nat) (inn : Nat → Bool) (c : Nat → Nat → Bool) (out : List Nat) : Option Nat := (List.range n).find? (readyB n inn c out)
def ordF (n : Nat) (inn : Nat → Bool) (c : Nat → Nat → Bool) : Nat → List Nat → List Nat
  | 0, out => out
  | f + 1, out => match nextB n inn c out with
    | none => out
    | some i => ordF n inn c f (out ++ [i])
section
variable {n : Nat} {inn : Nat → Bool} {c : Nat → Nat → Bool}
structure OrdOk (n : Nat) (inn : Nat → Bool) (c : Nat → Nat → Bool) (out : List Nat) : Prop where
  nd : out.Nodup
  lt : ∀ i ∈ out, i < n ∧ inn i = true
  dep : ∀ a b i, out = a ++ i :: b → ∀ k, k < n → inn k = true → c i k = true → k ∈ a
theorem ready_parts {out : List Nat} {i : Nat} (h : readyB n inn c out i = true) : inn i = true ∧ i ∉ out ∧ ∀ k, k < n → inn k = true → c i k = true → k ∈ out := by
  unfold readyB at h
  simp only [Bool.and_eq_true, Bool.not_eq_true', decide_eq_false_iff_not, List.all_eq_true, List.mem_range, Bool.and_eq_false_iff, Bool.not_eq_false', decide_eq_true_eq] at h
  refine ⟨h.1, h.2.1, fun k hk h1 h2 => ?_⟩
  rcases h.2.2 k hk with q | q | q
  · rw [h1] at q; cases q
  · exact q
  · rw [h2] at q; cases q
theorem OrdOk.nil : OrdOk n inn c [] := ⟨List.nodup_nil, by simp, fun a b i e => by simp at e⟩
theorem OrdOk.snoc {out : List Nat} (h : OrdOk n inn c out) {i : Nat} (hn : nextB n inn c out = some i) : OrdOk n inn c (out ++ [i]) := by
  obtain ⟨h1, h2, h3⟩ := find_min hn
  obtain ⟨r1, r2, r3⟩ := ready_parts h2
  refine ⟨?_, ?_, ?_⟩
  · rw [List.nodup_append]
    refine ⟨h.nd, by simp, fun a ha b hb => ?_⟩
    rintro rfl
    rw [List.mem_singleton] at hb
    subst hb
    exact r2 ha
  · intro j hj
    rcases List.mem_append.1 hj with q | q
    · exact h.lt j q
    · rw [List.mem_singleton] at q
      subst q
      exact ⟨h1, r1⟩
  · intro a b j e k hk q1 q2
    rcases List.eq_nil_or_concat b with rfl | ⟨b', y, rfl⟩
    · obtain ⟨e1, e2⟩ := List.append_inj' e rfl
      simp only [List.cons.injEq, and_true] at e2
      subst e1 e2
      exact r3 k hk q1 q2
    · have e' : out ++ [i] = (a ++ j :: b') ++ [y] := by rw [e]; simp
      obtain ⟨e1, _⟩ := List.append_inj' e' rfl
      exact h.dep a b' j e1 k hk q1 q2
theorem OrdOk.len {out : List Nat} (h : OrdOk n inn c out) : out.length ≤ n := nodup_le h.nd (fun i hi => (h.lt i hi).1)
theorem ordF_more {f : Nat} : ∀ {f2 : Nat} {out : List Nat}, OrdOk n inn c out → n - out.length < f → f ≤ f2 → ordF n inn c f2 out = ordF n inn c f out := by
  induction f with
  | zero => intro f2 out _ h1; omega
  | succ f ih =>
    intro f2 out ho h1 h2
    obtain ⟨f2, rfl⟩ : ∃ g, f2 = g + 1 := ⟨f2 - 1, by omega⟩
    show (match nextB n inn c out with | none => out | some i => ordF n inn c f2 (out ++ [i])) = (match nextB n inn c out with | none => out | some i => ordF n inn c f (out ++ [i]))
    cases hn : nextB n inn c out with
    | none => rfl
    | some i =>
      have := (ho.snoc hn).len
      rw [List.length_append, List.length_singleton] at this
      exact ih (ho.snoc hn) (by rw [List.length_append, List.length_singleton]; omega) (by omega)
theorem ordF_ok {f : Nat} : ∀ {out : List Nat}, OrdOk n inn c out → OrdOk n inn c (ordF n inn c f out) := by
  induction f with
  | zero => intro out h; exact h
  | succ f ih =>
    intro out h
    show OrdOk n inn c (match nextB n inn c out with | none => out | some i => ordF n inn c f (out ++ [i]))
    cases hn : nextB n inn c out with
    | none => exact h
    | some i => exact ih (h.snoc hn)
theorem ordF_end {f : Nat} : ∀ {out : List Nat}, OrdOk n inn c out → n - out.length < f → nextB n inn c (ordF n inn c f out) = none := by
  induction f with
  | zero => intro out _ h; omega
  | succ f ih =>
    intro out ho h1
    show nextB n inn c (match nextB n inn c out with | none => out | some i => ordF n inn c f (out ++ [i])) = none
    cases hn : nextB n inn c out with
    | none => exact hn
    | some i =>
      have := (ho.snoc hn).len
      rw [List.length_append, List.length_singleton] at this
      exact ih (ho.snoc hn) (by rw [List.length_append, List.length_singleton]; omega)
/-- Nobody waits without an end. -/
theorem all_out {out : List Nat} (h : nextB n inn c out = none) (hir : ∀ i, i < n → inn i = true → c i i = false) (htr : ∀ i j k, i < n → j < n → k < n → c i j = true → c j k = true → c i k = true) : ∀ i, i < n → inn i = true → i ∈ out := by
  have hno := find_no h
  have rank : ∀ r i, i < n → inn i = true → i ∉ out → rsum n (fun k => if c i k then 1 else 0) ≤ r → False := by
    intro r
    induction r with
    | zero =>
      intro i hi h1 h2 h3
      have := hno i hi
      unfold readyB at this
      have hall : (List.range n).all (fun k => !(inn k && (!decide (k ∈ out) && c i k))) = true := by
        rw [List.all_eq_true]
        intro k hk
        have hk := List.mem_range.1 hk
        have := rsum_pos (f := fun k => if c i k then 1 else 0) hk
        have hf : c i k = false := by
          cases q : c i k with
          | false => rfl
          | true => simp only [q, if_true] at this; omega
        rw [hf]
        simp
      rw [hall, h1] at this
      simp at this
      exact h2 this
    | succ r ih =>
      intro i hi h1 h2 h3
      have hr := hno i hi
      unfold readyB at hr
      rw [h1] at hr
      have hd : decide (i ∈ out) = false := decide_eq_false h2
      rw [hd] at hr
      simp only [Bool.not_false, Bool.true_and] at hr
      rw [List.all_eq_false] at hr
      obtain ⟨k, hk, hk2⟩ := hr
      have hk := List.mem_range.1 hk
      have hk2 : (inn k && (!decide (k ∈ out) && c i k)) = true := by simpa using hk2
      simp only [Bool.and_eq_true, Bool.not_eq_true', decide_eq_false_iff_not] at hk2
      obtain ⟨k1, k2, k3⟩ := hk2
      refine ih k hk k1 k2 ?_
      have e1 : rsum n (fun j => if c k j then 1 else 0) + 1 ≤ rsum n (fun j => if c i j then 1 else 0) := by
        have a := rsum_at (n := n) (f := fun j => if j = k then 1 else (if c k j then 1 else 0)) (g := fun j => if c k j then 1 else 0) (t := k) hk (fun u hu => by simp [hu])
        have hkk := hir k hk k1
        simp only [if_true, hkk] at a
        have b : rsum n (fun j => if j = k then 1 else (if c k j then 1 else 0)) ≤ rsum n (fun j => if c i j then 1 else 0) := by
          have mono : ∀ m, m ≤ n → rsum m (fun j => if j = k then 1 else (if c k j then 1 else 0)) ≤ rsum m (fun j => if c i j then 1 else 0) := by
            intro m
            induction m with
            | zero => intro _; simp [rsum]
            | succ m ihm =>
              intro hm
              rw [rsum_succ, rsum_succ]
              have h0 := ihm (by omega)
              have : (if m = k then 1 else (if c k m then 1 else 0)) ≤ (if c i m then 1 else 0) := by
                by_cases e : m = k
                · subst e; simp [k3]
                · rw [if_neg e]
                  cases q : c k m with
                  | false => simp
                  | true => simp [htr i k m hi hk (by omega) k3 q]
              omega
          exact mono n (Nat.le_refl _)
        simp at a
        omega
      omega
  intro i hi h1
  by_cases q : i ∈ out
  · exact q
  · exact (rank _ i hi h1 q (Nat.le_refl _)).elim
end
end Go.Tarjan
