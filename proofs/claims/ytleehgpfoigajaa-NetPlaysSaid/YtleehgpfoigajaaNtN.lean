/- The reference's network: one list of all that is on its way; plain laws. -/
import Derived.Test.YtleehgpfoigajaaNtI
set_option maxRecDepth 100000
namespace Go.Proofs.Ytleehgpfoigajaa
open Go.RowKit Go.Lat Go.Sort

/-- A text on its way, as the reference has it. -/
structure On where
  p : Pr
  s : List UInt8
def onEnc (x : On) : List Value := [encStr x.p.1, encStr x.p.2, encStr x.s]
def onCells (l : List On) : List Value := l.flatMap onEnc
theorem onCells_app (a b : List On) : onCells (a ++ b) = onCells a ++ onCells b := by simp [onCells]
theorem onCells_len (a : List On) : (onCells a).length = a.length * 3 := by
  induction a with
  | nil => rfl
  | cons x l ih => simp [onCells, onEnc] at *; omega
theorem onCells_get (l : List On) (j : Nat) (x : On) (h : l[j]? = some x) : (onCells l)[j * 3]? = some (encStr x.p.1) ∧ (onCells l)[j * 3 + 1]? = some (encStr x.p.2) ∧ (onCells l)[j * 3 + 2]? = some (encStr x.s) := by
  induction l generalizing j with
  | nil => simp at h
  | cons y l ih =>
    cases j with
    | zero => simp at h; subst h; simp [onCells, onEnc]
    | succ j =>
      have := ih j (by simpa using h)
      have e : ∀ t, (onCells (y :: l))[(j + 1) * 3 + t]? = (onCells l)[j * 3 + t]? := by
        intro t
        have e1 : onCells (y :: l) = onEnc y ++ onCells l := by simp [onCells]
        rw [e1, List.getElem?_append_right (by simp [onEnc]; omega)]
        congr 1
        simp [onEnc]
        omega
      have e0 := e 0
      simp only [Nat.add_zero] at e0
      rw [e0, e 1, e 2]
      exact this
theorem onCells_one (l : List On) : ∀ u ∈ onCells l, u.oneCell' = true := by
  intro u hu
  simp only [onCells, List.mem_flatMap] at hu
  obtain ⟨x, _, hx⟩ := hu
  simp [onEnc, encStr] at hx
  rcases hx with rfl | rfl | rfl <;> rfl

def ofP (L : List On) (p : Pr) : List (List UInt8) := (L.filter fun x => decide (x.p = p)).map (·.s)
theorem ofP_app (a b : List On) (p : Pr) : ofP (a ++ b) p = ofP a p ++ ofP b p := by simp [ofP]
theorem ofP_cons (x : On) (l : List On) (p : Pr) : ofP (x :: l) p = if x.p = p then x.s :: ofP l p else ofP l p := by
  unfold ofP
  by_cases h : x.p = p <;> simp [h]
theorem ofP_snoc (l : List On) (x : On) : ofP (l ++ [x]) = setF (ofP l) x.p (ofP l x.p ++ [x.s]) := by
  funext q
  rw [ofP_app]
  by_cases h : q = x.p
  · subst h
    rw [setF_same, ofP_cons, if_pos rfl]
    rfl
  · rw [setF_other _ _ _ h, ofP_cons, if_neg (fun e => h e.symm)]
    simp [ofP]
/-- The place of the i-th text of a pair; -1: there is none. -/
def findG (p : Pr) (i : Int) : List On → Nat → Nat → Int
  | [], _, _ => -1
  | x :: l, k, j => if x.p = p then (if (k : Int) = i then (j : Int) else findG p i l (k + 1) (j + 1)) else findG p i l k (j + 1)
def findR (L : List On) (p : Pr) (i : Int) : Int := findG p i L 0 0
theorem findG_some {p : Pr} {i : Int} {x : List UInt8} : ∀ {l : List On} {k j : Nat}, (k : Int) ≤ i → (ofP l p)[(i - k).toNat]? = some x → ∃ d, findG p i l k j = ((j + d : Nat) : Int) ∧ l[d]? = some ⟨p, x⟩ ∧ ofP (l.take d) p = (ofP l p).take (i - k).toNat ∧ ofP (l.drop (d + 1)) p = (ofP l p).drop ((i - k).toNat + 1)
  | [], k, j, _, h => by simp [ofP] at h
  | y :: l, k, j, hk, h => by
    rw [ofP_cons] at h
    unfold findG
    by_cases hp : y.p = p
    · rw [if_pos hp] at h ⊢
      by_cases hi : (k : Int) = i
      · rw [if_pos hi]
        have e0 : (i - k).toNat = 0 := by omega
        rw [e0] at h ⊢
        simp at h
        refine ⟨0, by simp, ?_, by simp [ofP], ?_⟩
        · simp
          cases y
          simp at hp h
          rw [hp, h]
        · rw [ofP_cons, if_pos hp]
          simp
      · rw [if_neg hi]
        have e1 : (i - k).toNat = (i - (k + 1 : Nat)).toNat + 1 := by omega
        rw [e1] at h
        simp only [List.getElem?_cons_succ] at h
        obtain ⟨d, h1, h2, h3, h4⟩ := findG_some (l := l) (k := k + 1) (j := j + 1) (by omega) h
        refine ⟨d + 1, by rw [h1]; congr 1; omega, by simpa using h2, ?_, ?_⟩
        · rw [List.take_succ_cons, ofP_cons, if_pos hp, ofP_cons, if_pos hp, e1, List.take_succ_cons, h3]
        · rw [List.drop_succ_cons, ofP_cons, if_pos hp, e1, List.drop_succ_cons, h4]
    · rw [if_neg hp] at h ⊢
      obtain ⟨d, h1, h2, h3, h4⟩ := findG_some (l := l) (k := k) (j := j + 1) hk h
      refine ⟨d + 1, by rw [h1]; congr 1; omega, by simpa using h2, ?_, ?_⟩
      · rw [List.take_succ_cons, ofP_cons, if_neg hp, ofP_cons, if_neg hp, h3]
      · rw [List.drop_succ_cons, ofP_cons, if_neg hp, h4]
theorem findG_none {p : Pr} {i : Int} : ∀ {l : List On} {k j : Nat}, (i < k ∨ (ofP l p)[(i - k).toNat]? = none) → findG p i l k j = -1
  | [], k, j, _ => rfl
  | y :: l, k, j, h => by
    rw [ofP_cons] at h
    unfold findG
    by_cases hp : y.p = p
    · rw [if_pos hp] at h ⊢
      have hi : ¬ (k : Int) = i := by
        intro e
        rcases h with q | q
        · omega
        · have e0 : (i - k).toNat = 0 := by omega
          rw [e0] at q
          simp at q
      rw [if_neg hi]
      refine findG_none ?_
      rcases h with q | q
      · exact .inl (by omega)
      · by_cases hk : (k : Int) < i
        · right
          have e1 : (i - k).toNat = (i - (k + 1 : Nat)).toNat + 1 := by omega
          rw [e1] at q
          simpa using q
        · exact .inl (by omega)
    · rw [if_neg hp] at h ⊢
      exact findG_none h
theorem ofP_other {l : List On} {d : Nat} {p q : Pr} {x : List UInt8} (h : l[d]? = some ⟨p, x⟩) (hq : q ≠ p) : ofP (l.take d ++ l.drop (d + 1)) q = ofP l q := by
  have e : l = l.take d ++ ⟨p, x⟩ :: l.drop (d + 1) := by
    obtain ⟨hl, e⟩ := List.getElem?_eq_some_iff.1 h
    rw [← e, ← List.drop_eq_getElem_cons hl, List.take_append_drop]
  conv => rhs; rw [e]
  rw [ofP_app, ofP_app, ofP_cons, if_neg (fun z => hq z.symm)]
/-- What find, Look and Take make of it. -/
theorem find_some {L : List On} {p : Pr} {i : Int} {x : List UInt8} (h : lookR (ofP L p) i = some x) : ∃ d : Nat, findR L p i = (d : Int) ∧ L[d]? = some ⟨p, x⟩ ∧ ofP (L.take d ++ L.drop (d + 1)) = takeM (ofP L) p i := by
  obtain ⟨k, rfl, hk⟩ := lookR_some h
  obtain ⟨d, h1, h2, h3, h4⟩ := findG_some (p := p) (i := k) (l := L) (k := 0) (j := 0) (by omega) (x := x) (by simpa using hk)
  refine ⟨d, by unfold findR; simpa using h1, h2, ?_⟩
  funext q
  unfold takeM
  rw [h]
  simp only
  by_cases e : q = p
  · subst e
    rw [setF_same, ofP_app, h3, h4]
    simp
  · rw [setF_other _ _ _ e]
    exact ofP_other h2 e
theorem find_none {L : List On} {p : Pr} {i : Int} (h : lookR (ofP L p) i = none) : findR L p i = -1 := by
  refine findG_none ?_
  rcases lookR_none h with q | q
  · exact .inl (by omega)
  · by_cases h0 : i < 0
    · exact .inl (by omega)
    · exact .inr (List.getElem?_eq_none (by omega))
theorem findR_bounds {p : Pr} {i : Int} : ∀ (l : List On) (k j : Nat), findG p i l k j = -1 ∨ ∃ d, d < l.length ∧ findG p i l k j = ((j + d : Nat) : Int)
  | [], _, _ => .inl rfl
  | y :: l, k, j => by
    unfold findG
    by_cases hp : y.p = p
    · rw [if_pos hp]
      by_cases hi : (k : Int) = i
      · rw [if_pos hi]
        exact .inr ⟨0, by simp, by simp⟩
      · rw [if_neg hi]
        rcases findR_bounds l (k + 1) (j + 1) with h | ⟨d, h1, h2⟩
        · exact .inl h
        · exact .inr ⟨d + 1, by simpa using h1, by rw [h2]; congr 1; omega⟩
    · rw [if_neg hp]
      rcases findR_bounds l k (j + 1) with h | ⟨d, h1, h2⟩
      · exact .inl h
      · exact .inr ⟨d + 1, by simpa using h1, by rw [h2]; congr 1; omega⟩

/-- Clear. -/
def clearL (name : List UInt8) (L : List On) : List On := L.filter fun x => !inv name x.p
theorem ofP_clear (name : List UInt8) (L : List On) : ofP (clearL name L) = clearM name (ofP L) := by
  funext q
  unfold clearM clearL
  induction L with
  | nil => simp [ofP]
  | cons x l ih =>
    rw [List.filter_cons]
    by_cases h : inv name x.p = true
    · have h1 : (!inv name x.p) = false := by simp [h]
      rw [h1]
      simp only [Bool.false_eq_true, if_false]
      rw [ih]
      by_cases e : x.p = q
      · subst e
        simp [h]
      · rw [ofP_cons, if_neg e]
    · have h1 : (!inv name x.p) = true := by simpa using h
      rw [h1, if_pos rfl, ofP_cons, ih]
      by_cases e : x.p = q
      · subst e
        simp [h, ofP_cons]
      · rw [if_neg e, ofP_cons, if_neg e]

instance (p q : Pr) : Decidable (ltP p q) := by unfold ltP; infer_instance
/-- The pairs in order: one is put in. -/
def insP (p : Pr) : List Pr → List Pr
  | [] => [p]
  | q :: l => if ltP p q then p :: q :: l else q :: insP p l
theorem insP_mem {p q : Pr} : ∀ {l : List Pr}, q ∈ insP p l ↔ q = p ∨ q ∈ l
  | [] => by simp [insP]
  | x :: l => by
    unfold insP
    split
    · simp
    · rw [List.mem_cons, insP_mem, List.mem_cons]
      constructor
      · rintro (h | h | h)
        · exact .inr (.inl h)
        · exact .inl h
        · exact .inr (.inr h)
      · rintro (h | h | h)
        · exact .inr (.inl h)
        · exact .inl h
        · exact .inr (.inr h)
theorem insP_sorted {p : Pr} : ∀ {l : List Pr}, l.Pairwise ltP → p ∉ l → (insP p l).Pairwise ltP
  | [], _, _ => by simp [insP]
  | x :: l, h, hp => by
    obtain ⟨h1, h2⟩ := List.pairwise_cons.1 h
    unfold insP
    by_cases hx : ltP p x
    · rw [if_pos hx]
      refine List.pairwise_cons.2 ⟨fun y hy => ?_, h⟩
      rcases List.mem_cons.1 hy with e | hy
      · rw [e]; exact hx
      · exact ltP_trans hx (h1 y hy)
    · rw [if_neg hx]
      have hpx : p ≠ x := fun e => hp (by simp [e])
      refine List.pairwise_cons.2 ⟨fun y hy => ?_, insP_sorted h2 (fun q => hp (by simp [q]))⟩
      rcases insP_mem.1 hy with e | hy
      · rw [e]
        exact Classical.byContradiction fun q => hpx (ltP_total hx q)
      · exact h1 y hy
/-- The reference's Pairs. -/
def pairsF : List On → List Pr → List Pr
  | [], out => out
  | x :: l, out => pairsF l (if x.p ∈ out then out else insP x.p out)
theorem pairsF_snoc (x : On) : ∀ (l : List On) (out : List Pr), pairsF (l ++ [x]) out = if x.p ∈ pairsF l out then pairsF l out else insP x.p (pairsF l out)
  | [], out => rfl
  | y :: l, out => by
    rw [List.cons_append, pairsF, pairsF, pairsF_snoc x l]
theorem pairsF_sorted : ∀ {l : List On} {out : List Pr}, out.Pairwise ltP → (pairsF l out).Pairwise ltP
  | [], _, h => h
  | x :: l, out, h => by
    rw [pairsF]
    refine pairsF_sorted ?_
    split
    · exact h
    · rename_i hx
      exact insP_sorted h hx
theorem pairsF_mem {q : Pr} : ∀ {l : List On} {out : List Pr}, q ∈ pairsF l out ↔ q ∈ out ∨ ∃ x ∈ l, x.p = q
  | [], out => by simp [pairsF]
  | x :: l, out => by
    rw [pairsF, pairsF_mem]
    split
    · rename_i hx
      constructor
      · rintro (h | ⟨y, hy, e⟩)
        · exact .inl h
        · exact .inr ⟨y, by simp [hy], e⟩
      · rintro (h | ⟨y, hy, e⟩)
        · exact .inl h
        · rcases List.mem_cons.1 hy with e' | hy
          · left; rw [← e, e']; exact hx
          · exact .inr ⟨y, hy, e⟩
    · rw [insP_mem]
      constructor
      · rintro ((h | h) | ⟨y, hy, e⟩)
        · exact .inr ⟨x, by simp, h.symm⟩
        · exact .inl h
        · exact .inr ⟨y, by simp [hy], e⟩
      · rintro (h | ⟨y, hy, e⟩)
        · exact .inl (.inr h)
        · rcases List.mem_cons.1 hy with e' | hy
          · left; left; rw [← e, e']
          · exact .inr ⟨y, hy, e⟩
def pairsR (L : List On) : List Pr := pairsF L []
theorem pairsR_mem {L : List On} {p : Pr} : p ∈ pairsR L ↔ ofP L p ≠ [] := by
  unfold pairsR
  rw [pairsF_mem]
  unfold ofP
  constructor
  · rintro (h | ⟨x, hx, e⟩)
    · cases h
    · intro h0
      rw [List.map_eq_nil_iff, List.filter_eq_nil_iff] at h0
      exact h0 x hx (by simpa using e)
  · intro h
    right
    refine Classical.byContradiction fun q => h ?_
    rw [List.map_eq_nil_iff, List.filter_eq_nil_iff]
    intro x hx hp
    exact q ⟨x, hx, by simpa using hp⟩
/-- The program's pairs are the reference's. -/
theorem pairs_eq {L : List On} {ks : List Pr} (h1 : ks.Pairwise ltP) (h2 : ∀ p ∈ ks, prOk p) (h3 : ∀ p, prOk p → (p ∈ ks ↔ ofP L p ≠ [])) (h4 : ∀ x ∈ L, prOk x.p) : ks = pairsR L := by
  refine sorted_eq h1 (pairsF_sorted List.Pairwise.nil) fun p => ?_
  have : p ∈ pairsR L ↔ ofP L p ≠ [] := pairsR_mem
  rw [this]
  constructor
  · intro h
    exact (h3 p (h2 p h)).1 h
  · intro h
    have hx := (pairsF_mem (q := p) (l := L) (out := [])).1 (this.2 h)
    rcases hx with q | ⟨x, hx, e⟩
    · cases q
    · exact (h3 p (e ▸ h4 x hx)).2 h

/-- The loop that puts a pair in. -/
structure InsS where
  was : Bool
  put : Bool
  next : List Pr
def insG (p : Pr) : List Pr → InsS → InsS
  | [], s => s
  | q :: l, s => insG p l ⟨s.was || decide (q = p), s.put || decide (ltP p q), if !s.put && decide (ltP p q) then s.next ++ [p, q] else s.next ++ [q]⟩
theorem insG_snoc (p q : Pr) : ∀ (l : List Pr) (s : InsS), insG p (l ++ [q]) s = ⟨(insG p l s).was || decide (q = p), (insG p l s).put || decide (ltP p q), if !(insG p l s).put && decide (ltP p q) then (insG p l s).next ++ [p, q] else (insG p l s).next ++ [q]⟩
  | [], s => rfl
  | y :: l, s => by rw [List.cons_append, insG, insG, insG_snoc p q l]
theorem insG_was (p : Pr) : ∀ (l : List Pr) (s : InsS), (insG p l s).was = (s.was || decide (p ∈ l))
  | [], s => by simp [insG]
  | q :: l, s => by
    rw [insG, insG_was p l]
    by_cases h : q = p
    · subst h; simp
    · have h' : ¬ p = q := fun e => h e.symm
      simp [h, h']
theorem insG_put (p : Pr) : ∀ (l : List Pr) (acc : List Pr) (w : Bool), (insG p l ⟨w, true, acc⟩).put = true ∧ (insG p l ⟨w, true, acc⟩).next = acc ++ l
  | [], acc, w => by simp [insG]
  | q :: l, acc, w => by
    rw [insG]
    have := insG_put p l (acc ++ [q]) (w || decide (q = p))
    simpa using this
theorem insG_next (p : Pr) : ∀ (l : List Pr) (acc : List Pr) (w : Bool), (if (insG p l ⟨w, false, acc⟩).put then (insG p l ⟨w, false, acc⟩).next else (insG p l ⟨w, false, acc⟩).next ++ [p]) = acc ++ insP p l
  | [], acc, w => by simp [insG, insP]
  | q :: l, acc, w => by
    rw [insG, insP]
    by_cases h : ltP p q
    · have := insG_put p l (acc ++ [p, q]) (w || decide (q = p))
      simp [h, this.1, this.2]
    · have := insG_next p l (acc ++ [q]) (w || decide (q = p))
      simpa [h] using this
theorem insG_len (p : Pr) : ∀ (l : List Pr) (s : InsS), (insG p l s).next.length ≤ s.next.length + 2 * l.length
  | [], s => by simp [insG]
  | q :: l, s => by
    rw [insG]
    refine Nat.le_trans (insG_len p l _) ?_
    simp only [List.length_cons]
    split <;> simp <;> omega
end Go.Proofs.Ytleehgpfoigajaa
