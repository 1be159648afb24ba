/- Tarjan's way through a graph as a plain law: what lies on the stack and what is put into a part. No program. -/
set_option maxRecDepth 10000
namespace Go.Tarjan

/-- One comes to another, edge by edge. -/
inductive Rch (adj : Nat → List Nat) : Nat → Nat → Prop
  | refl (u : Nat) : Rch adj u u
  | step {u t w : Nat} : t ∈ adj u → Rch adj t w → Rch adj u w
theorem Rch.trans {adj : Nat → List Nat} {a b c : Nat} (h : Rch adj a b) (k : Rch adj b c) : Rch adj a c := by
  induction h with
  | refl => exact k
  | step h _ ih => exact .step h (ih k)
theorem Rch.edge {adj : Nat → List Nat} {a b : Nat} (h : b ∈ adj a) : Rch adj a b := .step h (.refl b)
theorem Rch.snoc {adj : Nat → List Nat} {a b c : Nat} (h : Rch adj a b) (k : c ∈ adj b) : Rch adj a c := h.trans (Rch.edge k)

def upd (f : Nat → Nat) (a b : Nat) : Nat → Nat := fun x => if x = a then b else f x
theorem upd_same (f : Nat → Nat) (a b : Nat) : upd f a b a = b := by simp [upd]
theorem upd_other (f : Nat → Nat) (a b : Nat) {x : Nat} (h : x ≠ a) : upd f a b x = f x := by simp [upd, h]

structure St where
  count : Nat
  idx : Nat → Nat
  low : Nat → Nat
  stk : List Nat
  part : Nat → Nat
  way : List (Nat × Nat)

/-- The way's nodes follow each other by edges. -/
def Tree (adj : Nat → List Nat) : List (Nat × Nat) → Prop
  | a :: b :: r => a.1 ∈ adj b.1 ∧ Tree adj (b :: r)
  | _ => True

/-- The least of those that come to a node and that it comes to. -/
def Least (adj : Nat → List Nat) (u p : Nat) : Prop := Rch adj u p ∧ Rch adj p u ∧ ∀ x, Rch adj u x → Rch adj x u → p ≤ x

/-- The nodes of the way. -/
def St.ww (s : St) : List Nat := s.way.map Prod.fst
structure Inv (adj : Nat → List Nat) (n : Nat) (s : St) : Prop where
  cnt : ∀ u, s.idx u ≤ s.count
  inj : ∀ u v, 0 < s.idx u → s.idx u = s.idx v → u = v
  lt : ∀ u, 0 < s.idx u → u < n
  so : s.stk.Pairwise (fun a b => s.idx b < s.idx a)
  sm : ∀ u ∈ s.stk, 0 < s.idx u
  wo : s.ww.Pairwise (fun a b => s.idx b < s.idx a)
  ws : ∀ v ∈ s.ww, v ∈ s.stk
  we : Tree adj s.way
  lle : ∀ u ∈ s.stk, s.low u ≤ s.idx u
  lat : ∀ u ∈ s.stk, ∃ w ∈ s.stk, s.idx w = s.low u ∧ Rch adj u w
  ed : ∀ u ∈ s.stk, u ∉ s.ww → ∀ t ∈ adj u, 0 < s.idx t ∧ (t ∈ s.stk → s.low u ≤ s.idx t)
  ew : ∀ f ∈ s.way, ∀ t ∈ (adj f.1).take f.2, 0 < s.idx t ∧ (t ∈ s.stk → s.low f.1 ≤ s.idx t)
  cl : ∀ u, 0 < s.idx u → u ∉ s.stk → ∀ t ∈ adj u, 0 < s.idx t ∧ t ∉ s.stk
  dl : ∀ u ∈ s.stk, u ∉ s.ww → s.low u < s.idx u
  nr : ∀ u ∈ s.stk, ∃ v ∈ s.ww, s.idx v ≤ s.idx u ∧ (∀ g ∈ s.ww, s.idx g ≤ s.idx u → s.idx g ≤ s.idx v) ∧ Rch adj v u ∧ (v ≠ u → s.low v ≤ s.low u)
  pt : ∀ u, 0 < s.idx u → u ∉ s.stk → Least adj u (s.part u)

/-- A node is met by the next edge of the way's last one. -/
def St.meet (s : St) (t : Nat) (w : List (Nat × Nat)) : St := ⟨s.count + 1, upd s.idx t (s.count + 1), upd s.low t (s.count + 1), t :: s.stk, s.part, (t, 0) :: w⟩

theorem fresh {adj : Nat → List Nat} {n : Nat} {s : St} (h : Inv adj n s) {t : Nat} (ht : s.idx t = 0) : t ∉ s.stk := fun e => by
  have := h.sm t e
  omega

theorem meet_cnt {adj : Nat → List Nat} {n : Nat} {s : St} (h : Inv adj n s) (t u : Nat) : upd s.idx t (s.count + 1) u ≤ s.count + 1 := by
  by_cases e : u = t
  · rw [e, upd_same]
    exact Nat.le_refl _
  · rw [upd_other _ _ _ e]
    have := h.cnt u
    omega
theorem meet_inj {adj : Nat → List Nat} {n : Nat} {s : St} (h : Inv adj n s) (t u v : Nat) (hu : 0 < upd s.idx t (s.count + 1) u) (e : upd s.idx t (s.count + 1) u = upd s.idx t (s.count + 1) v) : u = v := by
  by_cases e1 : u = t
  · by_cases e2 : v = t
    · rw [e1, e2]
    · rw [e1, upd_same, upd_other _ _ _ e2] at e
      have := h.cnt v
      omega
  · by_cases e2 : v = t
    · rw [e2, upd_same, upd_other _ _ _ e1] at e
      have := h.cnt u
      omega
    · rw [upd_other _ _ _ e1, upd_other _ _ _ e2] at e
      rw [upd_other _ _ _ e1] at hu
      exact h.inj u v hu e
theorem meet_lt {adj : Nat → List Nat} {n : Nat} {s : St} (h : Inv adj n s) (t u : Nat) (htn : t < n) (hu : 0 < upd s.idx t (s.count + 1) u) : u < n := by
  by_cases e : u = t
  · rw [e]; exact htn
  · rw [upd_other _ _ _ e] at hu
    exact h.lt u hu
theorem meet_any {adj : Nat → List Nat} {n : Nat} {s : St} (h : Inv adj n s) {t : Nat} (ht : s.idx t = 0) (htn : t < n) (w : List (Nat × Nat)) (hw : w.map Prod.fst = s.ww) (hwe : Tree adj ((t, 0) :: w))
    (hew : ∀ f ∈ w, ∀ x ∈ (adj f.1).take f.2, x = t ∨ (0 < s.idx x ∧ (x ∈ s.stk → s.low f.1 ≤ s.idx x))) : Inv adj n (s.meet t w) := by
  have hf := fresh h ht
  have hne : ∀ u ∈ s.stk, u ≠ t := fun u hu e => hf (e ▸ hu)
  have hidx : ∀ x, x ≠ t → upd s.idx t (s.count + 1) x = s.idx x := fun x hx => upd_other _ _ _ hx
  have hlow : ∀ x, x ≠ t → upd s.low t (s.count + 1) x = s.low x := fun x hx => upd_other _ _ _ hx
  have hwt : t ∉ s.ww := fun e => hf (h.ws t e)
  have hww : (s.meet t w).ww = t :: s.ww := by
    unfold St.ww St.meet
    rw [List.map_cons, hw]
    rfl
  have mst : ∀ {u}, u ∈ (s.meet t w).stk → u = t ∨ u ∈ s.stk := fun hu => List.mem_cons.1 hu
  refine ⟨meet_cnt h t, meet_inj h t, fun u => meet_lt h t u htn, ?_, fun u hu => ?_, ?_, ?_, hwe, fun u hu => ?_, fun u hu => ?_, fun u hu hn x hx => ?_, fun f hff x hx => ?_, fun u hu hn x hx => ?_, fun u hu hn => ?_, fun u hu => ?_, fun u hu hn => ?_⟩
  · show (t :: s.stk).Pairwise (fun a b => upd s.idx t (s.count + 1) b < upd s.idx t (s.count + 1) a)
    refine List.pairwise_cons.2 ⟨fun a ha => ?_, ?_⟩
    · rw [upd_same, hidx a (hne a ha)]
      have := h.cnt a
      omega
    · exact h.so.imp_of_mem fun {a b} ha hb hab => by rw [hidx a (hne a ha), hidx b (hne b hb)]; exact hab
  · show 0 < upd s.idx t (s.count + 1) u
    rcases mst hu with rfl | hu
    · rw [upd_same]; omega
    · rw [hidx u (hne u hu)]; exact h.sm u hu
  · rw [hww]
    show (t :: s.ww).Pairwise (fun a b => upd s.idx t (s.count + 1) b < upd s.idx t (s.count + 1) a)
    refine List.pairwise_cons.2 ⟨fun a ha => ?_, ?_⟩
    · rw [upd_same, hidx a (hne a (h.ws a ha))]
      have := h.cnt a
      omega
    · exact h.wo.imp_of_mem fun {a b} ha hb hab => by rw [hidx a (hne a (h.ws a ha)), hidx b (hne b (h.ws b hb))]; exact hab
  · rw [hww]
    intro v hv
    rcases List.mem_cons.1 hv with rfl | hv
    · exact List.mem_cons_self
    · exact List.mem_cons_of_mem _ (h.ws v hv)
  · show upd s.low t (s.count + 1) u ≤ upd s.idx t (s.count + 1) u
    rcases mst hu with rfl | hu
    · rw [upd_same, upd_same]; exact Nat.le_refl _
    · rw [hlow u (hne u hu), hidx u (hne u hu)]; exact h.lle u hu
  · show ∃ x ∈ t :: s.stk, upd s.idx t (s.count + 1) x = upd s.low t (s.count + 1) u ∧ Rch adj u x
    rcases mst hu with rfl | hu
    · exact ⟨u, List.mem_cons_self, by rw [upd_same, upd_same], .refl u⟩
    · obtain ⟨x, hx, e, r⟩ := h.lat u hu
      exact ⟨x, List.mem_cons_of_mem _ hx, by rw [hidx x (hne x hx), hlow u (hne u hu)]; exact e, r⟩
  · rw [hww] at hn
    rcases mst hu with rfl | hu
    · exact absurd List.mem_cons_self hn
    · obtain ⟨h1, h2⟩ := h.ed u hu (fun e => hn (List.mem_cons_of_mem _ e)) x hx
      have hxt : x ≠ t := by rintro rfl; omega
      refine ⟨by show 0 < upd s.idx t (s.count + 1) x; rw [hidx x hxt]; exact h1, fun hm => ?_⟩
      show upd s.low t (s.count + 1) u ≤ upd s.idx t (s.count + 1) x
      rw [hidx x hxt, hlow u (hne u hu)]
      exact h2 ((mst hm).resolve_left hxt)
  · rcases List.mem_cons.1 hff with rfl | hff
    · simp at hx
    · have hfs : f.1 ∈ s.stk := h.ws f.1 (by rw [← hw]; exact List.mem_map_of_mem hff)
      have hft := hne f.1 hfs
      rcases hew f hff x hx with rfl | ⟨h1, h2⟩
      · refine ⟨by show 0 < upd s.idx x (s.count + 1) x; rw [upd_same]; omega, fun _ => ?_⟩
        show upd s.low x (s.count + 1) f.1 ≤ upd s.idx x (s.count + 1) x
        rw [upd_same, hlow f.1 hft]
        have := h.lle f.1 hfs
        have := h.cnt f.1
        omega
      · have hxt : x ≠ t := by rintro rfl; omega
        refine ⟨by show 0 < upd s.idx t (s.count + 1) x; rw [hidx x hxt]; exact h1, fun hm => ?_⟩
        show upd s.low t (s.count + 1) f.1 ≤ upd s.idx t (s.count + 1) x
        rw [hidx x hxt, hlow f.1 hft]
        exact h2 ((mst hm).resolve_left hxt)
  · have hut : u ≠ t := fun e => hn (by rw [e]; exact List.mem_cons_self)
    have hu' : 0 < s.idx u := by
      have : 0 < upd s.idx t (s.count + 1) u := hu
      rwa [hidx u hut] at this
    obtain ⟨h1, h2⟩ := h.cl u hu' (fun e => hn (List.mem_cons_of_mem _ e)) x hx
    have hxt : x ≠ t := by rintro rfl; omega
    refine ⟨by show 0 < upd s.idx t (s.count + 1) x; rw [hidx x hxt]; exact h1, fun hm => h2 ((mst hm).resolve_left hxt)⟩
  · rw [hww] at hn
    rcases mst hu with rfl | hu
    · exact absurd List.mem_cons_self hn
    · show upd s.low t (s.count + 1) u < upd s.idx t (s.count + 1) u
      rw [hlow u (hne u hu), hidx u (hne u hu)]
      exact h.dl u hu (fun e => hn (List.mem_cons_of_mem _ e))
  · rw [hww]
    show ∃ v ∈ t :: s.ww, upd s.idx t (s.count + 1) v ≤ upd s.idx t (s.count + 1) u ∧ (∀ g ∈ t :: s.ww, upd s.idx t (s.count + 1) g ≤ upd s.idx t (s.count + 1) u → upd s.idx t (s.count + 1) g ≤ upd s.idx t (s.count + 1) v) ∧ Rch adj v u ∧ (v ≠ u → upd s.low t (s.count + 1) v ≤ upd s.low t (s.count + 1) u)
    rcases mst hu with rfl | hu
    · exact ⟨u, List.mem_cons_self, Nat.le_refl _, fun g _ _ => by rw [upd_same]; exact meet_cnt h u g, .refl u, fun e => absurd rfl e⟩
    · obtain ⟨v, hv, h1, h2, h3, h4⟩ := h.nr u hu
      have hvt := hne v (h.ws v hv)
      refine ⟨v, List.mem_cons_of_mem _ hv, by rw [hidx v hvt, hidx u (hne u hu)]; exact h1, fun g hg hgu => ?_, h3, fun e => by rw [hlow v hvt, hlow u (hne u hu)]; exact h4 e⟩
      rw [hidx u (hne u hu)] at hgu
      rcases List.mem_cons.1 hg with rfl | hg
      · rw [upd_same] at hgu
        have := h.cnt u
        omega
      · rw [hidx g (hne g (h.ws g hg))] at hgu ⊢
        rw [hidx v hvt]
        exact h2 g hg hgu
  · have hut : u ≠ t := fun e => hn (by rw [e]; exact List.mem_cons_self)
    have hu' : 0 < s.idx u := by
      have : 0 < upd s.idx t (s.count + 1) u := hu
      rwa [hidx u hut] at this
    exact h.pt u hu' (fun e => hn (List.mem_cons_of_mem _ e))

theorem Tree.next {adj : Nat → List Nat} {v k k' : Nat} {r : List (Nat × Nat)} (h : Tree adj ((v, k) :: r)) : Tree adj ((v, k') :: r) := by
  cases r with
  | nil => trivial
  | cons b r => exact h
theorem Tree.tail {adj : Nat → List Nat} {a : Nat × Nat} {r : List (Nat × Nat)} (h : Tree adj (a :: r)) : Tree adj r := by
  cases r with
  | nil => trivial
  | cons b r => exact h.2
theorem take_snoc {l : List Nat} {k t : Nat} (h : l[k]? = some t) : l.take (k + 1) = l.take k ++ [t] := by
  rw [List.take_add_one, h]
  rfl
/-- The first node is met. -/
theorem meet_first {adj : Nat → List Nat} {n : Nat} {s : St} (h : Inv adj n s) {t : Nat} (ht : s.idx t = 0) (htn : t < n) (hw : s.way = []) : Inv adj n (s.meet t []) :=
  meet_any h ht htn [] (by simp [St.ww, hw]) trivial (by simp)
/-- A node is met by the next edge. -/
theorem meet_next {adj : Nat → List Nat} {n : Nat} {s : St} (h : Inv adj n s) {v k t : Nat} {r : List (Nat × Nat)} (hw : s.way = (v, k) :: r) (hk : (adj v)[k]? = some t) (ht : s.idx t = 0) (htn : t < n) : Inv adj n (s.meet t ((v, k + 1) :: r)) := by
  have hwe := h.we
  rw [hw] at hwe
  refine meet_any h ht htn _ (by simp [St.ww, hw]) ⟨List.mem_of_getElem? hk, hwe.next⟩ fun f hf x hx => ?_
  rcases List.mem_cons.1 hf with rfl | hf
  · rw [take_snoc hk] at hx
    rcases List.mem_append.1 hx with hx | hx
    · exact .inr (h.ew (v, k) (by rw [hw]; exact List.mem_cons_self) x hx)
    · exact .inl (by simpa using hx)
  · exact .inr (h.ew f (by rw [hw]; exact List.mem_cons_of_mem _ hf) x hx)

/-- The next edge leads to a node that was met. -/
def St.skip (s : St) (v k t : Nat) (r : List (Nat × Nat)) : St := ⟨s.count, s.idx, if t ∈ s.stk then upd s.low v (min (s.low v) (s.idx t)) else s.low, s.stk, s.part, (v, k + 1) :: r⟩
theorem skip_inv {adj : Nat → List Nat} {n : Nat} {s : St} (h : Inv adj n s) {v k t : Nat} {r : List (Nat × Nat)} (hw : s.way = (v, k) :: r) (hk : (adj v)[k]? = some t) (ht : 0 < s.idx t) : Inv adj n (s.skip v k t r) := by
  have hvw : v ∈ s.ww := by simp [St.ww, hw]
  have hvs := h.ws v hvw
  have hta : t ∈ adj v := List.mem_of_getElem? hk
  have hww : (s.skip v k t r).ww = s.ww := by simp [St.ww, St.skip, hw]
  have hlo : ∀ x, x ≠ v → (s.skip v k t r).low x = s.low x := by
    intro x hx
    show (if t ∈ s.stk then upd s.low v (min (s.low v) (s.idx t)) else s.low) x = s.low x
    split
    · exact upd_other _ _ _ hx
    · rfl
  have hlv : (s.skip v k t r).low v ≤ s.low v := by
    show (if t ∈ s.stk then upd s.low v (min (s.low v) (s.idx t)) else s.low) v ≤ s.low v
    split
    · rw [upd_same]; omega
    · exact Nat.le_refl _
  have hlt : t ∈ s.stk → (s.skip v k t r).low v ≤ s.idx t := by
    intro hm
    show (if t ∈ s.stk then upd s.low v (min (s.low v) (s.idx t)) else s.low) v ≤ s.idx t
    rw [if_pos hm, upd_same]
    omega
  have hle : ∀ x, (s.skip v k t r).low x ≤ s.low x := fun x => by
    by_cases e : x = v
    · rw [e]; exact hlv
    · rw [hlo x e]; exact Nat.le_refl _
  refine ⟨h.cnt, h.inj, h.lt, h.so, h.sm, by rw [hww]; exact h.wo, by rw [hww]; exact h.ws, ?_, fun u hu => Nat.le_trans (hle u) (h.lle u hu), fun u hu => ?_, fun u hu hn x hx => ?_, fun f hf x hx => ?_, h.cl, fun u hu hn => ?_, fun u hu => ?_, h.pt⟩
  · have := h.we
    rw [hw] at this
    exact this.next
  · by_cases e : u = v
    · subst e
      by_cases hm : t ∈ s.stk
      · by_cases hc : s.low u ≤ s.idx t
        · obtain ⟨w, h1, h2, h3⟩ := h.lat u hu
          refine ⟨w, h1, ?_, h3⟩
          show s.idx w = (if t ∈ s.stk then upd s.low u (min (s.low u) (s.idx t)) else s.low) u
          rw [if_pos hm, upd_same, h2]
          omega
        · refine ⟨t, hm, ?_, Rch.edge hta⟩
          show s.idx t = (if t ∈ s.stk then upd s.low u (min (s.low u) (s.idx t)) else s.low) u
          rw [if_pos hm, upd_same]
          omega
      · obtain ⟨w, h1, h2, h3⟩ := h.lat u hu
        refine ⟨w, h1, ?_, h3⟩
        show s.idx w = (if t ∈ s.stk then upd s.low u (min (s.low u) (s.idx t)) else s.low) u
        rw [if_neg hm, h2]
    · obtain ⟨w, h1, h2, h3⟩ := h.lat u hu
      exact ⟨w, h1, by rw [hlo u e]; exact h2, h3⟩
  · rw [hww] at hn
    obtain ⟨h1, h2⟩ := h.ed u hu hn x hx
    exact ⟨h1, fun hm => Nat.le_trans (hle u) (h2 hm)⟩
  · rcases List.mem_cons.1 hf with rfl | hf
    · rw [take_snoc hk] at hx
      rcases List.mem_append.1 hx with hx | hx
      · obtain ⟨h1, h2⟩ := h.ew (v, k) (by rw [hw]; exact List.mem_cons_self) x hx
        exact ⟨h1, fun hm => Nat.le_trans hlv (h2 hm)⟩
      · obtain rfl : x = t := by simpa using hx
        exact ⟨ht, hlt⟩
    · obtain ⟨h1, h2⟩ := h.ew f (by rw [hw]; exact List.mem_cons_of_mem _ hf) x hx
      exact ⟨h1, fun hm => Nat.le_trans (hle _) (h2 hm)⟩
  · rw [hww] at hn
    exact Nat.lt_of_le_of_lt (hle u) (h.dl u hu hn)
  · rw [hww]
    obtain ⟨v0, hv0, h1, h2, h3, h4⟩ := h.nr u hu
    refine ⟨v0, hv0, h1, h2, h3, fun e => ?_⟩
    by_cases euv : u = v
    · subst euv
      have := h2 u hvw (Nat.le_refl _)
      have e2 : s.idx v0 = s.idx u := Nat.le_antisymm h1 this
      exact absurd (h.inj v0 u (h.sm v0 (h.ws v0 hv0)) e2) e
    · rw [hlo u euv]
      exact Nat.le_trans (hle v0) (h4 e)

/-- The low mark of the node below, when the way's last one goes. -/
def downL (low : Nat → Nat) (v : Nat) : List (Nat × Nat) → Nat → Nat
  | [] => low
  | (p, _) :: _ => upd low p (min (low p) (low v))
theorem downL_le (low : Nat → Nat) (v : Nat) (r : List (Nat × Nat)) (x : Nat) : downL low v r x ≤ low x := by
  cases r with
  | nil => exact Nat.le_refl _
  | cons b r =>
    obtain ⟨p, q⟩ := b
    show upd low p (min (low p) (low v)) x ≤ low x
    by_cases e : x = p
    · rw [e, upd_same]; omega
    · rw [upd_other _ _ _ e]; exact Nat.le_refl _
/-- The way's last one goes; nothing is closed. -/
def St.pop (s : St) (v : Nat) (r : List (Nat × Nat)) : St := ⟨s.count, s.idx, downL s.low v r, s.stk, s.part, r⟩
/-- The way's last one goes, and its part is closed: the stack is what was met ahead of it. -/
def St.close (s : St) (v m : Nat) (r : List (Nat × Nat)) : St := ⟨s.count, s.idx, downL s.low v r, s.stk.filter (fun u => decide (s.idx u < s.idx v)), fun u => if u ∈ s.stk ∧ s.idx v ≤ s.idx u then m else s.part u, r⟩

section
variable {adj : Nat → List Nat} {n : Nat} {s : St}
theorem top_way (h : Inv adj n s) {v k : Nat} {r : List (Nat × Nat)} (hw : s.way = (v, k) :: r) : ∀ g ∈ s.ww, s.idx g ≤ s.idx v := by
  intro g hg
  have hwo := h.wo
  have e : s.ww = v :: r.map Prod.fst := by simp [St.ww, hw]
  rw [e] at hg hwo
  rcases List.mem_cons.1 hg with rfl | hg
  · exact Nat.le_refl _
  · exact Nat.le_of_lt ((List.pairwise_cons.1 hwo).1 g hg)
/-- The nearest node of the way below one that lies above its last one is that one. -/
theorem near_top (h : Inv adj n s) {v k : Nat} {r : List (Nat × Nat)} (hw : s.way = (v, k) :: r) {u : Nat} (hu : u ∈ s.stk) (hvu : s.idx v ≤ s.idx u) : Rch adj v u ∧ (v ≠ u → s.low v ≤ s.low u) := by
  have hvw : v ∈ s.ww := by simp [St.ww, hw]
  obtain ⟨x, hx, h1, h2, h3, h4⟩ := h.nr u hu
  have e : x = v := h.inj x v (h.sm x (h.ws x hx)) (Nat.le_antisymm (top_way h hw x hx) (h2 v hvw hvu))
  subst e
  exact ⟨h3, h4⟩
theorem low_ge (h : Inv adj n s) {v k : Nat} {r : List (Nat × Nat)} (hw : s.way = (v, k) :: r) (hlv : s.low v = s.idx v) {u : Nat} (hu : u ∈ s.stk) (hvu : s.idx v ≤ s.idx u) : s.idx v ≤ s.low u := by
  by_cases e : v = u
  · rw [← e, hlv]; exact Nat.le_refl _
  · rw [← hlv]; exact (near_top h hw hu hvu).2 e
/-- Whoever lies above the first node of a part comes to it. -/
theorem back_to (h : Inv adj n s) {v k : Nat} {r : List (Nat × Nat)} (hw : s.way = (v, k) :: r) (hlv : s.low v = s.idx v) : ∀ (i : Nat) (u : Nat), s.idx u ≤ i → u ∈ s.stk → s.idx v ≤ s.idx u → Rch adj u v
  | 0, u, hi, hu, _ => by
    have := h.sm u hu
    omega
  | i + 1, u, hi, hu, hvu => by
    by_cases e : u = v
    · rw [e]; exact .refl v
    · have hn : u ∉ s.ww := fun hm => e (h.inj u v (h.sm u hu) (Nat.le_antisymm (top_way h hw u hm) hvu))
      have hd := h.dl u hu hn
      obtain ⟨w, h1, h2, h3⟩ := h.lat u hu
      have hg := low_ge h hw hlv hu hvu
      exact h3.trans (back_to h hw hlv i w (by omega) h1 (by omega))
/-- What the part's nodes read is met, and lies in the part or was closed. -/
theorem part_edges (h : Inv adj n s) {v k : Nat} {r : List (Nat × Nat)} (hw : s.way = (v, k) :: r) (hk : (adj v).length ≤ k) (hlv : s.low v = s.idx v) {u : Nat} (hu : u ∈ s.stk) (hvu : s.idx v ≤ s.idx u) : ∀ t ∈ adj u, 0 < s.idx t ∧ (t ∈ s.stk → s.idx v ≤ s.idx t) := by
  intro t ht
  have hg := low_ge h hw hlv hu hvu
  by_cases e : u = v
  · subst e
    obtain ⟨h1, h2⟩ := h.ew (u, k) (by rw [hw]; exact List.mem_cons_self) t (by rw [List.take_of_length_le hk]; exact ht)
    exact ⟨h1, fun hm => by have := h2 hm; simp only at this; omega⟩
  · have hn : u ∉ s.ww := fun hm => e (h.inj u v (h.sm u hu) (Nat.le_antisymm (top_way h hw u hm) hvu))
    obtain ⟨h1, h2⟩ := h.ed u hu hn t ht
    exact ⟨h1, fun hm => by have := h2 hm; omega⟩
/-- What is closed comes to what is closed alone. -/
theorem closed_reach (h : Inv adj n s) {x y : Nat} (hr : Rch adj x y) : 0 < s.idx x → x ∉ s.stk → y ∉ s.stk := by
  induction hr with
  | refl => exact fun _ h2 => h2
  | step he _ ih =>
    intro h1 h2
    obtain ⟨h3, h4⟩ := h.cl _ h1 h2 _ he
    exact ih h3 h4
theorem part_reach (h : Inv adj n s) {v k : Nat} {r : List (Nat × Nat)} (hw : s.way = (v, k) :: r) (hk : (adj v).length ≤ k) (hlv : s.low v = s.idx v) {x y : Nat} (hr : Rch adj x y) : 0 < s.idx x → (x ∈ s.stk → s.idx v ≤ s.idx x) → 0 < s.idx y ∧ (y ∈ s.stk → s.idx v ≤ s.idx y) := by
  induction hr with
  | refl => exact fun h1 h2 => ⟨h1, h2⟩
  | @step u t w he _ ih =>
    intro h1 h2
    by_cases hs : u ∈ s.stk
    · obtain ⟨h3, h4⟩ := part_edges h hw hk hlv hs (h2 hs) t he
      exact ih h3 h4
    · obtain ⟨h3, h4⟩ := h.cl u h1 hs t he
      exact ih h3 (fun e => absurd e h4)
/-- The nodes above the first one are its part. -/
theorem part_is (h : Inv adj n s) {v k : Nat} {r : List (Nat × Nat)} (hw : s.way = (v, k) :: r) (hk : (adj v).length ≤ k) (hlv : s.low v = s.idx v) {m : Nat} (hm : m ∈ s.stk ∧ s.idx v ≤ s.idx m) (hmin : ∀ u ∈ s.stk, s.idx v ≤ s.idx u → m ≤ u) {u : Nat} (hu : u ∈ s.stk) (hvu : s.idx v ≤ s.idx u) : Least adj u m := by
  have b := fun x hx hv => back_to h hw hlv (s.idx x) x (Nat.le_refl _) hx hv
  refine ⟨(b u hu hvu).trans (near_top h hw hm.1 hm.2).1, (b m hm.1 hm.2).trans (near_top h hw hu hvu).1, fun x h1 h2 => ?_⟩
  obtain ⟨h3, h4⟩ := part_reach h hw hk hlv h1 (h.sm u hu) (fun _ => hvu)
  by_cases hs : x ∈ s.stk
  · exact hmin x hs (h4 hs)
  · exact absurd hu (closed_reach h h2 h3 hs)

theorem close_inv (h : Inv adj n s) {v k : Nat} {r : List (Nat × Nat)} (hw : s.way = (v, k) :: r) (hk : (adj v).length ≤ k) (hlv : s.low v = s.idx v) {m : Nat} (hm : m ∈ s.stk ∧ s.idx v ≤ s.idx m) (hmin : ∀ u ∈ s.stk, s.idx v ≤ s.idx u → m ≤ u) : Inv adj n (s.close v m r) := by
  have hvw : v ∈ s.ww := by simp [St.ww, hw]
  have hws : s.ww = v :: r.map Prod.fst := by simp [St.ww, hw]
  have hwo := h.wo
  rw [hws] at hwo
  have hrlt : ∀ g ∈ r.map Prod.fst, s.idx g < s.idx v := (List.pairwise_cons.1 hwo).1
  have hrw : ∀ g ∈ r.map Prod.fst, g ∈ s.ww := fun g hg => by rw [hws]; exact List.mem_cons_of_mem _ hg
  have mst : ∀ {u}, u ∈ (s.close v m r).stk ↔ u ∈ s.stk ∧ s.idx u < s.idx v := fun {u} => by
    show u ∈ s.stk.filter (fun u => decide (s.idx u < s.idx v)) ↔ _
    rw [List.mem_filter, decide_eq_true_iff]
  -- the marks stay
  have hlow : ∀ x ∈ s.stk, s.idx x < s.idx v → downL s.low v r x = s.low x := by
    intro x hx hxv
    cases r with
    | nil => rfl
    | cons b r' =>
      obtain ⟨p, q⟩ := b
      show upd s.low p (min (s.low p) (s.low v)) x = s.low x
      by_cases e : x = p
      · rw [e, upd_same]
        have := h.lle x hx
        rw [e] at this hxv
        omega
      · exact upd_other _ _ _ e
  have nww : ∀ u, s.idx u < s.idx v → u ∉ r.map Prod.fst → u ∉ s.ww := fun u hu hn hm => by
    rw [hws] at hm
    rcases List.mem_cons.1 hm with rfl | hm
    · omega
    · exact hn hm
  refine ⟨h.cnt, h.inj, h.lt, h.so.filter _, fun u hu => h.sm u (mst.1 hu).1, (List.pairwise_cons.1 hwo).2, fun g hg => mst.2 ⟨h.ws g (hrw g hg), hrlt g hg⟩, ?_, fun u hu => ?_, fun u hu => ?_, fun u hu hn x hx => ?_, fun f hf x hx => ?_, fun u hu hn x hx => ?_, fun u hu hn => ?_, fun u hu => ?_, fun u hu hn => ?_⟩
  · have := h.we
    rw [hw] at this
    exact this.tail
  · obtain ⟨h1, h2⟩ := mst.1 hu
    show downL s.low v r u ≤ s.idx u
    rw [hlow u h1 h2]
    exact h.lle u h1
  · obtain ⟨h1, h2⟩ := mst.1 hu
    obtain ⟨w, h3, h4, h5⟩ := h.lat u h1
    have := h.lle u h1
    exact ⟨w, mst.2 ⟨h3, by omega⟩, by show s.idx w = downL s.low v r u; rw [hlow u h1 h2]; exact h4, h5⟩
  · obtain ⟨h1, h2⟩ := mst.1 hu
    obtain ⟨h3, h4⟩ := h.ed u h1 (nww u h2 hn) x hx
    exact ⟨h3, fun hm => by show downL s.low v r u ≤ s.idx x; rw [hlow u h1 h2]; exact h4 (mst.1 hm).1⟩
  · have hfr : f.1 ∈ r.map Prod.fst := List.mem_map_of_mem hf
    obtain ⟨h3, h4⟩ := h.ew f (by rw [hw]; exact List.mem_cons_of_mem _ hf) x hx
    exact ⟨h3, fun hm => by show downL s.low v r f.1 ≤ s.idx x; rw [hlow f.1 (h.ws _ (hrw _ hfr)) (hrlt _ hfr)]; exact h4 (mst.1 hm).1⟩
  · by_cases hs : u ∈ s.stk
    · have hvu : s.idx v ≤ s.idx u := by
        by_cases q : s.idx u < s.idx v
        · exact absurd (mst.2 ⟨hs, q⟩) hn
        · omega
      obtain ⟨h1, h2⟩ := part_edges h hw hk hlv hs hvu x hx
      refine ⟨h1, fun hm => ?_⟩
      obtain ⟨h3, h4⟩ := mst.1 hm
      have := h2 h3
      omega
    · obtain ⟨h1, h2⟩ := h.cl u hu hs x hx
      exact ⟨h1, fun hm => h2 (mst.1 hm).1⟩
  · obtain ⟨h1, h2⟩ := mst.1 hu
    show downL s.low v r u < s.idx u
    rw [hlow u h1 h2]
    exact h.dl u h1 (nww u h2 hn)
  · obtain ⟨h1, h2⟩ := mst.1 hu
    obtain ⟨x, hx, h3, h4, h5, h6⟩ := h.nr u h1
    have hxv : s.idx x < s.idx v := by omega
    have hxr : x ∈ r.map Prod.fst := by
      rw [hws] at hx
      rcases List.mem_cons.1 hx with rfl | hx
      · omega
      · exact hx
    refine ⟨x, hxr, h3, fun g hg hgu => h4 g (hrw g hg) hgu, h5, fun e => ?_⟩
    show downL s.low v r x ≤ downL s.low v r u
    rw [hlow x (h.ws x hx) hxv, hlow u h1 h2]
    exact h6 e
  · show Least adj u (if u ∈ s.stk ∧ s.idx v ≤ s.idx u then m else s.part u)
    by_cases hs : u ∈ s.stk
    · have hvu : s.idx v ≤ s.idx u := by
        by_cases q : s.idx u < s.idx v
        · exact absurd (mst.2 ⟨hs, q⟩) hn
        · omega
      rw [if_pos ⟨hs, hvu⟩]
      exact part_is h hw hk hlv hm hmin hs hvu
    · rw [if_neg (fun e => hs e.1)]
      exact h.pt u hu hs

theorem pop_inv (h : Inv adj n s) {v k : Nat} {r : List (Nat × Nat)} (hw : s.way = (v, k) :: r) (hk : (adj v).length ≤ k) (hlv : s.low v ≠ s.idx v) : Inv adj n (s.pop v r) := by
  have hvw : v ∈ s.ww := by simp [St.ww, hw]
  have hvs := h.ws v hvw
  have hll : s.low v < s.idx v := Nat.lt_of_le_of_ne (h.lle v hvs) hlv
  have hws : s.ww = v :: r.map Prod.fst := by simp [St.ww, hw]
  have hwo := h.wo
  rw [hws] at hwo
  have hrlt : ∀ g ∈ r.map Prod.fst, s.idx g < s.idx v := (List.pairwise_cons.1 hwo).1
  have hrw : ∀ g ∈ r.map Prod.fst, g ∈ s.ww := fun g hg => by rw [hws]; exact List.mem_cons_of_mem _ hg
  -- there is one below
  obtain ⟨p, q, r', hr⟩ : ∃ p q r', r = (p, q) :: r' := by
    cases r with
    | cons b r' => exact ⟨b.1, b.2, r', rfl⟩
    | nil =>
      obtain ⟨w, h1, h2, _⟩ := h.lat v hvs
      obtain ⟨x, hx, h3, _⟩ := h.nr w h1
      rw [hws] at hx
      simp at hx
      subst hx
      omega
  have hpr : p ∈ r.map Prod.fst := by rw [hr]; simp
  have hps := h.ws p (hrw p hpr)
  have hpv := hrlt p hpr
  have hpe : v ∈ adj p := by
    have := h.we
    rw [hw, hr] at this
    exact this.1
  have hpt : ∀ g ∈ r.map Prod.fst, s.idx g ≤ s.idx p := by
    intro g hg
    have h2 := (List.pairwise_cons.1 hwo).2
    rw [hr] at h2 hg
    simp only [List.map_cons] at h2 hg
    rcases List.mem_cons.1 hg with rfl | hg
    · exact Nat.le_refl _
    · exact Nat.le_of_lt ((List.pairwise_cons.1 h2).1 g hg)
  have hlo : ∀ x, x ≠ p → downL s.low v r x = s.low x := fun x hx => by
    rw [hr]
    exact upd_other _ _ _ hx
  have hlp : downL s.low v r p = min (s.low p) (s.low v) := by
    rw [hr]
    exact upd_same _ _ _
  have hle := downL_le s.low v r
  refine ⟨h.cnt, h.inj, h.lt, h.so, h.sm, (List.pairwise_cons.1 hwo).2, fun g hg => h.ws g (hrw g hg), ?_, fun u hu => Nat.le_trans (hle u) (h.lle u hu), fun u hu => ?_, fun u hu hn x hx => ?_, fun f hf x hx => ?_, h.cl, fun u hu hn => ?_, fun u hu => ?_, h.pt⟩
  · have := h.we
    rw [hw] at this
    exact this.tail
  · show ∃ w ∈ s.stk, s.idx w = downL s.low v r u ∧ Rch adj u w
    by_cases e : u = p
    · subst e
      rw [hlp]
      by_cases hc : s.low u ≤ s.low v
      · obtain ⟨w, h1, h2, h3⟩ := h.lat u hu
        exact ⟨w, h1, by omega, h3⟩
      · obtain ⟨w, h1, h2, h3⟩ := h.lat v hvs
        exact ⟨w, h1, by omega, .step hpe h3⟩
    · rw [hlo u e]
      exact h.lat u hu
  · show 0 < s.idx x ∧ (x ∈ s.stk → downL s.low v r u ≤ s.idx x)
    by_cases e : u = v
    · subst e
      obtain ⟨h1, h2⟩ := h.ew (u, k) (by rw [hw]; exact List.mem_cons_self) x (by rw [List.take_of_length_le hk]; exact hx)
      exact ⟨h1, fun hm => Nat.le_trans (hle u) (h2 hm)⟩
    · have hn' : u ∉ s.ww := fun hm => by
        rw [hws] at hm
        rcases List.mem_cons.1 hm with q | q
        · exact e q
        · exact hn q
      obtain ⟨h1, h2⟩ := h.ed u hu hn' x hx
      exact ⟨h1, fun hm => Nat.le_trans (hle u) (h2 hm)⟩
  · obtain ⟨h1, h2⟩ := h.ew f (by rw [hw]; exact List.mem_cons_of_mem _ hf) x hx
    exact ⟨h1, fun hm => Nat.le_trans (hle _) (h2 hm)⟩
  · show downL s.low v r u < s.idx u
    by_cases e : u = v
    · subst e
      exact Nat.lt_of_le_of_lt (hle u) hll
    · have hn' : u ∉ s.ww := fun hm => by
        rw [hws] at hm
        rcases List.mem_cons.1 hm with q | q
        · exact e q
        · exact hn q
      exact Nat.lt_of_le_of_lt (hle u) (h.dl u hu hn')
  · show ∃ x ∈ r.map Prod.fst, s.idx x ≤ s.idx u ∧ (∀ g ∈ r.map Prod.fst, s.idx g ≤ s.idx u → s.idx g ≤ s.idx x) ∧ Rch adj x u ∧ (x ≠ u → downL s.low v r x ≤ downL s.low v r u)
    by_cases hvu : s.idx v ≤ s.idx u
    · obtain ⟨h1, h2⟩ := near_top h hw hu hvu
      refine ⟨p, hpr, by omega, fun g hg _ => hpt g hg, .step hpe h1, fun _ => ?_⟩
      have hup : u ≠ p := by rintro rfl; omega
      rw [hlo u hup, hlp]
      by_cases e : v = u
      · subst e; omega
      · have := h2 e
        omega
    · obtain ⟨x, hx, h3, h4, h5, h6⟩ := h.nr u hu
      have hxr : x ∈ r.map Prod.fst := by
        rw [hws] at hx
        rcases List.mem_cons.1 hx with rfl | hx
        · omega
        · exact hx
      refine ⟨x, hxr, h3, fun g hg hgu => h4 g (hrw g hg) hgu, h5, fun e => ?_⟩
      by_cases eup : u = p
      · subst eup
        have h7 := h4 u (hrw u hpr) (Nat.le_refl _)
        exact absurd (h.inj x u (h.sm x (h.ws x (hrw x hxr))) (Nat.le_antisymm h3 h7)) e
      · rw [hlo u eup]
        exact Nat.le_trans (hle x) (h6 e)
/-- At the end of a way nothing lies on the stack. -/
theorem end_stk (h : Inv adj n s) (hw : s.way = []) : s.stk = [] := by
  cases hs : s.stk with
  | nil => rfl
  | cons u r =>
    obtain ⟨x, hx, _⟩ := h.nr u (by rw [hs]; exact List.mem_cons_self)
    simp [St.ww, hw] at hx
end
/-- Ahead of all ways. -/
theorem start_inv (adj : Nat → List Nat) (n : Nat) : Inv adj n ⟨0, fun _ => 0, fun _ => 0, [], fun _ => 0, []⟩ := by
  constructor <;> simp [St.ww, Tree]
end Go.Tarjan
