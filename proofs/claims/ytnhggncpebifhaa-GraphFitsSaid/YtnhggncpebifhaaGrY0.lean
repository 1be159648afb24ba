/- Rows of the call's own, each a block of its own. -/
import Derived.Test.YtnhggncpebifhaaGrU
set_option maxRecDepth 100000
namespace Go.Lat
open Go.RowKit
structure RwsAt (base : Nat) (w : World) (te ti : TypeId) (v : Value) (n : Nat) (f : Nat → Value) (L : Nat → List Value) : Prop where
  spine : Rw w te 1 v n (fRow n f)
  row : ∀ i, i < n → Rw w ti 1 (f i) (L i).length (L i)
  apart : ∀ i j k, i < n → j < n → (f i).ownBlock = some k → (f j).ownBlock = some k → i = j
  off : ∀ i k, i < n → (f i).ownBlock = some k → v.ownBlock ≠ some k
  base : ∀ k, rowsOwn v n f k → base ≤ k
variable {base : Nat} {w w' : World} {te ti : TypeId} {v : Value} {n : Nat} {f : Nat → Value} {L : Nat → List Value}
theorem RwsAt.lt (h : RwsAt base w te ti v n f L) {k : Nat} (hk : rowsOwn v n f k) : k < w.heap.size := by
  rcases hk with hk | ⟨i, hi, hk⟩
  · exact h.spine.lt k hk
  · exact (h.row i hi).lt k hk
theorem RwsAt.upd (h : RwsAt base w te ti v n f L) {S : Nat → Prop} (u : Upd w w' S) (hd : ∀ k, rowsOwn v n f k → ¬ S k) : RwsAt base w' te ti v n f L :=
  ⟨u.rw h.spine (fun k hk => hd k (.inl hk)), fun i hi => u.rw (h.row i hi) (fun k hk => hd k (.inr ⟨i, hi, hk⟩)), h.apart, h.off, h.base⟩
theorem RwsAt.quiet (h : RwsAt base w te ti v n f L) (u : Upd w w' (fun _ => False)) : RwsAt base w' te ti v n f L := h.upd u (fun _ _ => id)
theorem RwsAt.congr (h : RwsAt base w te ti v n f L) {L2 : Nat → List Value} (e : ∀ i, i < n → L i = L2 i) : RwsAt base w te ti v n f L2 :=
  ⟨h.spine, fun i hi => by rw [← e i hi]; exact h.row i hi, h.apart, h.off, h.base⟩
/-- The row i is written in place. -/
theorem RwsAt.inrow (h : RwsAt base w te ti v n f L) {i : Nat} (hi : i < n) (u : Upd w w' (fun k => (f i).ownBlock = some k)) {M : List Value} (hx : Rw w' ti 1 (f i) M.length M) : RwsAt base w' te ti v n f (updF L i M) := by
  refine ⟨u.rw h.spine (fun k hk e => h.off i k hi e hk), fun j hj => ?_, h.apart, h.off, h.base⟩
  by_cases e : j = i
  · subst e
    rw [updF_same]
    exact hx
  · rw [updF_other _ _ _ e]
    exact u.rw (h.row j hj) (fun k hk e2 => e (h.apart j i k hj hi hk e2))
/-- What was made of the row i is laid at its place. -/
theorem RwsAt.turn {g off cap : Nat} (h : RwsAt base w te ti (.slice (some ⟨g, off, none⟩) n cap) n f L) {i : Nat} (hi : i < n) (u : Upd w w' (fun k => (f i).ownBlock = some k))
    {x : Value} {M : List Value} (hx : Rw w' ti 1 x M.length M) (ho : ∀ k, x.ownBlock = some k → (f i).ownBlock = some k ∨ w.heap.size ≤ k) (hb : base ≤ w.heap.size) :
    RwsAt base (w'.setCell ⟨g, off + i, none⟩ x) te ti (.slice (some ⟨g, off, none⟩) n cap) n (updF f i x) (updF L i M) := by
  have gne : ∀ j k, j < n → (f j).ownBlock = some k → k ≠ g := fun j k hj hk e => h.off j k hj hk (by rw [e]; rfl)
  have glt := h.spine.lt g rfl
  have xg : ∀ k, x.ownBlock = some k → k ≠ g := fun k hk e => by
    rcases ho k hk with q | q
    · exact gne i k hi q e
    · omega
  refine ⟨?_, fun j hj => ?_, fun a b k ha hb hka hkb => ?_, fun j k hj hk => ?_, fun k hk => ?_⟩
  · exact Rw.set1 (u.rw h.spine (fun k hk e => gne i k hi e (by simpa [Value.ownBlock] using hk.symm))) i hi x
  · by_cases e : j = i
    · subst e
      rw [updF_same, updF_same]
      exact hx.setCell _ _ (fun q => xg _ q rfl)
    · rw [updF_other _ _ _ e, updF_other _ _ _ e]
      exact (u.rw (h.row j hj) (fun k hk e2 => e (h.apart j i k hj hi hk e2))).setCell _ _ (fun q => gne j _ hj q rfl)
  · by_cases ea : a = i <;> by_cases eb : b = i
    · rw [ea, eb]
    · subst ea
      rw [updF_same] at hka
      rw [updF_other _ _ _ eb] at hkb
      rcases ho k hka with q | q
      · exact h.apart _ _ k ha hb q hkb
      · have := (h.row b hb).lt k hkb; omega
    · subst eb
      rw [updF_same] at hkb
      rw [updF_other _ _ _ ea] at hka
      rcases ho k hkb with q | q
      · exact h.apart _ _ k ha hb hka q
      · have := (h.row a ha).lt k hka; omega
    · rw [updF_other _ _ _ ea] at hka
      rw [updF_other _ _ _ eb] at hkb
      exact h.apart a b k ha hb hka hkb
  · by_cases e : j = i
    · subst e
      rw [updF_same] at hk
      intro q
      exact xg k hk (by simpa [Value.ownBlock] using q.symm)
    · rw [updF_other _ _ _ e] at hk
      exact h.off j k hj hk
  · rcases rowsOwn_turn hi ho hk with q | q
    · exact h.base k q
    · omega
theorem fRow_upd_snoc {α : Type} (m : Nat) (f : Nat → α) (x : α) : fRow (m + 1) (updF f m x) = fRow m f ++ [x] := by
  rw [← fRow_snoc, updF_same, fRow_congr (g := f) (fun i hi => updF_other _ _ _ (by omega))]
/-- A row is appended. -/
theorem RwsAt.snoc {m : Nat} (h : RwsAt base w te ti v m f L) {v' x : Value} {M : List Value} {N : Nat} (hx : Rw w ti 1 x M.length M) (xo : ∀ k, x.ownBlock = some k → base ≤ k ∧ ¬ rowsOwn v m f k) (hv : Rw w' te 1 v' (m + 1) (fRow m f ++ [x])) (u : Upd w w' (fun k => v.ownBlock = some k)) (hN : w.heap.size ≤ N) (hb : base ≤ w.heap.size) (ho : v'.ownBlock = v.ownBlock ∨ v'.ownBlock = some N) : RwsAt base w' te ti v' (m + 1) (updF f m x) (updF L m M) := by
  have hne : ∀ i k, i < m + 1 → (updF f m x i).ownBlock = some k → (i = m ∧ x.ownBlock = some k) ∨ (i < m ∧ (f i).ownBlock = some k) := fun i k hi hk => by
    by_cases e : i = m
    · subst e; rw [updF_same] at hk; exact .inl ⟨rfl, hk⟩
    · rw [updF_other _ _ _ e] at hk; exact .inr ⟨by omega, hk⟩
  have hlt : ∀ i k, i < m + 1 → (updF f m x i).ownBlock = some k → k < w.heap.size := fun i k hi hk => by
    rcases hne i k hi hk with ⟨_, q⟩ | ⟨q1, q⟩
    · exact hx.lt k q
    · exact (h.row i q1).lt k q
  refine ⟨by rw [fRow_upd_snoc]; exact hv, fun i hi => ?_, fun a b k ha hb hka hkb => ?_, fun i k hi hk q => ?_, fun k hk => ?_⟩
  · by_cases e : i = m
    · subst e
      rw [updF_same, updF_same]
      exact u.rw hx (fun k hk e => (xo k hk).2 (.inl e))
    · rw [updF_other _ _ _ e, updF_other _ _ _ e]
      exact u.rw (h.row i (by omega)) (fun k hk e2 => h.off i k (by omega) hk e2)
  · rcases hne a k ha hka with ⟨e1, q1⟩ | ⟨e1, q1⟩ <;> rcases hne b k hb hkb with ⟨e2, q2⟩ | ⟨e2, q2⟩
    · rw [e1, e2]
    · exact ((xo k q1).2 (.inr ⟨b, e2, q2⟩)).elim
    · exact ((xo k q2).2 (.inr ⟨a, e1, q1⟩)).elim
    · exact h.apart a b k e1 e2 q1 q2
  · rcases ho with e | e
    · rw [e] at q
      rcases hne i k hi hk with ⟨_, q1⟩ | ⟨e1, q1⟩
      · exact (xo k q1).2 (.inl q)
      · exact h.off i k e1 q1 q
    · have := hlt i k hi hk
      rw [e] at q
      have := Option.some.inj q
      omega
  · rcases hk with q | ⟨i, hi, q⟩
    · rcases ho with e | e
      · exact h.base k (.inl (e.symm.trans q))
      · rw [e] at q
        have := Option.some.inj q
        omega
    · rcases hne i k hi q with ⟨_, q1⟩ | ⟨e1, q1⟩
      · exact (xo k q1).1
      · exact h.base k (.inr ⟨i, e1, q1⟩)
theorem RwsAt.nil (base : Nat) (w : World) (te ti : TypeId) (f : Nat → Value) (L : Nat → List Value) : RwsAt base w te ti (.slice none 0 0) 0 f L :=
  ⟨Rw.nil _ _ _, fun i hi => by omega, fun i j k hi => by omega, fun i k hi => by omega, fun k hk => by
    rcases hk with q | ⟨i, hi, _⟩
    · simp [Value.ownBlock] at q
    · omega⟩
theorem RwsAt.made (w : World) (te ti n : Nat) (hb : base ≤ w.heap.size) : RwsAt base (w.alloc (.cells (madeCells #[.slice none 0 0] n) te)) te ti (.slice (some ⟨w.heap.size, 0, none⟩) n n) n (fun _ => .slice none 0 0) (fun _ => []) :=
  ⟨Rw.made1 w te n _, fun _ _ => Rw.nil _ _ _, fun _ _ _ _ _ h => by simp [Value.ownBlock] at h, fun _ _ _ h => by simp [Value.ownBlock] at h, fun k hk => by have := rowsOwn_made hk; omega⟩
end Go.Lat
