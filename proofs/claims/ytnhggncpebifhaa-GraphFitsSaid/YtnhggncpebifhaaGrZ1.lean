/- The memory of Order. -/
import Derived.Test.YtnhggncpebifhaaGrX
import Derived.Test.YtnhggncpebifhaaGrY
import Derived.Test.YtnhggncpebifhaaGrZ0
set_option maxRecDepth 100000
namespace Go.Proofs.Ytnhggncpebifhaa
open Go.RowKit Go.Lat Go.Tarjan Go.Heapl

structure OrSt (B W : World) (n lb b : Nat) (lf : Nat → Nat) (ha : Option Addr) (hc : Nat) (hl : List Nat) (oa : Option Addr) (oc : Nat) (out : List Nat) : Prop where
  lr : Rw W 3 1 (.slice (some ⟨lb, 0, none⟩) n n) n (fRow n (numR lf))
  hp : HpAt B.heap.size W b ha hc hl
  na : NatAt B.heap.size W oa oc out
  nl : ∀ k, HpAt.own b ha k → k ≠ lb
  ol : ∀ k, (Value.slice oa 0 0).ownBlock = some k → k ≠ lb ∧ ¬ HpAt.own b ha k
  bl : B.heap.size ≤ lb
  up : Upd B W (fun _ => False)
section
variable {B W W' : World} {n lb b : Nat} {lf : Nat → Nat} {ha : Option Addr} {hc : Nat} {hl : List Nat} {oa : Option Addr} {oc : Nat} {out : List Nat}
theorem OrSt.hb (h : OrSt B W n lb b lf ha hc hl oa oc out) {k : Nat} (q : HpAt.own b ha k) : B.heap.size ≤ k := by
  rcases q with q | q
  · rw [q]; exact h.hp.bb
  · exact h.hp.n.o k q
theorem HpAt.lt {base : Nat} {w : World} {b : Nat} {a : Option Addr} {c : Nat} {l : List Nat} (h : HpAt base w b a c l) {k : Nat} (q : HpAt.own b a k) : k < w.heap.size := by
  rcases q with q | q
  · rw [q]; exact lt_at h.h
  · exact h.n.r.lt k ((own_slice a _ _ _ _).trans q)
theorem OrSt.quiet (h : OrSt B W n lb b lf ha hc hl oa oc out) (u : Upd W W' (fun _ => False)) : OrSt B W' n lb b lf ha hc hl oa oc out :=
  ⟨u.rw h.lr (fun _ _ => id), h.hp.quiet u, h.na.upd u (fun _ _ => id), h.nl, h.ol, h.bl, h.up.then u (fun _ _ q => q.elim)⟩
theorem OrSt.heap (h : OrSt B W n lb b lf ha hc hl oa oc out) {ha' : Option Addr} {hc' : Nat} {hl' : List Nat} (hp : HpAt B.heap.size W' b ha' hc' hl') (ho : ∀ k, HpAt.own b ha' k → HpAt.own b ha k ∨ W.heap.size ≤ k) (u : Upd W W' (fun k => HpAt.own b ha k)) : OrSt B W' n lb b lf ha' hc' hl' oa oc out := by
  refine ⟨u.rw h.lr (fun k q q2 => h.nl k q2 (Option.some.inj q).symm), hp, h.na.upd u (fun k q => (h.ol k q).2), fun k q => ?_, fun k q => ⟨(h.ol k q).1, fun q2 => ?_⟩, h.bl, h.up.then u (fun k hk q => by have := h.hb q; omega)⟩
  · rcases ho k q with z | z
    · exact h.nl k z
    · have := h.lr.lt lb rfl
      omega
  · rcases ho k q2 with z | z
    · exact (h.ol k q).2 z
    · have := h.na.r.lt k ((own_slice oa _ _ _ _).trans q)
      omega
theorem OrSt.setL (h : OrSt B W n lb b lf ha hc hl oa oc out) {t : Nat} (ht : t < n) (v : Nat) : OrSt B (W.setCell ⟨lb, t, none⟩ (.int .i64 (v : Int))) n lb b (Tarjan.upd lf t v) ha hc hl oa oc out := by
  have q := Rw.set1 h.lr t ht (.int .i64 (v : Int))
  rw [numR_upd, Nat.zero_add] at q
  have u : Upd W (W.setCell ⟨lb, t, none⟩ (.int .i64 (v : Int))) (fun k => k = lb) := (Upd.refl W _).setCell _ _ (.inr rfl)
  exact ⟨q, h.hp.upd u (fun k z => h.nl k z), h.na.upd u (fun k z => (h.ol k z).1), h.nl, h.ol, h.bl, h.up.then u (fun k hk q => by have := h.bl; omega)⟩
theorem OrSt.congr (h : OrSt B W n lb b lf ha hc hl oa oc out) {lf2 : Nat → Nat} (e : ∀ i, i < n → lf i = lf2 i) : OrSt B W n lb b lf2 ha hc hl oa oc out :=
  ⟨by rw [← fRow_congr (f := numR lf) (g := numR lf2) (fun i hi => by simp [numR, e i hi])]; exact h.lr, h.hp, h.na, h.nl, h.ol, h.bl, h.up⟩
theorem OrSt.put (h : OrSt B W n lb b lf ha hc hl oa oc out) {w4 : World} {ga : Option Addr} {gc x k : Nat} (hk : out.length = k) (o : Obj) (hv : Rw w4 3 1 (.slice ga (k + 1) gc) (k + 1) (natCells out ++ [Value.int .i64 (x : Int)])) (hg : (W.alloc o).grownBy w4 (Value.slice oa k oc).ownBlock) (hob : (Value.slice ga (k + 1) gc).ownBlock = (Value.slice oa k oc).ownBlock ∨ (Value.slice ga (k + 1) gc).ownBlock = some (W.alloc o).heap.size) : OrSt B w4 n lb b lf ha hc hl ga gc (out ++ [x]) := by
  have u : Upd W w4 (fun i => (Value.slice oa 0 0).ownBlock = some i) := ((Upd.refl W _).alloc o).grown hg (fun i e => .inr ((own_slice oa _ _ _ _).trans e))
  have hw0 : B.heap.size ≤ (W.alloc o).heap.size := by have := h.up.size; simp; omega
  have na2 := (h.na.upd ((Upd.refl W (fun _ => False)).alloc o) (fun _ _ => id)).snoc hk hw0 hv hob
  refine ⟨u.rw h.lr (fun i q q2 => (h.ol i q2).1 (Option.some.inj q).symm), h.hp.upd u (fun i q q2 => (h.ol i q2).2 q), na2, h.nl, fun i q => ?_, h.bl, h.up.then u (fun i hi q => by have := h.na.o i q; omega)⟩
  have q2 := (own_slice ga (k + 1) gc 0 0).trans q
  rcases hob with e | e
  · exact h.ol i ((own_slice oa 0 0 k oc).trans (e.symm.trans q2))
  · have e2 := Option.some.inj (e.symm.trans q2)
    simp at e2
    refine ⟨fun z => ?_, fun z => ?_⟩
    · have := h.lr.lt lb rfl
      omega
    · have := HpAt.lt h.hp z
      omega
end
def inJ (fr : List Int) (cy : Nat → Bool) (j k : Nat) : Bool := decide ((k : Int) ∈ fr.take j) && !cy k
theorem inJ_yes {fr : List Int} {cy : Nat → Bool} {j t : Nat} (h : fr[j]? = some (t : Int)) : updF (inJ fr cy j) t (!cy t) = inJ fr cy (j + 1) := by
  funext k
  unfold updF inJ
  rw [List.take_add_one, h]
  by_cases e : k = t
  · subst e; simp
  · rw [if_neg e]
    have : ((k : Int) ∈ fr.take j ++ [(t : Int)]) ↔ (k : Int) ∈ fr.take j := by
      simp only [List.mem_append, List.mem_singleton]
      constructor
      · rintro (q | q)
        · exact q
        · omega
      · exact .inl
    show (decide ((k : Int) ∈ fr.take j) && !cy k) = (decide ((k : Int) ∈ fr.take j ++ [(t : Int)]) && !cy k)
    simp only [this]
theorem inJ_no {fr : List Int} {cy : Nat → Bool} {j n k : Nat} {z : Int} (h : fr[j]? = some z) (hz : ¬ (0 ≤ z ∧ z < n)) (hk : k < n) : inJ fr cy (j + 1) k = inJ fr cy j k := by
  unfold inJ
  rw [List.take_add_one, h]
  have : ((k : Int) ∈ fr.take j ++ [z]) ↔ (k : Int) ∈ fr.take j := by
    simp only [List.mem_append, List.mem_singleton]
    constructor
    · rintro (q | q)
      · exact q
      · omega
    · exact .inl
  show (decide ((k : Int) ∈ fr.take j ++ [z]) && !cy k) = _
  simp only [this]
/-- Those that wait, counted up to a node and up to a place in its list. -/
def cntK (inn : Nat → Bool) (C : Nat → Nat → Bool) (k i : Nat) : Nat := rsum k (fun x => if waitP inn C i x = true then 1 else 0)
def cntJ (inn : Nat → Bool) (C : Nat → Nat → Bool) (k : Nat) (bl : List Nat) (j i : Nat) : Nat := cntK inn C k i + (if i ∈ bl.take j then 1 else 0)
theorem cntJ_step {inn : Nat → Bool} {C : Nat → Nat → Bool} {k j y : Nat} {bl : List Nat} (hy : bl[j]? = some y) (hn : y ∉ bl.take j) : Tarjan.upd (cntJ inn C k bl j) y (cntJ inn C k bl j y + 1) = cntJ inn C k bl (j + 1) := by
  funext i
  unfold cntJ
  by_cases e : i = y
  · subst e
    rw [upd_same, if_neg hn, if_pos ((takeN_mem hy i).2 (.inr rfl))]
  · rw [upd_other _ _ _ e]
    have : i ∈ bl.take (j + 1) ↔ i ∈ bl.take j := by
      rw [takeN_mem hy]
      exact ⟨fun q => q.resolve_right e, .inl⟩
    simp only [this]
theorem cntJ_end {inn : Nat → Bool} {C : Nat → Nat → Bool} {k i n : Nat} (hi : i < n) : cntJ inn C k (rowE n (behP inn C k)) (rowE n (behP inn C k)).length i = cntK inn C (k + 1) i := by
  unfold cntJ cntK
  rw [List.take_length, rsum_succ]
  have : i ∈ rowE n (behP inn C k) ↔ waitP inn C i k = true := by
    rw [rowE_mem]
    exact ⟨fun q => q.2, fun q => ⟨hi, q⟩⟩
  simp only [this]
theorem cntK_lef {inn : Nat → Bool} {C : Nat → Nat → Bool} {n i : Nat} : cntK inn C n i = lef n inn C [] i := by
  unfold cntK lef
  exact rsum_congr (fun u _ => by simp)
theorem cntK_le (inn : Nat → Bool) (C : Nat → Nat → Bool) (k i : Nat) : cntK inn C k i ≤ k := by
  have := rsum_le (n := k) (f := fun x => if waitP inn C i x = true then 1 else 0) (c := 1) (fun u => by split <;> omega)
  simpa [cntK] using this
/-- What is left while those that wait on x are gone through. -/
def lefJ (n : Nat) (inn : Nat → Bool) (C : Nat → Nat → Bool) (out : List Nat) (x : Nat) (bl : List Nat) (j i : Nat) : Nat := if i ∈ bl.take j then lef n inn C (out ++ [x]) i else lef n inn C out i
theorem lefJ_step {n : Nat} {inn : Nat → Bool} {C : Nat → Nat → Bool} {out : List Nat} {x y j : Nat} {bl : List Nat} (hy : bl[j]? = some y) : Tarjan.upd (lefJ n inn C out x bl j) y (lef n inn C (out ++ [x]) y) = lefJ n inn C out x bl (j + 1) := by
  funext i
  unfold lefJ
  by_cases e : i = y
  · subst e
    rw [upd_same, if_pos ((takeN_mem hy i).2 (.inr rfl))]
  · rw [upd_other _ _ _ e]
    have : i ∈ bl.take (j + 1) ↔ i ∈ bl.take j := by
      rw [takeN_mem hy]
      exact ⟨fun q => q.resolve_right e, .inl⟩
    simp only [this]
theorem lefJ_end {n : Nat} {inn : Nat → Bool} {C : Nat → Nat → Bool} {out : List Nat} {x i : Nat} (hx : x < n) (hxo : x ∉ out) (hi : i < n) : lefJ n inn C out x (rowE n (behP inn C x)) (rowE n (behP inn C x)).length i = lef n inn C (out ++ [x]) i := by
  unfold lefJ
  rw [List.take_length]
  split
  · rfl
  · rename_i h
    have : ¬ waitP inn C i x = true := fun q => h (rowE_mem.2 ⟨hi, q⟩)
    have e := lef_snoc (c := C) (inn := inn) (i := i) hx hxo
    rw [if_neg this] at e
    omega
end Go.Proofs.Ytnhggncpebifhaa
