/- The closure of spread, the edges that Reach and Dirty hand it. -/
import Derived.Test.YtnhggncpebifhaaGrQ
set_option maxRecDepth 100000
namespace Go.Proofs.Ytnhggncpebifhaa
open Go.RowKit Go.Lat Go.Tarjan

/-- A slice of numbers reads so. -/
def RdI (w : World) (va : Option Addr) (l : List Int) : Prop := ∀ i x, l[i]? = some x → ∃ g off, va = some ⟨g, off, none⟩ ∧ g < w.heap.size ∧ w.cell? ⟨g, off + i, none⟩ = some (.int .i64 x)
theorem RdI.upd {w w' : World} {va : Option Addr} {l : List Int} (h : RdI w va l) (u : Upd w w' (fun _ => False)) : RdI w' va l := fun i x hx => by
  obtain ⟨g, off, e, hg, hc⟩ := h i x hx
  exact ⟨g, off, e, Nat.lt_of_lt_of_le hg u.size, (u.cell g _ hg id).trans hc⟩
theorem RdI.of_rw {w : World} {va : Option Addr} {n vc : Nat} {l : List Int} (h : Rw w 3 1 (.slice va n vc) n (inCells l)) : RdI w va l := fun i x hx => by
  have hl : n = l.length := by have := h.1; simp [inCells] at this; omega
  subst hl
  exact int_at h i x hx (List.getElem?_eq_some_iff.1 hx).1
theorem RdI.nil (w : World) (va : Option Addr) : RdI w va [] := fun i x hx => by simp at hx
structure Sp where
  b3 : Nat
  b7 : Nat
  b8 : Nat
  mb : Nat
def Sp.bs (m : Sp) : List Nat := [m.b3, m.b7, m.b8, m.mb]
def Sp.own (m : Sp) (la : Option Addr) (k : Nat) : Prop := k = m.b8 ∨ k = m.mb ∨ (Value.slice la 0 0).ownBlock = some k
structure SpAt (w : World) (gb n : Nat) (m : Sp) (la : Option Addr) (lc : Nat) (met : Nat → Bool) (left : List Nat) : Prop where
  c3 : w.heap[m.b3]? = some (.cells #[.pointer (some ⟨gb, 0, none⟩)] 23 (0, 0))
  c7 : w.heap[m.b7]? = some (.cells #[.slice (some ⟨m.mb, 0, none⟩) n n] 51 (0, 0))
  c8 : w.heap[m.b8]? = some (.cells #[.slice la left.length lc] 29 (0, 0))
  r : Rw w 4 1 (.slice (some ⟨m.mb, 0, none⟩) n n) n (fRow n (boolR met))
  l : Rw w 3 1 (.slice la left.length lc) left.length (natCells left)
  ln : ∀ k, (Value.slice la 0 0).ownBlock = some k → k ∉ m.bs
  n37 : m.b3 ≠ m.b7
  n38 : m.b3 ≠ m.b8
  n3m : m.b3 ≠ m.mb
  n78 : m.b7 ≠ m.b8
  n7m : m.b7 ≠ m.mb
  n8m : m.b8 ≠ m.mb
theorem SpAt.upd {w w' : World} {gb n : Nat} {m : Sp} {la : Option Addr} {lc : Nat} {met : Nat → Bool} {left : List Nat} (h : SpAt w gb n m la lc met left) {S : Nat → Prop} (u : Upd w w' S) (hS : ∀ k, k ∈ m.bs ∨ (Value.slice la 0 0).ownBlock = some k → ¬ S k) : SpAt w' gb n m la lc met left :=
  ⟨u.get h.c3 (hS _ (.inl (by simp [Sp.bs]))), u.get h.c7 (hS _ (.inl (by simp [Sp.bs]))), u.get h.c8 (hS _ (.inl (by simp [Sp.bs]))), u.rw h.r (fun k q => hS k (.inl (by rw [← Option.some.inj q]; simp [Sp.bs]))), u.rw h.l (fun k q => hS k (.inr ((own_slice la _ _ _ _).trans q))), h.ln, h.n37, h.n38, h.n3m, h.n78, h.n7m, h.n8m⟩
/-- Is a number told of for the first time? -/
def newZ (n : Nat) (met : Nat → Bool) (z : Int) : Bool := inN n z && !met z.toNat
theorem see_no {w : World} {gb n : Nat} {mg : Gm} {E D : Nat → Nat → Bool} (hg : GrAt w gb n mg E D) {m : Sp} {la : Option Addr} {lc : Nat} {met : Nat → Bool} {left : List Nat} (h : SpAt w gb n m la lc met left) (z : Int) (hz : newZ n met z = false) :
    Calls Try.prog 46 #[.int .i64 z, .pointer (some ⟨m.b3, 0, none⟩), .pointer (some ⟨m.b7, 0, none⟩), .pointer (some ⟨m.b8, 0, none⟩)] w fun e w' => e = .returned (.tuple #[]) ∧ w' = w := by
  have HA := has_any hg z
  have d3 := cells1 h.c3
  have d7 := cells1 h.c7
  by_cases hin : 0 ≤ z ∧ z < n
  · obtain ⟨t, rfl⟩ : ∃ t : Nat, z = t := ⟨z.toNat, by omega⟩
    have ht : t < n := by omega
    have hm : met t = true := by
      unfold newZ inN at hz
      rw [decide_eq_true hin] at hz
      simpa using hz
    obtain ⟨bm, m1, -⟩ := bool_at h.r ht
    rw [hm] at m1
    rw [decide_eq_true hin] at HA
    have t0 : (0 : Int) ≤ (t : Int) := by omega
    have t1 : (t : Int) < (n : Int) := by omega
    clear h hg hz hm
    go_enter Try.func46, Try.ntmps46
    go_wp2_with (go_at_call 36; refine Calls.mono HA ?_; rintro e w1 ⟨rfl, hw⟩; obtain rfl := hw.symm; clear hw)
    go_end0
    exact ⟨rfl, rfl⟩
  · rw [decide_eq_false hin] at HA
    clear h hg hz
    go_enter Try.func46, Try.ntmps46
    go_wp2_with (go_at_call 36; refine Calls.mono HA ?_; rintro e w1 ⟨rfl, hw⟩; obtain rfl := hw.symm; clear hw)
    go_end0
    exact ⟨rfl, rfl⟩
set_option maxHeartbeats 1600000 in
theorem see_yes {w : World} {gb n : Nat} {mg : Gm} {E D : Nat → Nat → Bool} (hg : GrAt w gb n mg E D) {m : Sp} {la : Option Addr} {lc : Nat} {met : Nat → Bool} {left : List Nat} (h : SpAt w gb n m la lc met left) (t : Nat) (ht : t < n) (hm : met t = false) (hl : left.length ≤ 1000000) :
    Calls Try.prog 46 #[.int .i64 (t : Int), .pointer (some ⟨m.b3, 0, none⟩), .pointer (some ⟨m.b7, 0, none⟩), .pointer (some ⟨m.b8, 0, none⟩)] w fun e w' => ∃ la' lc', e = .returned (.tuple #[]) ∧ SpAt w' gb n m la' lc' (updF met t true) (left ++ [t]) ∧ (∀ k, m.own la' k → m.own la k ∨ w.heap.size ≤ k) ∧ Upd w w' (fun k => m.own la k) := by
  have HA := has_any hg (t : Int)
  rw [decide_eq_true (by omega : 0 ≤ (t : Int) ∧ (t : Int) < n)] at HA
  have d3 := cells1 h.c3
  have d7 := cells1 h.c7
  have d8 := cells1 h.c8
  have l3 := lt_at h.c3
  have l7 := lt_at h.c7
  have l8 := lt_at h.c8
  have z8 := free_at h.c8 0
  obtain ⟨bm, m1, m2⟩ := bool_at h.r ht
  rw [hm] at m1
  have t0 : (0 : Int) ≤ (t : Int) := by omega
  have t1 : (t : Int) < (n : Int) := by omega
  have n78 := h.n78
  have n7m := h.n7m
  have n8m := h.n8m
  have n3m := h.n3m
  obtain ⟨i0, hi, hz0, hz1, hz2⟩ := info_parts infoI
  obtain ⟨N, hN⟩ : ∃ N, left.length = N := ⟨_, rfl⟩
  have hr := h.r
  have hll := h.l
  rw [hN] at hll d8 hl
  have ln := h.ln
  have hla : ∀ k, (Value.slice la N lc).ownBlock = some k → k ∉ m.bs := fun k q => ln k ((own_slice la _ _ _ _).trans q)
  have hlm : (Value.slice la N lc).ownBlock ≠ some m.mb := fun q => hla _ q (by simp [Sp.bs])
  have l1 := hll.setCell ⟨m.mb, t, none⟩ (.bool true) hlm
  have hmd := Rw.made (w.setCell ⟨m.mb, t, none⟩ (.bool true)) #[.int .i64 (t : Int)] 3 1 1 rfl
  have hsz : (w.setCell ⟨m.mb, t, none⟩ (.bool true)).heap.size = w.heap.size := by simp [World.setCell]
  rw [hsz] at hmd
  have HMD := hide hmd
  have HSZ := hide hsz
  clear hmd hsz
  have HH := hide h
  have HLA := hide hla
  have HL1 := hide l1
  have HN := hide hN
  clear h hg hm hr hll ln hla hlm l1 hN
  go_enter Try.func46, Try.ntmps46
  go_wp2_with (first
    | (go_at_call 36; refine Calls.mono HA ?_; rintro e w1 ⟨rfl, hw⟩; obtain rfl := hw.symm; clear hw)
    | (at_builtin; go_loud (refine wpList_append_rw _ rfl _ _ 29 29 rfl 3 _ i0 _ 1 8 Try.underlying29 Try.underlying29 (by simp) hi hz0 hz1 hz2 rfl _ N _ rfl (HL1.out.alloc _) _ 1 [.int .i64 (t : Int)] rfl HMD.out.src rfl (by simp [Value.oneCell']) (by omega) (by omega) ?_); intro ga gc w4 hv' hg4 hob'; have u4 : Upd w w4 (fun k => m.own la k) := (((Upd.refl w (fun k => m.own la k)).setCell ⟨m.mb, t, none⟩ (.bool true) (.inr (.inr (.inl rfl)))).alloc (.cells #[.int .i64 (t : Int)] 3)).grown hg4 (fun k e => .inr (.inr (.inr ((own_slice la _ _ _ _).trans e)))); have HU4 := hide u4; have u4b : Upd w w4 (fun k => k = m.mb ∨ (Value.slice la 0 0).ownBlock = some k) := (((Upd.refl w _).setCell ⟨m.mb, t, none⟩ (.bool true) (.inr (.inl rfl))).alloc (.cells #[.int .i64 (t : Int)] 3)).grown hg4 (fun k e => .inr (.inr ((own_slice la _ _ _ _).trans e))); have n8 : ¬ (m.b8 = m.mb ∨ (Value.slice la 0 0).ownBlock = some m.b8) := (fun q => q.elim n8m (fun e => HLA.out _ ((own_slice la _ _ _ _).trans e) (by simp [Sp.bs]))); have z8' : w4.frozen? ⟨m.b8, 0, none⟩ = false := (frozen_of u4b l8 n8).trans z8; have d8' := (u4b.cell m.b8 0 l8 n8).trans d8; have l8' := Nat.lt_of_lt_of_le l8 u4b.size; have HU4B := hide u4b; clear u4 u4b))
  go_end0
  have hgo : ∀ k, (Value.slice ga 0 0).ownBlock = some k → (Value.slice la 0 0).ownBlock = some k ∨ w.heap.size ≤ k := fun k q => by
    have q2 := (own_slice ga (N + 1) gc 0 0).trans q
    rcases hob' with e | e
    · exact .inl ((own_slice la 0 0 N lc).trans (e.symm.trans q2))
    · have e2 := e.symm.trans q2
      simp [World.setCell] at e2
      exact .inr (by omega)
  have hgb : ∀ k, (Value.slice ga 0 0).ownBlock = some k → k ∉ m.bs := fun k q => by
    rcases hgo k q with e | e
    · exact HH.out.ln k e
    · intro q2
      have := lt_at HH.out.c3
      simp only [Sp.bs, List.mem_cons, List.not_mem_nil, or_false] at q2
      omega
  have hlb : ∀ x, x ∈ m.bs → (Value.slice la 0 0).ownBlock ≠ some x := fun x q e => HH.out.ln x e q
  have u1 : Upd (w.setCell ⟨m.mb, t, none⟩ (.bool true)) w4 (fun k => (Value.slice la 0 0).ownBlock = some k) := ((Upd.refl _ _).alloc _).grown hg4 (fun k e => .inr ((own_slice la _ _ _ _).trans e))
  have hrm := Rw.set1 HH.out.r t ht (.bool true)
  rw [boolR_upd, Nat.zero_add] at hrm
  have hlen : (left ++ [t]).length = N + 1 := by simp [HN.out]
  rw [natCells_snoc] at hv'
  refine ⟨ga, gc, rfl, ⟨?_, ?_, ?_, ?_, ?_, hgb, HH.out.n37, HH.out.n38, HH.out.n3m, n78, n7m, n8m⟩, ?_, ?_⟩
  · rw [Below.heap_setCell _ _ _ _ (by simpa using HH.out.n38)]
    exact HU4B.out.get HH.out.c3 (fun q => q.elim n3m (hlb _ (by simp [Sp.bs])))
  · rw [Below.heap_setCell _ _ _ _ (by simpa using n78)]
    exact HU4B.out.get HH.out.c7 (fun q => q.elim n7m (hlb _ (by simp [Sp.bs])))
  · have := block_setCell (HU4B.out.get HH.out.c8 (fun q => q.elim n8m (hlb _ (by simp [Sp.bs])))) 0 (.slice ga (N + 1) gc)
    rw [hlen]
    simpa using this
  · exact (u1.rw hrm (fun k q e => hlb k (by rw [← Option.some.inj q]; simp [Sp.bs]) e)).setCell _ _ (fun e => n8m (Option.some.inj e).symm)
  · rw [hlen]
    exact hv'.setCell _ _ (fun e => hgb m.b8 ((own_slice ga _ _ _ _).trans e) (by simp [Sp.bs]))
  · intro k q
    rcases q with q | q | q
    · exact .inl (.inl q)
    · exact .inl (.inr (.inl q))
    · exact (hgo k q).imp (fun q => .inr (.inr q)) id
  · exact HU4.out.setCell _ _ (.inr (.inl rfl))
/-- A row of the edges that are gone along: what the two closures hand back. -/
def EdgeRes (O : Nat → Prop) (w : World) (l : List Nat) (e : Ending) (w' : World) : Prop := ∃ a c, e = .returned (.slice a l.length c) ∧ Rw w 3 1 (.slice a l.length c) l.length (natCells l) ∧ (∀ k, (Value.slice a l.length c).ownBlock = some k → O k) ∧ w' = w
theorem rowR_at {w : World} {gb n : Nat} {m : Gm} {E D : Nat → Nat → Bool} (h : GrAt w gb n m E D) (z : Nat) (hz : z < n) :
    ∃ rg ro sc ra rc, w.cell? ⟨gb, 0, none⟩ = some (.slice (some ⟨rg, ro, none⟩) n sc) ∧ gb < w.heap.size ∧ rg < w.heap.size ∧ w.cell? ⟨rg, ro + z, none⟩ = some (.slice ra (rowE n (E z)).length rc) ∧ Rw w 3 1 (.slice ra (rowE n (E z)).length rc) (rowE n (E z)).length (natCells (rowE n (E z))) ∧ (∀ k, (Value.slice ra (rowE n (E z)).length rc).ownBlock = some k → m.own gb n k) := by
  obtain ⟨sv, sc, hv⟩ := slice_form h.r.spine
  obtain ⟨g, off, hg, hgl, d1, f1⟩ := Rw.cell1 (by have := h.r.spine; rw [hv] at this; exact this) hz
  subst hg
  obtain ⟨ra, rc, hfa⟩ := slice_form (h.r.row z hz)
  have hra := h.r.row z hz
  rw [natCells_len] at hfa hra
  rw [hfa] at hra d1
  have d0 := (cells2 h.c).1
  rw [hv] at d0
  exact ⟨g, off, sc, ra, rc, d0, lt_at h.c, hgl, d1, hra, fun k q => .inr (.inl (.inr ⟨z, hz, by rw [hfa]; exact q⟩))⟩
theorem rowD_at {w : World} {gb n : Nat} {m : Gm} {E D : Nat → Nat → Bool} (h : GrAt w gb n m E D) (z : Nat) (hz : z < n) :
    ∃ rg ro sc ra rc, w.cell? ⟨gb, 1, none⟩ = some (.slice (some ⟨rg, ro, none⟩) n sc) ∧ gb < w.heap.size ∧ rg < w.heap.size ∧ w.cell? ⟨rg, ro + z, none⟩ = some (.slice ra (rowE n (D z)).length rc) ∧ Rw w 3 1 (.slice ra (rowE n (D z)).length rc) (rowE n (D z)).length (natCells (rowE n (D z))) ∧ (∀ k, (Value.slice ra (rowE n (D z)).length rc).ownBlock = some k → m.own gb n k) := by
  obtain ⟨sv, sc, hv⟩ := slice_form h.d.spine
  obtain ⟨g, off, hg, hgl, d1, f1⟩ := Rw.cell1 (by have := h.d.spine; rw [hv] at this; exact this) hz
  subst hg
  obtain ⟨ra, rc, hfa⟩ := slice_form (h.d.row z hz)
  have hra := h.d.row z hz
  rw [natCells_len] at hfa hra
  rw [hfa] at hra d1
  have d0 := (cells2 h.c).2
  rw [hv] at d0
  exact ⟨g, off, sc, ra, rc, d0, lt_at h.c, hgl, d1, hra, fun k q => .inr (.inr (.inr ⟨z, hz, by rw [hfa]; exact q⟩))⟩
theorem edgesR_any {w : World} {gb n : Nat} {mg : Gm} {E D : Nat → Nat → Bool} (hg : GrAt w gb n mg E D) {cb : Nat} (hc : w.heap[cb]? = some (.cells #[.pointer (some ⟨gb, 0, none⟩)] 23 (0, 0))) (u : Nat) (hu : u < n) : Calls Try.prog 33 #[.int .i64 (u : Int), .pointer (some ⟨cb, 0, none⟩)] w (EdgeRes (mg.own gb n) w (rowE n (E u))) := by
  obtain ⟨rg, ro, rsc, ra, rc, g0, gbl, rgl, g1, rr, rn⟩ := rowR_at hg u hu
  have d0 := cells1 hc
  have a0 : (0 : Int) ≤ (u : Int) := by omega
  have a1 : (u : Int) < (n : Int) := by omega
  obtain ⟨L, hL⟩ : ∃ L, (rowE n (E u)).length = L := ⟨_, rfl⟩
  unfold EdgeRes
  rw [hL] at g1 rr rn ⊢
  have HRN := hide rn
  clear hg hc hL rn
  go_enter Try.func33, Try.ntmps33
  go_wp2_with fail
  go_ret
  exact ⟨ra, rc, rfl, rr, HRN.out, rfl⟩
theorem edgesD_any {w : World} {gb n : Nat} {mg : Gm} {E D : Nat → Nat → Bool} (hg : GrAt w gb n mg E D) {cb : Nat} (hc : w.heap[cb]? = some (.cells #[.pointer (some ⟨gb, 0, none⟩)] 23 (0, 0))) (u : Nat) (hu : u < n) : Calls Try.prog 35 #[.int .i64 (u : Int), .pointer (some ⟨cb, 0, none⟩)] w (EdgeRes (mg.own gb n) w (rowE n (D u))) := by
  obtain ⟨rg, ro, rsc, ra, rc, g0, gbl, rgl, g1, rr, rn⟩ := rowD_at hg u hu
  have d0 := cells1 hc
  have a0 : (0 : Int) ≤ (u : Int) := by omega
  have a1 : (u : Int) < (n : Int) := by omega
  obtain ⟨L, hL⟩ : ∃ L, (rowE n (D u)).length = L := ⟨_, rfl⟩
  unfold EdgeRes
  rw [hL] at g1 rr rn ⊢
  have HRN := hide rn
  clear hg hc hL rn
  go_enter Try.func35, Try.ntmps35
  go_wp2_with fail
  go_ret
  exact ⟨ra, rc, rfl, rr, HRN.out, rfl⟩
end Go.Proofs.Ytnhggncpebifhaa
