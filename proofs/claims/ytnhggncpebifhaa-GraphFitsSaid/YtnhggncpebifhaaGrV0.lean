/- The methods of least. -/
import Derived.Test.YtnhggncpebifhaaGrO
import Derived.BigRegion
import Derived.Outline
import Derived.Deep.AppendLies
set_option maxRecDepth 100000
namespace Go.Proofs.Ytnhggncpebifhaa
open Go.RowKit Go.Lat Go.Tarjan

/-- A heap: the cell b holds the slice that reads as l. -/
structure HpAt (base : Nat) (w : World) (b : Nat) (a : Option Addr) (c : Nat) (l : List Nat) : Prop where
  h : w.heap[b]? = some (.cells #[.slice a l.length c] 68 (0, 0))
  n : NatAt base w a c l
  nb : ∀ k, (Value.slice a 0 0).ownBlock = some k → k ≠ b
  bb : base ≤ b
def HpAt.own (b : Nat) (a : Option Addr) (k : Nat) : Prop := k = b ∨ (Value.slice a 0 0).ownBlock = some k
theorem HpAt.upd {base : Nat} {w w' : World} {b : Nat} {a : Option Addr} {c : Nat} {l : List Nat} (h : HpAt base w b a c l) {S : Nat → Prop} (u : Upd w w' S) (hS : ∀ k, HpAt.own b a k → ¬ S k) : HpAt base w' b a c l :=
  ⟨u.get h.h (hS b (.inl rfl)), h.n.upd u (fun k q => hS k (.inr q)), h.nb, h.bb⟩
theorem Len_any (w : World) (a : Option Addr) (n c : Nat) : Calls Try.prog 39 #[.slice a n c] w fun e w' => e = .returned (.int .i64 (n : Int)) ∧ w' = w := by
  go_enter Try.func39, Try.ntmps39
  go_wp2
  go_ret
  exact ⟨rfl, rfl⟩
theorem Less_any {base : Nat} {w : World} {a : Option Addr} {c n : Nat} {l : List Nat} (h : NatAt base w a c l) (hn : l.length = n) (i k x y : Nat) (hi : l[i]? = some x) (hk : l[k]? = some y) : Calls Try.prog 96 #[.slice a n c, .int .i64 (i : Int), .int .i64 (k : Int)] w fun e w' => e = .returned (.bool (decide (x < y))) ∧ Upd w w' (fun _ => False) := by
  have h1 := (List.getElem?_eq_some_iff.1 hi).1
  have h2 := (List.getElem?_eq_some_iff.1 hk).1
  have hr := h.r
  rw [hn] at hr h1 h2
  obtain ⟨g, off, cap, hv, hg, hc⟩ := Rw.pos hr (by omega)
  simp only [Value.slice.injEq] at hv
  obtain ⟨rfl, -, rfl⟩ := hv
  have e1 := hc i _ (natCells_get hi)
  have e2 := hc k _ (natCells_get hk)
  have i0 : (0 : Int) ≤ (i : Int) := by omega
  have i1 : (i : Int) < (n : Int) := by omega
  have k0 : (0 : Int) ≤ (k : Int) := by omega
  have k1 : (k : Int) < (n : Int) := by omega
  clear h hr hc hi hk
  go_enter Try.func96, Try.ntmps96
  go_wp2_with fail
  go_quiet (fail)
  go_wp2_with fail
  go_ret
  refine ⟨?_, (Upd.refl w _).drewN _⟩
  by_cases q : x < y
  · have : (x : Int) < (y : Int) := by omega
    simp [q]
  · have : ¬ (x : Int) < (y : Int) := by omega
    simp [q]
def swapL (l : List Nat) (i k : Nat) : List Nat := (l.set i (l.getD k 0)).set k (l.getD i 0)
theorem swapL_len (l : List Nat) (i k : Nat) : (swapL l i k).length = l.length := by simp [swapL]
theorem swapL_get (l : List Nat) (i k j : Nat) (hi : i < l.length) (hk : k < l.length) : (swapL l i k)[j]? = if j = k then l[i]? else if j = i then l[k]? else l[j]? := by
  unfold swapL
  rw [List.getElem?_set]
  by_cases e : k = j
  · subst e
    simp [hi, hk]
  · rw [if_neg e, if_neg (fun z => e z.symm), List.getElem?_set]
    by_cases e2 : i = j
    · subst e2
      simp [hi, hk]
    · rw [if_neg e2, if_neg (fun z => e2 z.symm)]
theorem swapL_perm (l : List Nat) (i k : Nat) (hi : i < l.length) (hk : k < l.length) : (swapL l i k).Perm l := by
  unfold swapL
  have e1 : l.getD k 0 = l[k] := by simp [hk]
  have e2 : l.getD i 0 = l[i] := by simp [hi]
  rw [e1, e2]
  exact List.set_set_perm hi hk
theorem natCells_set (l : List Nat) (i x : Nat) : natCells (l.set i x) = (natCells l).set i (.int .i64 (x : Int)) := by
  simp [natCells, inCells, List.map_set]
/-- One cell of a slice of nodes is written. -/
theorem NatAt.set {base : Nat} {w : World} {g off c n : Nat} {l : List Nat} (h : NatAt base w (some ⟨g, off, none⟩) c l) (hn : l.length = n) (i x : Nat) (hi : i < n) : NatAt base (w.setCell ⟨g, off + i, none⟩ (.int .i64 (x : Int))) (some ⟨g, off, none⟩) c (l.set i x) := by
  subst hn
  have q := Rw.setL [.int .i64 (x : Int)] h.r i (by simp; omega)
  refine ⟨?_, h.o⟩
  rw [List.length_set, natCells_set]
  exact q
set_option maxHeartbeats 1600000 in
theorem Swap_any {base : Nat} {w : World} {a : Option Addr} {c n : Nat} {l : List Nat} (h : NatAt base w a c l) (hn : l.length = n) (i k : Nat) (hi : i < n) (hk : k < n) (hik : i ≠ k) : Calls Try.prog 97 #[.slice a n c, .int .i64 (i : Int), .int .i64 (k : Int)] w fun e w' => e = .returned (.tuple #[]) ∧ NatAt base w' a c (swapL l i k) ∧ Upd w w' (fun j => (Value.slice a 0 0).ownBlock = some j) := by
  obtain ⟨x, hx⟩ : ∃ x, l[i]? = some x := ⟨_, List.getElem?_eq_getElem (by rw [hn]; exact hi)⟩
  obtain ⟨y, hy⟩ : ∃ y, l[k]? = some y := ⟨_, List.getElem?_eq_getElem (by rw [hn]; exact hk)⟩
  have hr := h.r
  rw [hn] at hr
  obtain ⟨g, off, cap, hv, hg, hc⟩ := Rw.pos hr (by omega)
  simp only [Value.slice.injEq] at hv
  obtain ⟨rfl, -, rfl⟩ := hv
  have e1 := hc i _ (natCells_get hx)
  have e2 := hc k _ (natCells_get hy)
  have fz : ∀ o, w.frozen? ⟨g, o, none⟩ = false := by
    rcases hr.2 with ⟨he, _⟩ | ⟨g', off', cap', cur, he, hg', _⟩
    · cases he
    · cases he
      exact fun o => free_at hg' o
  have z1 := fz (off + i)
  have z2 := fz (off + k)
  have i0 : (0 : Int) ≤ (i : Int) := by omega
  have i1 : (i : Int) < (n : Int) := by omega
  have k0 : (0 : Int) ≤ (k : Int) := by omega
  have k1 : (k : Int) < (n : Int) := by omega
  have hsw : swapL l i k = (l.set i y).set k x := by
    unfold swapL
    rw [List.getD_eq_getElem?_getD, List.getD_eq_getElem?_getD, hx, hy]
    rfl
  have H := hide h
  have HSW := hide hsw
  have HN := hide hn
  clear h hr hc hx hy hsw hn fz
  have hki : k ≠ i := fun e => hik e.symm
  go_enter Try.func97, Try.ntmps97
  go_region
  all_goals go_wp2_with fail
  all_goals go_end0
  have q := (H.out.set HN.out i y hi).set (by rw [List.length_set]; exact HN.out) k x hk
  rw [← HSW.out] at q
  have u : Upd w ((w.setCell ⟨g, off + i, none⟩ (.int .i64 (y : Int))).setCell ⟨g, off + k, none⟩ (.int .i64 (x : Int))) (fun j => (Value.slice (some ⟨g, off, none⟩) 0 0).ownBlock = some j) := ((Upd.refl w (fun j => (Value.slice (some ⟨g, off, none⟩) 0 0).ownBlock = some j)).setCell ⟨g, off + i, none⟩ (.int .i64 (y : Int)) (.inr rfl)).setCell ⟨g, off + k, none⟩ (.int .i64 (x : Int)) (.inr rfl)
  exact ⟨rfl, q.upd ((Upd.refl _ (fun _ => False)).drew) (fun _ _ => id), u.drew⟩
theorem HpAt.pushed {base : Nat} {w w4 : World} {b : Nat} {a ga : Option Addr} {c gc n x N : Nat} {l : List Nat} (h : HpAt base w b a c l) (hn : l.length = n) (hbw : base ≤ w.heap.size) (hA : Rw w4 3 1 (.slice ga (n + 1) gc) (n + 1) (natCells l ++ [Value.int .i64 (x : Int)])) (u : Upd w w4 (fun k => (Value.slice a n c).ownBlock = some k)) (hN : w.heap.size ≤ N)
    (hob : (Value.slice ga (n + 1) gc).ownBlock = (Value.slice a n c).ownBlock ∨ (Value.slice ga (n + 1) gc).ownBlock = some N) :
    HpAt base (w4.setCell ⟨b, 0, none⟩ (.slice ga (n + 1) gc)) b ga gc (l ++ [x]) ∧ (∀ k, HpAt.own b ga k → HpAt.own b a k ∨ w.heap.size ≤ k) ∧ Upd w (w4.setCell ⟨b, 0, none⟩ (.slice ga (n + 1) gc)) (fun k => HpAt.own b a k) := by
  have hnb : (Value.slice a n c).ownBlock ≠ some b := fun q => h.nb b ((own_slice a 0 0 _ _).trans q) rfl
  have lb := lt_at h.h
  have ho : ∀ k, (Value.slice ga 0 0).ownBlock = some k → (Value.slice a 0 0).ownBlock = some k ∨ w.heap.size ≤ k := fun k q => by
    have q2 := (own_slice ga (n + 1) gc 0 0).trans q
    rcases hob with e | e
    · exact .inl ((own_slice a 0 0 n c).trans (e.symm.trans q2))
    · have := Option.some.inj (e.symm.trans q2)
      exact .inr (by omega)
  have hgb : ∀ k, (Value.slice ga 0 0).ownBlock = some k → k ≠ b := fun k q => by
    rcases ho k q with z | z
    · exact h.nb k z
    · omega
  have hl : (l ++ [x]).length = n + 1 := by simp [hn]
  refine ⟨⟨?_, ⟨?_, fun k q => ?_⟩, hgb, h.bb⟩, fun k q => ?_, (u.weaken (fun k _ q => .inr ((own_slice a _ _ _ _).trans q))).setCell _ _ (.inr (.inl rfl))⟩
  · have := block_setCell (u.get h.h hnb) 0 (.slice ga (n + 1) gc)
    rw [hl]
    simpa using this
  · rw [hl, ← natCells_snoc]
    exact hA.setCell _ _ (fun q => hgb b ((own_slice ga _ _ _ _).trans q) rfl)
  · rcases ho k q with z | z
    · exact h.n.o k z
    · omega
  · rcases q with q | q
    · exact .inl (.inl q)
    · exact (ho k q).imp (fun z => .inr z) id
theorem infoL : (Try.prog.info? 3).map (fun i => (i.zero, i.size, i.bytes)) = some (some (.int .i64 0), 1, 8) := by kernel_rfl
set_option maxHeartbeats 1600000 in
theorem PushM_any {base : Nat} {w : World} {b : Nat} {a : Option Addr} {c : Nat} {l : List Nat} (h : HpAt base w b a c l) (x : Nat) (hl : l.length ≤ 1000000) (hbw : base ≤ w.heap.size) : Calls Try.prog 99 #[.pointer (some ⟨b, 0, none⟩), .iface 3 (.int .i64 (x : Int))] w fun e w' => ∃ a' c', e = .returned (.tuple #[]) ∧ HpAt base w' b a' c' (l ++ [x]) ∧ (∀ k, HpAt.own b a' k → HpAt.own b a k ∨ w.heap.size ≤ k) ∧ Upd w w' (fun k => HpAt.own b a k) := by
  obtain ⟨i0, hi, hz0, hz1, hz2⟩ := info_parts infoL
  obtain ⟨n, hn⟩ : ∃ n, l.length = n := ⟨_, rfl⟩
  have d0 := cells1 h.h
  have zb := free_at h.h 0
  have lb := lt_at h.h
  have hr := h.n.r
  rw [hn] at d0 hr hl
  have hnb : (Value.slice a n c).ownBlock ≠ some b := fun q => h.nb b ((own_slice a 0 0 _ _).trans q) rfl
  have TA : ∀ W : World, (Instr.typeAssert (.iface 3 (.int .i64 (x : Int))) 20 3 false).run Try.prog W = .ok (.int .i64 (x : Int)) W := fun W => by kernel_rfl
  have H := hide h
  have HR := hide hr
  have HN := hide hn
  have HNB := hide hnb
  clear h hr hn hnb
  go_enter Try.func99, Try.ntmps99
  go_wp2_with fail
  go_region_law (first
    | (refine step_append_rw _ (by rfl) _ _ 68 68 (by rfl) 3 _ i0 _ 1 8 Try.underlying68 Try.underlying68 (by simp) hi hz0 hz1 hz2 rfl _ n _ (by rfl) ((HR.out.alloc _).drew) _ 1 [.int .i64 (x : Int)] (by rfl) ((Rw.made w #[.int .i64 (x : Int)] 3 1 1 rfl).drew).src rfl (by simp [Value.oneCell']) (by omega) (by omega) ?_; intro ga gc w4 hA hg4 hob'; have u4 : Upd w w4 (fun k => (Value.slice a n c).ownBlock = some k) := ((Upd.refl w _).alloc _).drew.grown hg4 (fun k e => .inr e); have d4 := (u4.cell b 0 lb HNB.out).trans d0; have z4 : w4.frozen? ⟨b, 0, none⟩ = false := (frozen_of u4 lb HNB.out).trans zb; have l4 := Nat.lt_of_lt_of_le lb u4.size))
  all_goals go_wp2_with fail
  all_goals go_end0
  all_goals exact ⟨ga, gc, rfl, H.out.pushed HN.out hbw hA u4 (by simp [World.drew]) hob'⟩
set_option maxHeartbeats 1600000 in
theorem PopM_any {base : Nat} {w : World} {b : Nat} {a : Option Addr} {c : Nat} {l : List Nat} {x : Nat} (h : HpAt base w b a c (l ++ [x])) (hl : l.length ≤ 1000000) : Calls Try.prog 98 #[.pointer (some ⟨b, 0, none⟩)] w fun e w' => ∃ a' c', e = .returned (.iface 3 (.int .i64 (x : Int))) ∧ HpAt base w' b a' c' l ∧ (∀ k, HpAt.own b a' k → HpAt.own b a k) ∧ Upd w w' (fun k => HpAt.own b a k) := by
  obtain ⟨i0, hi, hz0, hz1, hz2⟩ := info_parts infoL
  obtain ⟨R, hR⟩ : ∃ R, l.length = R := ⟨_, rfl⟩
  have hsl : (l ++ [x]).length = R + 1 := by simp [hR]
  have d0 := cells1 h.h
  have zb := free_at h.h 0
  have lb := lt_at h.h
  have hr := h.n.r
  rw [hsl] at d0 hr
  obtain ⟨g, off, cap, hv, hgl, hcell⟩ := Rw.pos hr (by omega : 0 < R + 1)
  simp only [Value.slice.injEq] at hv
  obtain ⟨rfl, -, rfl⟩ := hv
  have e0 := hcell R _ (natCells_get (by rw [← hR, List.getElem?_append_right (Nat.le_refl _)]; simp : (l ++ [x])[R]? = some x))
  obtain ⟨a2, c2, hs2, hr2, ho2⟩ := Rw.slice_to (P := Try.prog) hr 68 i0 Try.underlying68 hi hz1 R (by omega)
  have e1 : (natCells (l ++ [x])).take (R * 1) = natCells l := by
    rw [← natCells_snoc, Nat.mul_one, List.take_append_of_le_length (by rw [natCells_len, hR]; exact Nat.le_refl _), List.take_of_length_le (by rw [natCells_len, hR]; exact Nat.le_refl _)]
  rw [e1] at hr2
  have ho : ∀ k, (Value.slice a2 0 0).ownBlock = some k → (Value.slice (some ⟨g, off, none⟩) 0 0).ownBlock = some k := fun k q => (own_slice _ 0 0 _ _).trans (ho2.symm.trans ((own_slice a2 _ _ _ _).trans q))
  have hR6 : R ≤ 1000000 := by omega
  have c1 : (0 : Int) ≤ (R : Int) := by omega
  have c3 : (R : Int) < (R : Int) + 1 := by omega
  have w2' : wrap64 (R : Int) = (R : Int) := IntWalk.wrap64_in _ (by omega)
  have fin : HpAt base (w.setCell ⟨b, 0, none⟩ (.slice a2 R c2)) b a2 c2 l ∧ (∀ k, HpAt.own b a2 k → HpAt.own b (some ⟨g, off, none⟩) k) ∧ Upd w (w.setCell ⟨b, 0, none⟩ (.slice a2 R c2)) (fun k => HpAt.own b (some ⟨g, off, none⟩) k) := by
    refine ⟨⟨?_, ⟨?_, fun k q => h.n.o k (ho k q)⟩, fun k q => h.nb k (ho k q), h.bb⟩, fun k q => q.imp id (ho k), (Upd.refl w _).setCell _ _ (.inr (.inl rfl))⟩
    · have := block_setCell h.h 0 (.slice a2 R c2)
      rw [hR]
      simpa using this
    · rw [hR]
      exact hr2.setCell _ _ (fun q => h.nb b (ho b ((own_slice a2 _ _ _ _).trans q)) rfl)
  have FIN := hide fin
  clear h hr hcell hr2 ho2 e1 ho hR hsl fin hl
  go_enter Try.func98, Try.ntmps98
  go_wp2_with fail
  go_ret
  exact ⟨a2, c2, rfl, FIN.out⟩
end Go.Proofs.Ytnhggncpebifhaa
