/- The walk of package cache's sorted. -/
import Derived.Test.YtcclkfkdafmemaaCaG
import Derived.Test.YtcclkfkdafmemaaShelfS
import Derived.Shelf.SlSortCmp.NoneTotal
set_option maxRecDepth 100000
namespace Go.Proofs.Ytcclkfkdafmemaa
open Go.RowKit Go.Lat Go.Sort

theorem Sort_any (w : World) (v : Value) (ks : List Lk) (h : Rw w 30 4 v ks.length (lkCells ks)) (hl : ks.length ≤ 1000000) :
    Calls Try.prog 54 #[v, .func (Fn.func 45) #[] #[]] w fun e w' => e = .returned (.tuple #[]) ∧ Rw w' 30 4 v ks.length (lkCells (sortP ks)) ∧ Upd w w' (fun k => v.ownBlock = some k) := by
  rcases h.2 with ⟨rfl, h0⟩ | ⟨g, off, cap, cur, rfl, hg, hnc, hcs, htake⟩
  · have e0 : ks = [] := List.eq_nil_of_length_eq_zero h0
    subst e0
    have hcon := AnyF.slices_SortFunc_none Try.sortPr none 0 (.func (Fn.func 45) #[] #[]) w
    change Calls Try.prog 54 _ _ _ at hcon
    refine Calls.mono hcon ?_
    rintro e w' ⟨rfl, rfl⟩
    exact ⟨rfl, by simpa [sortP] using h, Upd.refl _ _⟩
  · have eg : ∀ args w, (callFunc 45 args).run Try.prog w = .ok (.enter 45 args) w := enters_of Try.func45 (by kernel_rfl) rfl
    have hH : HoldsK lkEnc 4 w g off ks.toArray := by
      unfold HoldsK
      rw [flat_lk]
      intro j hj
      have hj' : j < (lkCells ks).length := by simpa using hj
      refine ⟨?_, free_at hg (off + j)⟩
      have := h.cells j _ (List.getElem?_eq_getElem hj')
      rw [this]
      simp [hj']
    have hcon := AnyQ.slices_SortFunc_total Try.sortPr 4 Try.isAgg30 Try.sizeOf30 lkEnc (fun _ => rfl) (fun x v hv => by simp [lkEnc] at hv; rcases hv with rfl | rfl | rfl | rfl <;> rfl) cmpL swoP 45 #[] g off cap ks.toArray w eg (fun _ _ _ _ x y => (order_any _ x y).mono fun _ _ ⟨h1, h2⟩ => ⟨h1, h2⟩) hH (lt_at hg) (by simp; omega) totP
    change Calls Try.prog 54 _ _ _ at hcon
    refine Calls.mono hcon ?_
    rintro e w' ⟨rfl, q, os, rfl⟩
    have hs : (sortP ks).length = ks.length := (sortP_perm ks).length_eq
    obtain ⟨k1, k2⟩ := rw_putFlat w 30 4 g off ks.length cap q _ (lkCells (sortP ks)) h (by rw [lkCells_len, hs])
    have e1 : sortWorldK lkEnc 4 w g off q (ks.mergeSort fun x y => !(ltOf cmpL) y x).toArray os = grow (putRow id (Go.Sort.ahead w q) g off (lkCells (sortP ks)).toArray) os := by
      unfold sortWorldK putRowK
      rw [show (ks.mergeSort fun x y => !(ltOf cmpL) y x) = sortP ks from rfl, flat_lk]
    simp only [List.size_toArray] at *
    rw [e1]
    have u := upd_grow (Upd.refl (putRow id (Go.Sort.ahead w q) g off (lkCells (sortP ks)).toArray) (fun _ => False)) os
    exact ⟨trivial, u.rw k1 (fun _ _ => id), (upd_grow k2 os).weaken fun k _ e => by rw [e]; rfl⟩

/-- What sorted hands back of a map. -/
structure Row (D : DataW Value) (w w' : World) (v : Value) (ks : List Lk) : Prop where
  rw : Rw w' 30 4 v ks.length (lkCells ks)
  ord : ks.Pairwise ltP
  ok : ∀ x ∈ ks, x.ok
  mem : ∀ x, x.ok → (x ∈ ks ↔ Maps.has D (lkLit x) = true)
  len : ks.length ≤ Maps.size D
  new : ∀ j, v.ownBlock = some j → w.heap.size ≤ j
set_option maxHeartbeats 1600000 in
theorem SortedFunc_any (g : Nat) (lb : Array Value) (eg : ∀ args w, (callFunc g args).run Try.prog w = .ok (.enter g args) w) (D : DataW Value) (hN : Maps.size D ≤ 1000000) (w : World) (hseq : SeqStopsK FW 2 Try.prog g lb (fun x : Lk => #[x.val]) KeepsWalks (AllOf D) (fun _ => True) (Maps.size D) w) :
    Calls Try.prog 43 #[.func (.func g) #[] lb, .func (Fn.func 45) #[] #[]] w fun e w' => ∃ a c ks, e = .returned (.slice a ks.length c) ∧ Row D w w' (.slice a ks.length c) ks ∧ Upd w w' (fun _ => False) := by
  have HA := hide (Collect_any g lb eg (AllOf D) (fun _ => True) (Maps.size D) hN w hseq)
  clear hseq eg
  go_enter Try.func43, Try.ntmps43
  go_wp2_with fail
  refine Calls.mono HA.out ?_
  rintro e w1 ⟨v, ss, rfl, hS, hrow, hb⟩
  obtain ⟨r1, hnew⟩ := own_rw hrow
  have u1 : Upd w w1 (fun _ => False) := Upd.of_below hb _
  obtain ⟨a, c, rfl, -⟩ := Rw.form r1
  have hlen : (sortP ss).length = ss.length := (sortP_perm ss).length_eq
  have HS := hide (Sort_any w1 _ ss r1 (Nat.le_trans hS.len hN))
  have HU := hide u1
  have HSS := hide hS
  have HN := hide hnew
  clear r1 u1 hS hnew hrow hb HA
  go_wp2_with fail
  refine Calls.mono HS.out ?_
  rintro e w2 ⟨rfl, r2, u2⟩
  have HR2 := hide r2
  have HU2 := hide u2
  clear r2 u2
  go_wp2_with fail
  go_ret
  refine ⟨a, c, sortP ss, by rw [hlen]; rfl, ⟨by rw [hlen]; exact HR2.out, sortP_sorted ss HSS.out.nd, fun x hx => HSS.out.ok x ((sortP_perm ss).mem_iff.1 hx), fun x hx => by rw [(sortP_perm ss).mem_iff]; exact HSS.out.mem x hx, by rw [hlen]; exact HSS.out.len, fun j hj => HN.out j (by rw [hlen] at hj; exact hj)⟩, HU.out.then HU2.out (fun i hi e => ?_)⟩
  have := HN.out i e
  omega
set_option maxHeartbeats 1600000 in
theorem sorted_any (w : World) (b n : Nat) (D : DataW Value) (hm : w.ownsMap Try.prog 30 heldElem b n D) (hn : n ≤ 1000000) :
    Calls Try.prog 28 #[.map (some b)] w fun e w' => ∃ a c ks, e = .returned (.slice a ks.length c) ∧ Row D w w' (.slice a ks.length c) ks ∧ Upd w w' (fun _ => False) := by
  have hsz := World.ownsMap.size_le hm
  have eg : ∀ args w, (callFunc 55 args).run Try.prog w = .ok (.enter 55 args) w := enters_of Try.func55 (by kernel_rfl) rfl
  have b0 := heap_alloc_new w (.cells #[.map (some b)] 81)
  have HSF := hide (SortedFunc_any 55 _ eg D (by omega) _ (keys_stops 2 (by omega) w.heap.size b n D (w.alloc (.cells #[.map (some b)] 81)) (by simp) (cells1 b0) (hm.alloc _)))
  clear hm eg b0
  go_enter Try.func28, Try.ntmps28
  go_wp2_with fail
  refine Calls.mono (Keys_any w b) ?_
  rintro e w1 ⟨rfl, rfl⟩
  go_wp2_with fail
  refine Calls.mono HSF.out ?_
  rintro e w2 ⟨a, c, ks, rfl, hR, u2⟩
  have HR := hide hR
  have HU := hide u2
  clear hR u2
  go_wp2_with fail
  go_ret
  refine ⟨a, c, ks, rfl, ⟨HR.out.rw, HR.out.ord, HR.out.ok, HR.out.mem, HR.out.len, fun j hj => ?_⟩, ((Upd.refl w _).alloc _).then HU.out (fun _ _ => id)⟩
  have := HR.out.new j hj
  simp at this
  omega
end Go.Proofs.Ytcclkfkdafmemaa
