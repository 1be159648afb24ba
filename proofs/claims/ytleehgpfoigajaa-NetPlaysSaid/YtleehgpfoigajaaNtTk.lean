/- The walk of package net's Take of the last text of a pair (two minutes: sixty orders). -/
import Derived.Test.YtleehgpfoigajaaNtF
set_option maxRecDepth 100000
namespace Go.Proofs.Ytleehgpfoigajaa
open Go.RowKit Go.Lat Go.Sort

set_option maxHeartbeats 6400000 in
theorem Take_last (w : World) (b bm n : Nat) (D : DataW Value) (lost : Nat) (h : NetAt w b bm n D lost) (hn : n < 1000000) (f t : ByteArray) (hf : f.size ≤ maxLen) (ht : t.size ≤ maxLen) (g off cap : Nat) (x : List UInt8) (hc : cap ≤ maxLen)
    (hr : Rw w 9 1 (.slice (some ⟨g, off, none⟩) 1 cap) 1 ([x].map encStr)) (hv : D.atKey (pairLit f t) (.held (.slice none 0 0)) = .held (.slice (some ⟨g, off, none⟩) 1 cap)) (nb : g ≠ b) (nm : g ≠ bm) :
    Calls Try.prog 15 #[.pointer (some ⟨b, 0, none⟩), .string f, .string t, .int .i64 0] w fun e w' => e = .returned (.tuple #[encStr x, .int .i64 0]) ∧
      NetAt w' b bm (n + 1) ((D.put (pairLit f t) (.held (.slice (some ⟨g, off, none⟩) 0 cap))).del (pairLit f t)) lost ∧ Upd w w' (fun k => k = bm ∨ k = g) := by
  have c0 := (cells2 h.c).1
  have hcell : w.cell? ⟨g, off + 0, none⟩ = some (.string ⟨x.toArray⟩) := hr.cells 0 (encStr x) rfl
  have LK := Look_in w b bm n D lost h f t hf ht g off 1 cap 0 (by omega) ⟨x.toArray⟩ hv hcell
  have hl1 := look_held (h.m.alloc (.cells #[.string f, .string t] 56)).drew pairK Try.underlying52 (zeroE _) (pair_key f t hf ht) hv
  have u0 : Upd w (w.alloc (.cells #[.string f, .string t] 56)).drew (fun k => k = bm ∨ k = g) := ((Upd.refl w _).alloc _).drew
  have glt : g < w.heap.size := hr.lt g rfl
  have bmlt := h.m.lt
  have blt := lt_at h.c
  have DL := Delete_rw (w.alloc (.cells #[.string f, .string t] 56)).drew g off 1 cap 0 [x] rfl (by omega) hc (hr.alloc _)
  simp only [Nat.zero_add, Nat.sub_self] at DL
  have hX : (w.alloc (.cells #[.string f, .string t] 56)).drew.heap[w.heap.size]? = some (.cells #[.string f, .string t] 56 (0, 0)) := heap_alloc_new w _
  have hB : (w.alloc (.cells #[.string f, .string t] 56)).drew.heap[b]? = some (.cells #[.map (some bm), .int .i64 lost] 54 (0, 0)) := block_alloc h.c _
  have hM : (w.alloc (.cells #[.string f, .string t] 56)).drew.ownsMap Try.prog 56 heldElem bm n D := (h.m.alloc _).drew
  have isM := World.ownsMap.isMap h.m
  have hat := Go.Maps.atKey_put_same isM (isKey_pair f t) (.held (.slice (some ⟨g, off, none⟩) 0 cap)) (.held (.slice none 0 0))
  have HX := hide hX
  have HB := hide hB
  have HU := hide u0
  clear hX hB u0
  go_enter Try.func15, Try.ntmps15
  go_wp2_with fail
  refine Calls.mono LK ?_
  rintro e w' ⟨rfl, hw⟩
  replace hw := hw.symm
  subst hw
  go_wp2_with fail
  go_region_law (go_simp; go_at_call 22; refine Calls.mono DL ?_; rintro e w3 ⟨rfl, r3, u3⟩; have hX3 := u3.get HX.out (show ¬ w.heap.size = g by omega); have hB3 := u3.get HB.out (show ¬ b = g from fun e => nb e.symm); have cX := (cells2 hX3).1; have cX' := (cells2 hX3).2; have cB := (cells2 hB3).1; have HX3 := hide hX3; have HB3 := hide hB3; clear hX3 hB3; obtain ⟨w4, E4, m4, g4⟩ := World.ownsMap.update (w := w3) (by obtain ⟨es, clock, hb, k⟩ := hM; exact ⟨es, clock, u3.get hb (fun e => nm e.symm), k⟩) pairK Try.underlying52 (by unfold maxLen; omega) (pair_key f t hf ht) (H := Value) (val := Value.slice (some ⟨g, off, none⟩) 0 cap) (d := DataW.held (Value.slice (some ⟨g, off, none⟩) 0 cap)) (ps := []) rfl)
  all_goals have hX4 := block_grown g4 HX3.out (fun e => ne_pair (Option.some.inj e) (by omega))
  all_goals have hB4 := block_grown g4 HB3.out (fun e => h.ne (Option.some.inj e).symm)
  all_goals have d0 := (cells2 hX4).1
  all_goals have d1 := (cells2 hX4).2
  all_goals have d2 := (cells2 hB4).1
  all_goals have hl4 := fun k => look_held (w := w4.drewN k) m4 pairK Try.underlying52 (zeroE _) (pair_key f t hf ht) hat
  all_goals clear cX cX' cB E4 hl1 c0 hcell
  all_goals go_wp2_with fail
  all_goals go_quiet (fail)
  all_goals go_wp2_with fail
  all_goals (
    refine wp_region_still_tail 5 (by kernel_rfl) (by kernel_rfl) ?_
    change wpStill _ _ (w4.drewN nq).drew (fun a' => wpList _ _ _ _ a' (w4.drewN nq).drew) _ _
    simp only [List.take_succ_cons, List.take_zero, List.drop_succ_cons, List.drop_zero]
    repeat still_step
    refine wpStill_nil ?_
    go_wp2_with (at_delete; go_loud (refine wpList_delete_own _ rfl _ _ 52 56 rfl 57 pairK Try.underlying52 heldElem bm (n + 1) _ rfl (show (w4.drewN nq).drew.ownsMap Try.prog 56 heldElem bm (n + 1) _ from m4) _ _ rfl (pair_key f t hf ht) ?_); intro w6 hown6 hturn6)
    go_ret2
    have g6 := hturn6.grown
    have u4 : Upd w w4 (fun k => k = bm ∨ k = g) := (HU.out.then u3 (fun _ _ e => .inr e)).grown g4 (fun k e => .inr (.inl (Option.some.inj e).symm))
    have hB6 : w6.heap[b]? = some (.cells #[.map (some bm), .int .i64 lost] 54 (0, 0)) := block_grown g6 (show (w4.drewN nq).drew.heap[b]? = _ from hB4) (fun e => h.ne (Option.some.inj e).symm)
    exact ⟨rfl, ⟨hB6, hown6⟩, ((u4.drewN nq).drew).grown g6 (fun k e => .inr (.inl (Option.some.inj e).symm))⟩)
end Go.Proofs.Ytleehgpfoigajaa
