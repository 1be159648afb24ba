/- slices.Delete of one text at slices that read; the walks of package net's Take, Drop and Twice. -/
import Derived.Test.YtleehgpfoigajaaNetA
set_option maxRecDepth 100000
namespace Go.Proofs.Ytleehgpfoigajaa
open Go.RowKit Go.Lat

open Go.Sort (putRow putCells Holds)

theorem rw_putRow (w : World) (g off n cap q : Nat) (zs ys : List (List UInt8)) (hr : Rw w 9 1 (.slice (some ⟨g, off, none⟩) n cap) n (zs.map encStr)) (hl : ys.length = n) (m : Nat) (hm : m ≤ n) :
    Rw (putRow encStr (Go.Sort.ahead w q) g off ys.toArray) 9 1 (.slice (some ⟨g, off, none⟩) m cap) m ((ys.take m).map encStr) ∧ Upd w (putRow encStr (Go.Sort.ahead w q) g off ys.toArray) (fun k => k = g) := by
  obtain ⟨h1, h2⟩ := hr
  rcases h2 with ⟨he, _⟩ | ⟨g', off', cap', cur, he, hg, hnc, hcs, htake⟩
  · cases he
  · cases he
    constructor
    · refine ⟨by simp; omega, .inr ⟨g, off, cap, putCells encStr off ys.toArray cur, rfl, ?_, by omega, ?_, ?_⟩⟩
      · simp [putRow, Go.Sort.mapBlock, Go.Sort.ahead, Array.getElem?_modify, hg, Go.Sort.onCells]
      · simp [putCells]
        omega
      · apply List.ext_getElem?
        intro j
        by_cases hj : j < m
        · rw [Nat.mul_one, List.getElem?_take_of_lt hj, List.getElem?_drop, Array.getElem?_toList]
          have e1 : off + j < cur.size := by omega
          have e2 : off + j < off + ys.length := by omega
          have e3 : j < ys.length := by omega
          simp [putCells, e1, e2, e3, List.getElem?_take_of_lt hj]
        · rw [Nat.mul_one, List.getElem?_take_eq_none (by omega), List.getElem?_eq_none (by simp; omega)]
    · refine ⟨rfl, rfl, rfl, by simp, fun k _ hk => ?_⟩
      have : g ≠ k := fun e => hk e.symm
      simp [putRow, Go.Sort.mapBlock, Go.Sort.ahead, Array.getElem?_modify, this]

/-- One text is struck. -/
theorem Delete_rw (w : World) (g off n cap i : Nat) (zs : List (List UInt8)) (hn : zs.length = n) (hi : i < n) (hc : cap ≤ maxLen) (hr : Rw w 9 1 (.slice (some ⟨g, off, none⟩) n cap) n (zs.map encStr)) :
    Calls Try.prog 22 #[.slice (some ⟨g, off, none⟩) n cap, .int .i64 i, .int .i64 ((i + 1 : Nat) : Int)] w fun e w' => e = .returned (.slice (some ⟨g, off, none⟩) (n - 1) cap) ∧
      Rw w' 9 1 (.slice (some ⟨g, off, none⟩) (n - 1) cap) (n - 1) ((zs.take i ++ zs.drop (i + 1)).map encStr) ∧ Upd w w' (fun k => k = g) := by
  subst hn
  have hcap : zs.length ≤ cap := by
    rcases hr.2 with ⟨he, _⟩ | ⟨g', off', cap', cur, he, hg, hnc, _⟩
    · cases he
    · cases he; exact hnc
  have hH : Holds encStr w g off zs.toArray := by
    rcases hr.2 with ⟨he, _⟩ | ⟨g', off', cap', cur, he, hg, hnc, hcs, htake⟩
    · cases he
    · cases he
      intro j hj
      have hj' : j < zs.length := by simpa using hj
      constructor
      · have := hr.cells j (encStr zs[j]) (by simp [hj'])
        simpa [hj'] using this
      · exact free_at hg (off + j)
  refine Calls.mono (Try.slices_Delete_string g off cap i (i + 1) zs w hH hcap (by unfold maxLen at hc; omega) (by omega) (by omega)) ?_
  rintro e w' ⟨rfl, q, rfl⟩
  have hl : (zs.take i ++ zs.drop (i + 1) ++ List.replicate (i + 1 - i) []).length = zs.length := by simp; omega
  obtain ⟨k1, k2⟩ := rw_putRow w g off zs.length cap q zs _ hr hl (zs.length - 1) (by omega)
  have e1 : zs.length - (i + 1 - i) = zs.length - 1 := by omega
  have e2 : (zs.take i ++ zs.drop (i + 1) ++ List.replicate (i + 1 - i) []).take (zs.length - 1) = zs.take i ++ zs.drop (i + 1) := by
    rw [List.take_append_of_le_length (by simp; omega), List.take_of_length_le (by simp; omega)]
  rw [e2] at k1
  rw [e1]
  exact ⟨rfl, k1, k2⟩

theorem ne_pair {a b : Nat} (h : a = b) (h' : a < b) : False := by omega
theorem isKey_pair (f t : ByteArray) : WideAt.IsKeyLit (pairLit f t) := trivial

set_option maxHeartbeats 1600000 in
theorem Take_in (w : World) (b bm n : Nat) (D : DataW Value) (lost : Nat) (h : NetAt w b bm n D lost) (hn : n < 1000000) (f t : ByteArray) (hf : f.size ≤ maxLen) (ht : t.size ≤ maxLen) (g off len cap i : Nat) (zs : List (List UInt8)) (hl : zs.length = len) (hi : i < len) (h2 : 2 ≤ len) (h3 : len ≤ 1000) (hc : cap ≤ maxLen)
    (hr : Rw w 9 1 (.slice (some ⟨g, off, none⟩) len cap) len (zs.map encStr)) (hv : D.atKey (pairLit f t) (.held (.slice none 0 0)) = .held (.slice (some ⟨g, off, none⟩) len cap)) (nb : g ≠ b) (nm : g ≠ bm) (x : List UInt8) (hx : zs[i]? = some x) :
    Calls Try.prog 15 #[.pointer (some ⟨b, 0, none⟩), .string f, .string t, .int .i64 i] w fun e w' => e = .returned (.tuple #[encStr x, .int .i64 0]) ∧
      NetAt w' b bm (n + 1) (D.put (pairLit f t) (.held (.slice (some ⟨g, off, none⟩) (len - 1) cap))) lost ∧ Rw w' 9 1 (.slice (some ⟨g, off, none⟩) (len - 1) cap) (len - 1) ((zs.take i ++ zs.drop (i + 1)).map encStr) ∧ Upd w w' (fun k => k = bm ∨ k = g) := by
  have c0 := (cells2 h.c).1
  have hcell : w.cell? ⟨g, off + i, none⟩ = some (.string ⟨x.toArray⟩) := hr.cells i (encStr x) (by rw [List.getElem?_map, hx]; rfl)
  have LK := Look_in w b bm n D lost h f t hf ht g off len cap i hi ⟨x.toArray⟩ hv hcell
  have hl1 := look_held (h.m.alloc (.cells #[.string f, .string t] 56)).drew pairK Try.underlying52 (zeroE _) (pair_key f t hf ht) hv
  have u0 : Upd w (w.alloc (.cells #[.string f, .string t] 56)).drew (fun k => k = bm ∨ k = g) := ((Upd.refl w _).alloc _).drew
  have glt : g < w.heap.size := hr.lt g rfl
  have bmlt := h.m.lt
  have blt := lt_at h.c
  have DL := Delete_rw (w.alloc (.cells #[.string f, .string t] 56)).drew g off len cap i zs hl hi hc (hr.alloc _)
  rw [show ((i + 1 : Nat) : Int) = (i : Int) + 1 from by simp] at DL
  have w1 : IntKind.i64.wrap ((i : Int) + 1) = (i : Int) + 1 := IntWalk.i64_in _ (by omega)
  have hX : (w.alloc (.cells #[.string f, .string t] 56)).drew.heap[w.heap.size]? = some (.cells #[.string f, .string t] 56 (0, 0)) := heap_alloc_new w _
  have hB : (w.alloc (.cells #[.string f, .string t] 56)).drew.heap[b]? = some (.cells #[.map (some bm), .int .i64 lost] 54 (0, 0)) := block_alloc h.c _
  have hM : (w.alloc (.cells #[.string f, .string t] 56)).drew.ownsMap Try.prog 56 heldElem bm n D := (h.m.alloc _).drew
  have isM := World.ownsMap.isMap h.m
  have hat := Go.Maps.atKey_put_same isM (isKey_pair f t) (.held (.slice (some ⟨g, off, none⟩) (len - 1) cap)) (.held (.slice none 0 0))
  obtain ⟨L1, hL1⟩ : ∃ L1, len - 1 = L1 := ⟨_, rfl⟩
  rw [hL1] at DL hat ⊢
  have l1 : ((L1 : Int) == 0) = false := by simp; omega
  have l1' : (L1 == 0) = false := by simp; omega
  have HX := hide hX
  have HB := hide hB
  have HU := hide u0
  clear hX hB u0
  go_enter Try.func15, Try.ntmps15
  go_wp2_with fail
  refine Calls.mono LK ?_
  rintro e w' ⟨rfl, hw⟩
  replace hw := hw.symm
  subst hw
  go_wp2_with fail
  go_region_law (go_simp; go_at_call 22; refine Calls.mono DL ?_; rintro e w3 ⟨rfl, r3, u3⟩; have hX3 := u3.get HX.out (show ¬ w.heap.size = g by omega); have hB3 := u3.get HB.out (show ¬ b = g from fun e => nb e.symm); have cX := (cells2 hX3).1; have cX' := (cells2 hX3).2; have cB := (cells2 hB3).1; have HX3 := hide hX3; have HB3 := hide hB3; clear hX3 hB3; obtain ⟨w4, E4, m4, g4⟩ := World.ownsMap.update (w := w3) (by obtain ⟨es, clock, hb, k⟩ := hM; exact ⟨es, clock, u3.get hb (fun e => nm e.symm), k⟩) pairK Try.underlying52 (by unfold maxLen; omega) (pair_key f t hf ht) (H := Value) (val := Value.slice (some ⟨g, off, none⟩) L1 cap) (d := DataW.held (Value.slice (some ⟨g, off, none⟩) L1 cap)) (ps := []) rfl)
  all_goals have hX4 := block_grown g4 HX3.out (fun e => ne_pair (Option.some.inj e) (by omega))
  all_goals have hB4 := block_grown g4 HB3.out (fun e => h.ne (Option.some.inj e).symm)
  all_goals have d0 := (cells2 hX4).1
  all_goals have d1 := (cells2 hX4).2
  all_goals have d2 := (cells2 hB4).1
  all_goals have hl4 := look_held (w := w4.drew) m4 pairK Try.underlying52 (zeroE _) (pair_key f t hf ht) hat
  all_goals clear cX cX' cB E4 hl1 c0 hcell
  all_goals go_wp2_with fail
  all_goals go_region
  all_goals go_wp2_with fail
  all_goals go_ret2
  all_goals have r4 := Rw.grown r3 g4 (.inr (fun e => nm (Option.some.inj e)))
  all_goals have u4 := (HU.out.then u3 (fun _ _ e => .inr e)).grown g4 (fun k e => .inr (.inl (Option.some.inj e).symm))
  all_goals exact ⟨rfl, ⟨hB4, m4⟩, r4.drew, u4.drew⟩
end Go.Proofs.Ytleehgpfoigajaa
