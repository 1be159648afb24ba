/- The walk of graph.put: a number is put into a rising list. -/
import Derived.Test.YtnhggncpebifhaaGrB0
set_option maxRecDepth 100000
namespace Go.Lat
open Go.RowKit
def setL : List Value → Nat → List Value → List Value
  | xs, _, [] => xs
  | xs, o, v :: vs => setL (xs.set o v) (o + 1) vs
theorem setL_eq : ∀ (vs xs : List Value) (o : Nat), o + vs.length ≤ xs.length → setL xs o vs = xs.take o ++ vs ++ xs.drop (o + vs.length)
  | [], xs, o, _ => by simp [setL]
  | v :: vs, xs, o, h => by
    unfold setL
    rw [setL_eq vs (xs.set o v) (o + 1) (by simp at h ⊢; omega)]
    have ho : o < xs.length := by simp at h; omega
    have e1 : (xs.set o v).take (o + 1) = xs.take o ++ [v] := by
      rw [List.take_add_one, List.take_set_of_le (Nat.le_refl _), List.getElem?_set_self ho]
      rfl
    have e2 : (xs.set o v).drop (o + 1 + vs.length) = xs.drop (o + (v :: vs).length) := by
      rw [List.drop_set_of_lt (by omega)]
      congr 1
      simp
      omega
    rw [e1, e2]
    simp
/-- Cells of a slice that reads are written, one behind the other. -/
theorem Rw.setL {e size g off n cap : Nat} : ∀ (vs : List Value) {w : World} {xs : List Value} (_ : Rw w e size (.slice (some ⟨g, off, none⟩) n cap) n xs) (o : Nat) (_ : o + vs.length ≤ n * size),
    Rw (w.setCells g (off + o) vs) e size (.slice (some ⟨g, off, none⟩) n cap) n (setL xs o vs)
  | [], _, _, h, _, _ => h
  | v :: vs, w, xs, h, o, ho => by
    have h1 : Rw (w.setCell ⟨g, off + o, none⟩ v) e size (.slice (some ⟨g, off, none⟩) n cap) n (xs.set o v) := by
      obtain ⟨a1, a2⟩ := h
      have hj : o < n * size := by simp at ho; omega
      refine ⟨by simpa using a1, ?_⟩
      rcases a2 with ⟨he, _⟩ | ⟨g', off', cap', cur, he, hg, hnc, hcs, htake⟩
      · cases he
      · cases he
        have hm : n * size ≤ cap * size := Nat.mul_le_mul_right _ hnc
        refine .inr ⟨g, off, cap, cur.setIfInBounds (off + o) v, rfl, block_setCell hg _ _, hnc, by simpa using hcs, ?_⟩
        rw [← htake, Array.toList_setIfInBounds, List.drop_set, if_neg (by omega)]
        rw [show off + o - off = o by omega]
        exact List.take_set ..
    exact Rw.setL vs h1 (o + 1) (by simp at ho; omega)
/-- One place more of the row. -/
theorem Rw.more {w : World} {e g off n cap : Nat} {xs : List Value} (h : Rw w e 1 (.slice (some ⟨g, off, none⟩) n cap) n xs) (hn : n + 1 ≤ cap) : ∃ x, Rw w e 1 (.slice (some ⟨g, off, none⟩) (n + 1) cap) (n + 1) (xs ++ [x]) := by
  obtain ⟨a1, a2⟩ := h
  rcases a2 with ⟨he, _⟩ | ⟨g', off', cap', cur, he, hg, hnc, hcs, htake⟩
  · cases he
  · cases he
    have hl : off + n < cur.toList.length := by simp; omega
    refine ⟨cur.toList[off + n], by simpa using a1, .inr ⟨g, off, cap, cur, rfl, hg, hn, hcs, ?_⟩⟩
    rw [Nat.mul_one, List.take_add_one, ← htake, Nat.mul_one, List.getElem?_drop, List.getElem?_eq_getElem hl]
    rfl
theorem upd_setCells {a : World} {S : Nat → Prop} {g : Nat} (hg : a.heap.size ≤ g ∨ S g) : ∀ (vs : List Value) {w : World} (_ : Upd a w S) (o : Nat), Upd a (w.setCells g o vs) S
  | [], _, h, _ => h
  | v :: vs, _, h, o => upd_setCells hg vs (h.setCell ⟨g, o, none⟩ v hg) (o + 1)
end Go.Lat
namespace Go.Proofs.Ytnhggncpebifhaa
open Go.RowKit Go.Lat
theorem Try.info3 : (Try.prog.info? 3).map (fun i => (i.zero, i.size, i.bytes)) = some (some (.int .i64 0), 1, 8) := by kernel_rfl
/-- What Insert leaves: the list with one number more at its place. -/
def InsPost (w : World) (v : Value) (l : List Int) (i : Nat) (z : Int) (e : Ending) (w' : World) : Prop :=
  ∃ a c, e = .returned (.slice a (l.length + 1) c) ∧ c ≤ maxLen ∧ Rw w' 3 1 (.slice a (l.length + 1) c) (l.length + 1) (inCells (l.take i ++ z :: l.drop i)) ∧ (∀ k, (Value.slice a (l.length + 1) c).ownBlock = some k → v.ownBlock = some k ∨ w.heap.size ≤ k) ∧ Upd w w' (fun k => v.ownBlock = some k)
theorem in_one (l : List Int) : ∀ v ∈ inCells l, v.oneCell' = true := by
  intro v hv
  unfold inCells at hv
  obtain ⟨x, _, rfl⟩ := List.mem_map.1 hv
  rfl
theorem ins_list (l : List Int) (i : Nat) (z : Int) (hi : i ≤ l.length) (xs : List Value) (hx : xs.length = l.length + 1) (ht : xs.take i = (inCells l).take i) : setL (setL xs (i + 1) ((inCells l).drop i)) i [.int .i64 z] = inCells (l.take i ++ z :: l.drop i) := by
  have hil : (inCells l).length = l.length := by simp [inCells]
  rw [setL_eq _ xs (i + 1) (by simp [hil]; omega), setL_eq _ _ i (by simp [hil]; omega)]
  have e1 : xs.drop (i + 1 + ((inCells l).drop i).length) = [] := List.drop_of_length_le (by simp [hil]; omega)
  rw [e1, List.append_nil]
  have e2 : (xs.take (i + 1) ++ (inCells l).drop i).take i = (inCells l).take i := by
    rw [List.take_append_of_le_length (by simp; omega), List.take_take, Nat.min_eq_left (by omega), ht]
  have e3 : (xs.take (i + 1) ++ (inCells l).drop i).drop (i + [Value.int .i64 z].length) = (inCells l).drop i := by
    have : (xs.take (i + 1)).length = i + 1 := by simp; omega
    rw [show i + [Value.int .i64 z].length = (xs.take (i + 1)).length by simp; omega, List.drop_left]
  rw [e2, e3]
  simp [inCells, List.map_take, List.map_drop]
theorem ins_list2 (l : List Int) (i : Nat) (z : Int) (hi : i ≤ l.length) (xs : List Value) (hx : xs.length = l.length + 1) (ht : xs.take i = (inCells l).take i) : setL (setL xs i [.int .i64 z]) (i + 1) ((inCells l).drop i) = inCells (l.take i ++ z :: l.drop i) := by
  have hil : (inCells l).length = l.length := by simp [inCells]
  rw [setL_eq _ xs i (by simp; omega), setL_eq _ _ (i + 1) (by simp [hil]; omega)]
  have e0 : (xs.take i ++ [Value.int .i64 z]).length = i + 1 := by simp; omega
  rw [show i + 1 + ((inCells l).drop i).length = (xs.take i ++ [Value.int .i64 z] ++ xs.drop (i + [Value.int .i64 z].length)).length by simp [hil]; omega, List.drop_length, List.append_nil, List.take_append_of_le_length (by omega), List.take_of_length_le (by omega), ht]
  simp [inCells, List.map_take, List.map_drop]
set_option maxHeartbeats 1600000 in
theorem Insert_any (w : World) (va : Option Addr) (vc : Nat) (l : List Int) (hr : Rw w 3 1 (.slice va l.length vc) l.length (inCells l)) (hl : l.length ≤ 1000000) (hvc : vc ≤ maxLen) (vb : Nat) (z : Int) (hb : w.heap[vb]? = some (.cells #[.int .i64 z] 3 (0, 0))) (hne : (Value.slice va l.length vc).ownBlock ≠ some vb) (i : Nat) (hi : i ≤ l.length) :
    Calls Try.prog 51 #[.slice va l.length vc, .int .i64 i, .slice (some ⟨vb, 0, none⟩) 1 1] w (InsPost w (.slice va l.length vc) l i z) := by
  have hil : (inCells l).length = l.length := by simp [inCells]
  have hvs : ∀ (j : Nat) (v : Value), [Value.int .i64 z][j]? = some v → w.cell? ⟨vb, 0 + j, none⟩ = some v := by
    intro j v hj
    cases j with
    | zero => simp at hj; subst hj; exact cell_at hb 0 _ rfl
    | succ j => simp at hj
  have h1v : ∀ v ∈ [Value.int .i64 z], v.oneCell' = true := by simp [Value.oneCell']
  by_cases hroom : l.length + 1 ≤ vc
  · rcases id hr.2 with ⟨he, h0⟩ | ⟨g, off, cap, cur, he, hg, hnc, hcs, htake⟩
    · simp only [Value.slice.injEq] at he
      omega
    · simp only [Value.slice.injEq, true_and] at he
      obtain ⟨rfl, rfl⟩ := he
      have hvg : vb ≠ g := fun e => hne (by rw [e]; rfl)
      have hfz : ∀ j : Nat, w.frozen? ⟨g, j, none⟩ = false := fun j => by simp [World.frozen?, hg]
      have hsp : ∀ j, j < vc → (w.cell? ⟨g, off + j, none⟩).isSome = true := fun j hj => by
        rw [cell_of_row w g (off + j) cur _ _ hg]
        simp
        omega
      obtain ⟨x, hm⟩ := hr.more hroom
      by_cases hin : i < l.length
      · refine Calls.mono (Any2.slices_Insert_int_shift Try.laysIns g off l.length vc i vb 0 1 1 (inCells l) [.int .i64 z] w hin (by decide) hroom (by unfold maxLen at hvc; omega) hvg hil rfl hr.cells (fun j hj => hsp j (by omega)) (fun j _ => hfz _) hvs (in_one l) h1v 3 3 1 cur.size (by simp [World.shape?, hb]) (by simp [World.shape?, hg]) (by omega) (free_at hb 0) (free_at hb 1)) ?_
        rintro e w' ⟨rfl, rfl⟩
        have r1 := Rw.setL ((inCells l).drop i) (hm.drew) (i + 1) (by simp [hil]; omega)
        have r2 := Rw.setL [.int .i64 z] r1 i (by simp; omega)
        rw [ins_list l i z hi _ (by simp [hil]) (by rw [List.take_append_of_le_length (by omega)])] at r2
        exact ⟨_, _, rfl, hvc, r2, fun k hk => .inl hk, upd_setCells (S := fun k => (Value.slice (some ⟨g, off, none⟩) l.length vc).ownBlock = some k) (g := g) (.inr rfl) _ (upd_setCells (S := fun k => (Value.slice (some ⟨g, off, none⟩) l.length vc).ownBlock = some k) (g := g) (.inr rfl) _ ((Upd.refl w _).drew) _) _⟩
      · obtain rfl : i = l.length := by omega
        refine Calls.mono (Any2.slices_Insert_int_end_room Try.laysIns g off l.length vc vb 0 1 1 [.int .i64 z] w (by decide) hroom (by unfold maxLen at hvc; omega) rfl (fun j hj => by have := hsp (l.length + j) (by omega); rwa [← Nat.add_assoc] at this) (fun j _ => hfz _) hvs h1v) ?_
        rintro e w' ⟨rfl, rfl⟩
        have r2 := Rw.setL [.int .i64 z] hm l.length (by simp)
        have e1 : setL (inCells l ++ [x]) l.length [.int .i64 z] = inCells (l.take l.length ++ z :: l.drop l.length) := by
          rw [setL_eq _ _ _ (by simp [hil])]
          rw [List.take_append_of_le_length (by omega), List.take_of_length_le (by omega), List.drop_of_length_le (by simp [hil])]
          simp [inCells]
        rw [e1] at r2
        exact ⟨_, _, rfl, hvc, r2, fun k hk => .inl hk, upd_setCells (S := fun k => (Value.slice (some ⟨g, off, none⟩) l.length vc).ownBlock = some k) (g := g) (.inr rfl) _ (Upd.refl w _) _⟩
  · have hgc := grownCap_ge w (l.length + 1) vc 3
    have hgm := grownCap_le_maxLen w (l.length + 1) vc 3 (by unfold maxLen; omega)
    have hvl : l.length ≤ vc := by
      rcases id hr.2 with ⟨he, h0⟩ | ⟨g, off, cap, cur, he, hg, hnc, hcs, htake⟩
      · omega
      · simp only [Value.slice.injEq, true_and] at he
        omega
    by_cases hin : i < l.length
    · obtain ⟨g, off, cap, hv, hgw, hc⟩ := Rw.pos hr (by omega)
      simp only [Value.slice.injEq, true_and] at hv
      obtain ⟨rfl, rfl⟩ := hv
      refine Calls.mono (Any2.slices_Insert_int_grow Try.laysIns g off l.length vc i vb 0 1 1 (inCells l) [.int .i64 z] w hin (by decide) hvl (by omega) (by omega) hil rfl hr.cells hvs (in_one l) h1v) ?_
      rintro e w' ⟨rfl, rfl⟩
      obtain ⟨A, hA⟩ : ∃ A, ((inCells l).take i).toArray ++ Builtin.zeroCells (Value.int .i64 0).cells (l.length + 1 - i) = A := ⟨_, rfl⟩
      have hAs : A.size = l.length + 1 := by
        rw [← hA]
        simp [size_zeroCells, hil, Value.cells]
        omega
      have hAt : A.toList.take i = (inCells l).take i := by
        rw [← hA]
        simp only [Array.toList_append]
        rw [List.take_append_of_le_length (by simp [hil]; omega), List.take_of_length_le (by simp; exact Nat.min_le_left _ _)]
      rw [hA]
      have r0 : Rw (w.alloc (.cells (A ++ Builtin.zeroCells (Value.int .i64 0).cells (grownCap w (l.length + 1) vc 3 - (l.length + 1))) 3)) 3 1 (.slice (some ⟨w.heap.size, 0, none⟩) (l.length + 1) (grownCap w (l.length + 1) vc 3)) (l.length + 1) A.toList := by
        refine ⟨by simpa using hAs, .inr ⟨_, _, _, _, rfl, heap_alloc_new w _, hgc, ?_, ?_⟩⟩
        · simp [size_zeroCells, hAs, Value.cells]
          omega
        · simp only [Array.toList_append, List.drop_zero, Nat.mul_one]
          rw [List.take_append_of_le_length (by simp [hAs]), List.take_of_length_le (by simp [hAs])]
      have r1 := Rw.setL [.int .i64 z] r0.drew i (by simp; omega)
      have r2 := Rw.setL ((inCells l).drop i) r1.drew (i + 1) (by simp [hil]; omega)
      rw [ins_list2 l i z hi _ (by simpa using hAs) hAt] at r2
      simp only [Nat.zero_add] at r2
      exact ⟨_, _, rfl, hgm, r2, fun k hk => .inr (by simp [Value.ownBlock] at hk; omega), upd_setCells (S := fun k => (Value.slice (some ⟨g, off, none⟩) l.length vc).ownBlock = some k) (g := w.heap.size) (.inl (Nat.le_refl _)) _ (Upd.drew (upd_setCells (S := fun k => (Value.slice (some ⟨g, off, none⟩) l.length vc).ownBlock = some k) (g := w.heap.size) (.inl (Nat.le_refl _)) _ (Upd.drew (Upd.alloc (Upd.refl w _) _)) _)) _⟩
    · obtain rfl : i = l.length := by omega
      refine Calls.mono (Any2.slices_Insert_int_end_grow Try.laysIns va l.length vc vb 0 1 1 (inCells l) [.int .i64 z] w (by decide) hvl (by omega) (by omega) hil rfl ?_ ?_ hvs h1v) ?_
      · rintro rfl
        rcases id hr.2 with ⟨he, h0⟩ | ⟨g, off, cap, cur, he, hg, hnc, hcs, htake⟩
        · exact h0
        · cases he
      · rintro a rfl j v hj
        have h0 : 0 < l.length := by
          have := (List.getElem?_eq_some_iff.1 hj).1
          rw [hil] at this
          omega
        obtain ⟨g, off, cap, hv, hgw, hc⟩ := Rw.pos hr h0
        simp only [Value.slice.injEq, true_and, Option.some.injEq] at hv
        rw [hv.1, add_off]
        exact hc j v hj
      rintro e w' ⟨rfl, rfl⟩
      have e1 : inCells (l.take l.length ++ z :: l.drop l.length) = inCells l ++ [.int .i64 z] := by simp [inCells]
      refine ⟨_, _, rfl, hgm, ?_, fun k hk => .inr (by simp [Value.ownBlock] at hk; omega), Upd.alloc (Upd.drew (Upd.refl w _)) _⟩
      rw [e1]
      refine ⟨by simp [hil], .inr ⟨_, _, _, _, rfl, heap_alloc_new w.drew _, hgc, ?_, ?_⟩⟩
      · simp [size_zeroCells, hil, Value.cells]
        omega
      · simp only [Array.toList_append, List.drop_zero, Nat.mul_one]
        rw [List.take_append_of_le_length (by simp [hil]), List.take_of_length_le (by simp [hil])]
end Go.Proofs.Ytnhggncpebifhaa
