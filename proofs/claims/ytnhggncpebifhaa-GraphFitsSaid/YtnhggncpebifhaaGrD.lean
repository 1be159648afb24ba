/- A graph as a whole in memory; the walks of New, Nodes, has, Edge, Reads and Readers. -/
import Derived.Test.YtnhggncpebifhaaGrC
set_option maxRecDepth 100000
namespace Go.Proofs.Ytnhggncpebifhaa
open Go.RowKit Go.Lat

def rowE (n : Nat) (p : Nat → Bool) : List Nat := (List.range n).filter p
theorem rowE_rising (n : Nat) (p : Nat → Bool) : Rising (rowE n p) := List.Pairwise.filter _ (List.pairwise_lt_range)
theorem rowE_mem {n : Nat} {p : Nat → Bool} {x : Nat} : x ∈ rowE n p ↔ x < n ∧ p x = true := by simp [rowE]
theorem rowE_len (n : Nat) (p : Nat → Bool) : (rowE n p).length ≤ n := by
  have := List.length_filter_le p (List.range n)
  simpa [rowE] using this
theorem rising_uniq : ∀ {a b : List Nat}, Rising a → Rising b → (∀ x, x ∈ a ↔ x ∈ b) → a = b
  | [], [], _, _, _ => rfl
  | [], y :: b, _, _, h => by simpa using (h y).2 (by simp)
  | x :: a, [], _, _, h => by simpa using (h x).1 (by simp)
  | x :: a, y :: b, ha, hb, h => by
    have a1 := List.pairwise_cons.1 ha
    have b1 := List.pairwise_cons.1 hb
    have e : x = y := by
      rcases List.mem_cons.1 ((h x).1 (by simp)) with q | q
      · exact q
      · rcases List.mem_cons.1 ((h y).2 (by simp)) with q2 | q2
        · exact q2.symm
        · have := b1.1 x q; have := a1.1 y q2; omega
    subst e
    have e2 : a = b := rising_uniq a1.2 b1.2 fun z => by
      constructor
      · intro hz
        rcases List.mem_cons.1 ((h z).1 (List.mem_cons_of_mem _ hz)) with q | q
        · subst q; have := a1.1 z hz; omega
        · exact q
      · intro hz
        rcases List.mem_cons.1 ((h z).2 (List.mem_cons_of_mem _ hz)) with q | q
        · subst q; have := b1.1 z hz; omega
        · exact q
    rw [e2]
/-- The blocks of a graph. -/
structure Gm where
  vr : Value
  vd : Value
  f : Nat → Value
  fd : Nat → Value
/-- A graph of n nodes: E: who reads whom; D: who is read by whom. -/
structure GrAt (w : World) (gb n : Nat) (m : Gm) (E D : Nat → Nat → Bool) : Prop where
  c : w.heap[gb]? = some (.cells #[m.vr, m.vd] 64 (0, 0))
  r : RowsAt w 29 3 m.vr n m.f (fun i => natCells (rowE n (E i)))
  d : RowsAt w 29 3 m.vd n m.fd (fun i => natCells (rowE n (D i)))
  gr : ¬ rowsOwn m.vr n m.f gb
  gd : ¬ rowsOwn m.vd n m.fd gb
  rd : ∀ k, rowsOwn m.vr n m.f k → ¬ rowsOwn m.vd n m.fd k
  n4 : n ≤ 4096
def Gm.own (m : Gm) (gb n k : Nat) : Prop := k = gb ∨ rowsOwn m.vr n m.f k ∨ rowsOwn m.vd n m.fd k
theorem GrAt.upd {w w' : World} {gb n : Nat} {m : Gm} {E D : Nat → Nat → Bool} (h : GrAt w gb n m E D) {S : Nat → Prop} (u : Upd w w' S) (hd : ∀ k, m.own gb n k → ¬ S k) : GrAt w' gb n m E D :=
  ⟨u.get h.c (hd gb (.inl rfl)), h.r.upd u (fun k q => hd k (.inr (.inl q))), h.d.upd u (fun k q => hd k (.inr (.inr q))), h.gr, h.gd, h.rd, h.n4⟩
theorem GrAt.lt {w : World} {gb n : Nat} {m : Gm} {E D : Nat → Nat → Bool} (h : GrAt w gb n m E D) {k : Nat} (hk : m.own gb n k) : k < w.heap.size := by
  rcases hk with rfl | hk | hk
  · exact lt_at h.c
  · exact h.r.lt hk
  · exact h.d.lt hk
theorem GrAt.congr {w : World} {gb n : Nat} {m : Gm} {E D E2 D2 : Nat → Nat → Bool} (h : GrAt w gb n m E D) (e : ∀ i k, i < n → k < n → E i k = E2 i k) (e2 : ∀ i k, i < n → k < n → D i k = D2 i k) : GrAt w gb n m E2 D2 :=
  ⟨h.c, h.r.congr (fun i hi => by
    congr 1
    exact List.filter_congr (fun k hk => e i k hi (List.mem_range.1 hk))), h.d.congr (fun i hi => by
    congr 1
    exact List.filter_congr (fun k hk => e2 i k hi (List.mem_range.1 hk))), h.gr, h.gd, h.rd, h.n4⟩
def addE (E : Nat → Nat → Bool) (a b : Nat) : Nat → Nat → Bool := fun i k => E i k || (decide (i = a) && decide (k = b))
/-- A slice of nodes that a function lays. -/
def NatRes (w : World) (l : List Nat) (e : Ending) (w' : World) : Prop :=
  ∃ a c, e = .returned (.slice a l.length c) ∧ Rw w' 3 1 (.slice a l.length c) l.length (natCells l) ∧ (∀ k, (Value.slice a l.length c).ownBlock = some k → w.heap.size ≤ k) ∧ Upd w w' (fun _ => False)
theorem info62 : (Try.prog.info? 29).map (fun i => (i.zero, i.size, i.bytes)) = some (some (.slice none 0 0), 1, 24) := by kernel_rfl
theorem mk62 (n : Nat) (hn : n ≤ 4096) (w : World) : (Instr.makeSlice 62 (.int .i64 (n : Int)) (.int .i64 (n : Int))).run Try.prog w = .ok (.slice (some ⟨w.heap.size, 0, none⟩) n n) (w.alloc (.cells (madeCells #[.slice none 0 0] n) 29)) := by
  obtain ⟨i0, hi, hz0, hz1, hz2⟩ := info_parts info62
  have h := run_make (P := Try.prog) w 62 29 i0 _ Try.underlying62 hi hz0 .i64 .i64 (n : Int) (n : Int) (by omega) (by omega) (by rw [hz2]; omega) (by omega)
  simp only [Int.toNat_natCast, hz1, Nat.mul_one] at h
  exact h
theorem New_no (w : World) (n : Int) (hn : n < 0 ∨ 4096 < n) : Calls Try.prog 22 #[.int .i64 n] w fun e w' => e = .returned (.tuple #[.pointer none, .int .i64 2]) ∧ w' = w := by
  by_cases h0 : n < 0
  · go_enter Try.func22, Try.ntmps22
    go_wp2
    go_ret2
    exact ⟨rfl, rfl⟩
  · have h1 : 4096 < n := by omega
    go_enter Try.func22, Try.ntmps22
    go_wp2
    go_ret2
    exact ⟨rfl, rfl⟩
theorem New_ok (w : World) (n : Nat) (hn : n ≤ 4096) : Calls Try.prog 22 #[.int .i64 (n : Int)] w fun e w' => ∃ gb m, e = .returned (.tuple #[.pointer (some ⟨gb, 0, none⟩), .int .i64 0]) ∧ GrAt w' gb n m (fun _ _ => false) (fun _ _ => false) ∧ (∀ k, m.own gb n k → w.heap.size ≤ k) ∧ Upd w w' (fun _ => False) := by
  have MK := mk62 n hn
  have h0 : ¬ (n : Int) < 0 := by omega
  have h1 : ¬ (4096 : Int) < (n : Int) := by omega
  have fin : ∀ a b, a ≠ b → ∀ W : World, W = (((w.alloc (.cells (madeCells #[.slice none 0 0] n) 29)).alloc (.cells (madeCells #[.slice none 0 0] n) 29)).alloc (.cells #[.slice (some ⟨w.heap.size + a, 0, none⟩) n n, .slice (some ⟨w.heap.size + b, 0, none⟩) n n] 64)) → a < 2 → b < 2 → GrAt W (w.heap.size + 2) n ⟨.slice (some ⟨w.heap.size + a, 0, none⟩) n n, .slice (some ⟨w.heap.size + b, 0, none⟩) n n, fun _ => .slice none 0 0, fun _ => .slice none 0 0⟩ (fun _ _ => false) (fun _ _ => false) := by
    intro a b hab W hW ha hb
    have key : ∀ c, c < 2 → RowsAt W 29 3 (.slice (some ⟨w.heap.size + c, 0, none⟩) n n) n (fun _ => .slice none 0 0) (fun i => natCells (rowE n ((fun _ _ => false : Nat → Nat → Bool) i))) := by
      intro c hc
      have e0 : (fun i => natCells (rowE n ((fun _ _ => false : Nat → Nat → Bool) i))) = fun _ => ([] : List Value) := by
        funext i
        simp [rowE, natCells, inCells]
      rw [e0, hW]
      have : c = 0 ∨ c = 1 := by omega
      rcases this with rfl | rfl
      · have h := RowsAt.made w 29 3 n
        have h2 := h.upd (((Upd.refl _ (fun _ => False)).alloc (.cells (madeCells #[.slice none 0 0] n) 29)).alloc (.cells #[.slice (some ⟨w.heap.size + a, 0, none⟩) n n, .slice (some ⟨w.heap.size + b, 0, none⟩) n n] 64)) (fun _ _ => id)
        simpa using h2
      · have h := RowsAt.made (w.alloc (.cells (madeCells #[.slice none 0 0] n) 29)) 29 3 n
        have h2 := h.upd ((Upd.refl _ (fun _ => False)).alloc (.cells #[.slice (some ⟨w.heap.size + a, 0, none⟩) n n, .slice (some ⟨w.heap.size + b, 0, none⟩) n n] 64)) (fun _ _ => id)
        simpa using h2
    refine ⟨?_, key a ha, key b hb, fun q => ?_, fun q => ?_, fun k q q2 => ?_, hn⟩
    · rw [hW]
      have := heap_alloc_new ((w.alloc (.cells (madeCells #[.slice none 0 0] n) 29)).alloc (.cells (madeCells #[.slice none 0 0] n) 29)) (.cells #[.slice (some ⟨w.heap.size + a, 0, none⟩) n n, .slice (some ⟨w.heap.size + b, 0, none⟩) n n] 64)
      simpa using this
    · have := rowsOwn_made q; omega
    · have := rowsOwn_made q; omega
    · have := rowsOwn_made q; have := rowsOwn_made q2; omega
  have HF := hide fin
  clear fin
  go_enter Try.func22, Try.ntmps22
  go_wp2_with fail
  go_region
  all_goals go_wp2_with fail
  all_goals go_ret2
  all_goals first
    | exact ⟨_, _, rfl, (HF.out 0 1 (by omega) _ rfl (by omega) (by omega)).upd (Upd.drew (Upd.refl _ (fun _ => False))) (fun _ _ => id), fun k hk => by
        rcases hk with rfl | hk | hk
        · omega
        · have := rowsOwn_made hk; omega
        · have := rowsOwn_made hk; omega, (((((Upd.refl w _).alloc _).alloc _).alloc _)).drew⟩
    | exact ⟨_, _, rfl, (HF.out 1 0 (by omega) _ rfl (by omega) (by omega)).upd (Upd.drew (Upd.refl _ (fun _ => False))) (fun _ _ => id), fun k hk => by
        rcases hk with rfl | hk | hk
        · omega
        · have := rowsOwn_made hk; omega
        · have := rowsOwn_made hk; omega, (((((Upd.refl w _).alloc _).alloc _).alloc _)).drew⟩
theorem Nodes_nil (w : World) : Calls Try.prog 24 #[.pointer none] w fun e w' => e = .returned (.int .i64 0) ∧ w' = w := by
  go_enter Try.func24, Try.ntmps24
  go_wp2
  go_ret
  exact ⟨rfl, rfl⟩
theorem slice_form {w : World} {e size : Nat} {v : Value} {n : Nat} {xs : List Value} (h : Rw w e size v n xs) : ∃ a c, v = .slice a n c := by
  obtain ⟨a, c, e, _⟩ := h.form
  exact ⟨a, c, e⟩
theorem Nodes_any {w : World} {gb n : Nat} {m : Gm} {E D : Nat → Nat → Bool} (h : GrAt w gb n m E D) : Calls Try.prog 24 #[.pointer (some ⟨gb, 0, none⟩)] w fun e w' => e = .returned (.int .i64 (n : Int)) ∧ w' = w := by
  obtain ⟨a, c, hv⟩ := slice_form h.r.spine
  have c0 := (cells2 h.c).1
  rw [hv] at c0
  clear h hv
  go_enter Try.func24, Try.ntmps24
  go_wp2
  go_ret
  exact ⟨rfl, rfl⟩
theorem has_nil (w : World) (z : Int) : Calls Try.prog 36 #[.pointer none, .int .i64 z] w fun e w' => e = .returned (.bool false) ∧ w' = w := by
  by_cases hz : 0 ≤ z
  · have h1 : ¬ z < 0 := by omega
    go_enter Try.func36, Try.ntmps36
    go_wp2_with (go_at_call 24; refine Calls.mono (Nodes_nil _) ?_; rintro e w1 ⟨rfl, rfl⟩)
    go_ret
    exact ⟨by simp [h1], rfl⟩
  · go_enter Try.func36, Try.ntmps36
    go_wp2_with fail
    go_ret
    exact ⟨rfl, rfl⟩
theorem has_any {w : World} {gb n : Nat} {m : Gm} {E D : Nat → Nat → Bool} (h : GrAt w gb n m E D) (z : Int) : Calls Try.prog 36 #[.pointer (some ⟨gb, 0, none⟩), .int .i64 z] w fun e w' => e = .returned (.bool (decide (0 ≤ z ∧ z < n))) ∧ w' = w := by
  have NN := Nodes_any h
  clear h
  by_cases hz : 0 ≤ z
  · by_cases h2 : z < n
    · go_enter Try.func36, Try.ntmps36
      go_wp2_with (go_at_call 24; refine Calls.mono NN ?_; rintro e w1 ⟨rfl, rfl⟩)
      go_ret
      exact ⟨by simp [hz, h2], rfl⟩
    · go_enter Try.func36, Try.ntmps36
      go_wp2_with (go_at_call 24; refine Calls.mono NN ?_; rintro e w1 ⟨rfl, rfl⟩)
      go_ret
      exact ⟨by simp; omega, rfl⟩
  · go_enter Try.func36, Try.ntmps36
    go_wp2_with fail
    go_ret
    exact ⟨by simp; omega, rfl⟩
end Go.Proofs.Ytnhggncpebifhaa
