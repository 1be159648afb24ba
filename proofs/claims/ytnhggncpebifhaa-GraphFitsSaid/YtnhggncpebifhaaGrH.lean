/- The walk of meet. -/
import Derived.Test.YtnhggncpebifhaaGrG
import Derived.Laws.Rows
set_option maxRecDepth 100000
namespace Go.Proofs.Ytnhggncpebifhaa
open Go.RowKit Go.Lat Go.Tarjan

theorem num_at {w : World} {e g n : Nat} {f : Nat → Nat} (h : Rw w e 1 (.slice (some ⟨g, 0, none⟩) n n) n (fRow n (numR f))) {t : Nat} (ht : t < n) : g < w.heap.size ∧ w.cell? ⟨g, t, none⟩ = some (.int .i64 (f t : Int)) ∧ w.frozen? ⟨g, t, none⟩ = false := by
  obtain ⟨g', off, hg, h1, h2, h3⟩ := Rw.cell1 h ht
  cases hg
  rw [Nat.zero_add] at h2 h3
  exact ⟨h1, h2, h3⟩
theorem bool_at {w : World} {e g n : Nat} {f : Nat → Bool} (h : Rw w e 1 (.slice (some ⟨g, 0, none⟩) n n) n (fRow n (boolR f))) {t : Nat} (ht : t < n) : g < w.heap.size ∧ w.cell? ⟨g, t, none⟩ = some (.bool (f t)) ∧ w.frozen? ⟨g, t, none⟩ = false := by
  obtain ⟨g', off, hg, h1, h2, h3⟩ := Rw.cell1 h ht
  cases hg
  rw [Nat.zero_add] at h2 h3
  exact ⟨h1, h2, h3⟩
set_option maxHeartbeats 1600000 in
theorem meet_any {w : World} {gb n : Nat} {m : Wm} {sa : Option Addr} {sc cnt : Nat} {idx low : Nat → Nat} {on : Nat → Bool} {stk : List Nat} {part : Nat → Nat} (h : WkG w gb n m sa sc cnt idx low on stk part) (t : Nat) (ht : t < n) (hcnt : cnt ≤ 1000000) (hlen : stk.length ≤ 1000000) :
    Calls Try.prog 43 #[.pointer (some ⟨m.b, 0, none⟩), .int .i64 (t : Int)] w fun e w' => ∃ sa' sc', e = .returned (.agg #[.int .i64 (t : Int), .int .i64 0]) ∧ WkG w' gb n m sa' sc' (cnt + 1) (upd idx t (cnt + 1)) (upd low t (cnt + 1)) (updF on t true) (t :: stk) part ∧ (∀ k, m.own sa' k → m.own sa k ∨ w.heap.size ≤ k) ∧ Upd w w' (fun k => m.own sa k) := by
  have c0 := cells7 h.c
  obtain ⟨c0, c1, c2, c3, c4, c5, c6⟩ := c0
  have hb := lt_at h.c
  have w1 : IntKind.i64.wrap ((cnt : Int) + 1) = (cnt : Int) + 1 := IntWalk.i64_in _ (by omega)
  have z1 := free_at h.c 1
  have u0 : Upd w ((w.setCell ⟨m.b, 1, none⟩ (.int .i64 ((cnt : Int) + 1))).alloc (.cells #[.int .i64 0, .int .i64 0] 74)) (fun k => m.own sa k) := ((Upd.refl w _).setCell _ _ (.inr (.inl (by simp [Wm.bs])))).alloc _
  have h1 := (h.setCnt (cnt + 1)).upd ((Upd.refl _ (fun _ => False)).alloc (.cells #[.int .i64 0, .int .i64 0] 74)) (fun _ _ => id)
  have f1 := heap_alloc_new (w.setCell ⟨m.b, 1, none⟩ (.int .i64 ((cnt : Int) + 1))) (.cells #[.int .i64 0, .int .i64 0] 74)
  have e1 : (((cnt + 1 : Nat) : Nat) : Int) = (cnt : Int) + 1 := by omega
  rw [e1] at h1
  have hsz : (w.setCell ⟨m.b, 1, none⟩ (.int .i64 ((cnt : Int) + 1))).heap.size = w.heap.size := by simp [World.setCell]
  rw [hsz] at f1
  have HLT := hide (fun k => h.lt (k := k))
  have H1 := hide h1
  have F1 := hide f1
  have U0 := hide u0
  clear h h1 f1 u0 e1 hsz
  go_enter Try.func43, Try.ntmps43
  go_upto_region 2 with fail
  clear c0 c1 c2 c3 c4 c5 c6 hb w1 z1
  obtain ⟨W, hW⟩ : ∃ W, (w.setCell ⟨m.b, 1, none⟩ (.int .i64 ((cnt : Int) + 1))).alloc (.cells #[.int .i64 0, .int .i64 0] 74) = W := ⟨_, rfl⟩
  simp only [hW] at H1 F1 U0 ⊢
  clear hW
  obtain ⟨C, hC⟩ : ∃ C, w.heap.size = C := ⟨_, rfl⟩
  have HC := hide hC
  simp only [hC] at F1 ⊢
  clear hC
  have cnb : ∀ k, m.own sa k → k ≠ C := fun k q e => by have := HLT.out k q; have := HC.out; omega
  have CNB := hide cnb
  go_cut [] (fun wx => WkG wx gb n m sa sc (cnt + 1) (upd idx t (cnt + 1)) (upd low t (cnt + 1)) on stk part ∧ wx.heap[C]? = some (.cells #[.int .i64 0, .int .i64 0] 74 (0, 0)) ∧ Upd w wx (fun k => m.own sa k))
  case first =>
    obtain ⟨d0, d1, d2, d3, d4, d5, d6⟩ := cells7 H1.out.c
    have hb := lt_at H1.out.c
    obtain ⟨bi, i1, i2⟩ := num_at H1.out.i ht
    obtain ⟨bl, l1, l2⟩ := num_at H1.out.l ht
    have n1 := H1.out.ne.bi
    have n2 := H1.out.ne.bl
    have n3 := H1.out.ne.il
    have t0 : (0 : Int) ≤ (t : Int) := by omega
    have t1 : (t : Int) < (n : Int) := by omega
    clear cnb
    go_region
    all_goals go_wp2_with fail
    all_goals go_meet
    have e1 : (((cnt + 1 : Nat) : Nat) : Int) = (cnt : Int) + 1 := by omega
    have q := ((H1.out.setIdx ht (cnt + 1)).setLow ht (cnt + 1)).drew
    rw [e1] at q
    refine ⟨q, ?_, ((U0.out.setCell _ _ (.inr (.inl (by simp [Wm.bs])))).setCell _ _ (.inr (.inl (by simp [Wm.bs])))).drew⟩
    have ni : C ≠ m.i := fun e => CNB.out m.i (.inl (by simp [Wm.bs])) e.symm
    have nl : C ≠ m.l := fun e => CNB.out m.l (.inl (by simp [Wm.bs])) e.symm
    show ((W.setCell _ _).setCell _ _).heap[C]? = _
    rw [Below.heap_setCell _ _ _ _ (by simpa using nl), Below.heap_setCell _ _ _ _ (by simpa using ni)]
    exact F1.out
  case rest =>
    obtain ⟨h2, f2, u2⟩ := hcut
    obtain ⟨i0, hi, hz0, hz1, hz2⟩ := info_parts Try.info3
    obtain ⟨d0, d1, d2, d3, d4, d5, d6⟩ := cells7 h2.c
    have hb := lt_at h2.c
    have z5 := free_at h2.c 5
    have hk := h2.k
    have t0 : (0 : Int) ≤ (t : Int) := by omega
    have t1 : (t : Int) < (n : Int) := by omega
    have H2 := hide h2
    have F2 := hide f2
    have U2 := hide u2
    have HK := hide hk
    clear h2 f2 u2 hk H1 F1 U0 cnb
    go_upto_region 4 with (at_builtin; go_loud (refine wpList_append_rw _ rfl _ _ 29 29 rfl 3 _ i0 _ 1 8 Try.underlying29 Try.underlying29 (by simp) hi hz0 hz1 hz2 rfl _ stk.length _ rfl (HK.out.alloc _) _ 1 [.int .i64 (t : Int)] rfl (Rw.made wc #[.int .i64 (t : Int)] 3 1 1 rfl).src rfl (by simp [Value.oneCell']) (by omega) (by omega) ?_); intro ga gc w4 hv' hg hob'; have u4 : Upd wc w4 (fun k => (Value.slice sa stk.length sc).ownBlock = some k) := ((Upd.refl wc _).alloc _).grown hg (fun k e => .inr e); have d5' := (u4.cell m.b 5 hb (H2.out.kb (by simp [Wm.bs]))).trans d5; have z5' : w4.frozen? ⟨m.b, 5, none⟩ = false := (frozen_of u4 hb (H2.out.kb (by simp [Wm.bs]))).trans z5; have hb4 := Nat.lt_of_lt_of_le hb u4.size)
    clear d0 d1 d2 d3 d4 d5 d6 hb z5 d5' z5' hb4
    have kr : natCells stk.reverse ++ [Value.int .i64 (t : Int)] = natCells (t :: stk).reverse := by simp [natCells, inCells]
    rw [kr] at hv'
    have kn : ∀ k, (Value.slice ga (t :: stk).length gc).ownBlock = some k → m.own sa k ∨ wc.heap.size ≤ k := fun k q => by
      rcases hob' with e | e
      · exact .inl (.inr ((own_slice sa _ _ _ _).trans (e.symm.trans q)))
      · have := Option.some.inj (e.symm.trans q); simp at this; omega
    have kn2 : ∀ k, (Value.slice ga (t :: stk).length gc).ownBlock = some k → k ∉ m.bs := fun k q q2 => by
      rcases hob' with e | e
      · exact H2.out.kn k (e.symm.trans q) q2
      · have := Option.some.inj (e.symm.trans q)
        have := H2.out.lt (.inl q2)
        simp at *
        omega
    have h3 := H2.out.setStk (stk2 := t :: stk) u4 (fun k q e => H2.out.kn k e q) hv' kn2
    have f3 : (w4.setCell ⟨m.b, 5, none⟩ (.slice ga (t :: stk).length gc)).heap[C]? = some (.cells #[.int .i64 0, .int .i64 0] 74 (0, 0)) := by
      have nb : C ≠ m.b := fun e => CNB.out m.b (.inl (by simp [Wm.bs])) e.symm
      rw [Below.heap_setCell _ _ _ _ (by simpa using nb)]
      exact u4.get F2.out (fun e => CNB.out C (.inr ((own_slice sa _ _ _ _).trans e)) rfl)
    have u5 : Upd w (w4.setCell ⟨m.b, 5, none⟩ (.slice ga (t :: stk).length gc)) (fun k => m.own sa k) := (U2.out.then u4 (fun k _ e => .inr ((own_slice sa _ _ _ _).trans e))).setCell _ _ (.inr (.inl (by simp [Wm.bs])))
    have kn3 : ∀ k, m.own ga k → m.own sa k ∨ w.heap.size ≤ k := fun k q => by
      rcases q with q | q
      · exact .inl (.inl q)
      · rcases kn k ((own_slice ga _ _ _ _).trans q) with q | q
        · exact .inl q
        · exact .inr (Nat.le_trans U2.out.size q)
    have knc : ∀ k, m.own ga k → k ≠ C := fun k q e => by
      rcases q with q | q
      · exact CNB.out k (.inl q) e
      · rcases kn k ((own_slice ga _ _ _ _).trans q) with q | q
        · exact CNB.out k q e
        · have := lt_at F2.out; omega
    have KNC := hide knc
    clear knc
    obtain ⟨W5, hW5⟩ : ∃ W5, w4.setCell ⟨m.b, 5, none⟩ (.slice ga (stk.length + 1) gc) = W5 := ⟨_, rfl⟩
    simp only [List.length_cons, hW5] at h3 f3 u5 ⊢
    obtain ⟨d0, d1, d2, d3, d4, d5, d6⟩ := cells7 h3.c
    have hb := lt_at h3.c
    obtain ⟨bo, o1, o2⟩ := bool_at h3.o ht
    obtain ⟨y0, y1⟩ := cells2 f3
    have yl := lt_at f3
    have yz := free_at f3 0
    have yz1 := free_at f3 1
    have nc : m.o ≠ C := fun e => CNB.out m.o (.inl (by simp [Wm.bs])) e
    have H3 := hide h3
    have F3 := hide f3
    have U5 := hide u5
    have KN3 := hide kn3
    clear h3 f3 u5 kn3 kn kn2 hW5 u4 hv' hg hob' kr
    go_wp2_with fail
    have hF : (((W5.setCell ⟨m.o, t, none⟩ (.bool true)).setCell ⟨C, 0, none⟩ (.int .i64 (t : Int))).setCell ⟨C, 1, none⟩ (.int .i64 0)).heap[C]? = some (.cells #[.int .i64 (t : Int), .int .i64 0] 74 (0, 0)) := by
      have q0 : (W5.setCell ⟨m.o, t, none⟩ (.bool true)).heap[C]? = some (.cells #[.int .i64 0, .int .i64 0] 74 (0, 0)) := by
        rw [Below.heap_setCell _ _ _ _ (by simpa using (Ne.symm nc))]
        exact F3.out
      have := block_setCell (block_setCell q0 0 (.int .i64 (t : Int))) 1 (.int .i64 0)
      simpa using this
    have cnw : w.heap.size ≤ C := Nat.le_of_eq HC.out
    refine bodyPost_ret (results_cell_row rfl _ _ C _ _ _ _ rfl hF Try.underlying74 rfl (by kernel_rfl)) rfl ?_
    have q1 := H3.out.setOn ht true
    have q2 := q1.upd (((Upd.refl _ (fun k => k = C)).setCell ⟨C, 0, none⟩ (.int .i64 (t : Int)) (.inr rfl)).setCell ⟨C, 1, none⟩ (.int .i64 0) (.inr rfl)) (fun k q e => by
      exact KNC.out k q e)
    exact ⟨ga, gc, rfl, q2, KN3.out, ((U5.out.setCell _ _ (.inr (.inl (by simp [Wm.bs])))).setCell _ _ (.inl cnw)).setCell _ _ (.inl cnw)⟩
end Go.Proofs.Ytnhggncpebifhaa
