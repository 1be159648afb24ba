/- The method step, some of its ways. -/
import Derived.Test.YtfbmhfpffciojaaStep
set_option maxRecDepth 100000
namespace Go.Proofs.Ytfbmhfpffciojaa
open Go.RowKit Go.Lat

set_option maxHeartbeats 3200000 in
theorem step_none_f (w : World) (eb : Nat) (own : Nat → Nat) (V : Bool → Vs) (s : Bool → Sd) (dv at_ : Int) (hE : EndsAt w eb own V s) (sm : Small s) (K : Int) (hK : (wrap64 (dv.tmod 7 + 7)).tmod 7 = K) (h3 : 3 ≤ K) (hn : (s false).way = []) :
    Calls Try.prog 9 #[.pointer (some ⟨eb, 0, none⟩), .agg #[.int .i64 dv, .int .i64 at_, .bool false]] w (StepPost w eb own false s) := by
  obtain ⟨i0, hi0, hz0, hz1, hz2⟩ := info_parts Try.info41
  obtain ⟨j0, hj0, jz0, jz1, jz2⟩ := info_parts Try.info9
  have M1 := (Mid.begin hE).upd' ((Upd.refl w (fun _ => False)).alloc (.cells #[.int .i64 dv, .int .i64 at_, .bool false] 28))
  generalize (newOwn own w.heap.size 99) = own1 at M1
  obtain ⟨c0, c1, c2, c3, c4, c5, c6, c7⟩ := M1.at_.cells
  have heb := lt_at M1.at_.blk
  have hebw := lt_at hE.blk
  have HB := hide M1.at_.blk
  have wa : IntKind.i64.wrap 1 = 1 := IntWalk.i64_in _ (by omega)
  have wb : IntKind.i64.wrap 0 = 0 := IntWalk.i64_in _ (by omega)
  have hwy := M1.at_.wy false
  obtain ⟨sa, sc, hve, -⟩ := Rw.form hwy
  have l1 := sm.way false
  obtain ⟨N, hN⟩ : ∃ N, (s false).way.length = N := ⟨_, rfl⟩
  rw [FrsAt, hN] at hwy
  rw [hN] at hve l1

  have hN0 : N = 0 := by rw [← hN, hn]; rfl
  subst hN0
  rw [hve] at c2
  have e0 : (K == 0) = false := by simp; omega
  have e1 : (K == 1) = false := by simp; omega
  have e2 : (K == 2) = false := by simp; omega
  have e3 : decide (K < 3) = false := by simp; omega
  go_enter Try.func9, Try.ntmps9
  go_wp2_with fail
  go_end0
  exact ⟨rfl, _, _, _, M1, .inl rfl⟩

set_option maxHeartbeats 3200000 in
theorem step_none_t (w : World) (eb : Nat) (own : Nat → Nat) (V : Bool → Vs) (s : Bool → Sd) (dv at_ : Int) (hE : EndsAt w eb own V s) (sm : Small s) (K : Int) (hK : (wrap64 (dv.tmod 7 + 7)).tmod 7 = K) (h3 : 3 ≤ K) (hn : (s true).way = []) :
    Calls Try.prog 9 #[.pointer (some ⟨eb, 0, none⟩), .agg #[.int .i64 dv, .int .i64 at_, .bool true]] w (StepPost w eb own true s) := by
  obtain ⟨i0, hi0, hz0, hz1, hz2⟩ := info_parts Try.info41
  obtain ⟨j0, hj0, jz0, jz1, jz2⟩ := info_parts Try.info9
  have M1 := (Mid.begin hE).upd' ((Upd.refl w (fun _ => False)).alloc (.cells #[.int .i64 dv, .int .i64 at_, .bool true] 28))
  generalize (newOwn own w.heap.size 99) = own1 at M1
  obtain ⟨c0, c1, c2, c3, c4, c5, c6, c7⟩ := M1.at_.cells
  have heb := lt_at M1.at_.blk
  have hebw := lt_at hE.blk
  have HB := hide M1.at_.blk
  have wa : IntKind.i64.wrap 1 = 1 := IntWalk.i64_in _ (by omega)
  have wb : IntKind.i64.wrap 0 = 0 := IntWalk.i64_in _ (by omega)
  have hwy := M1.at_.wy true
  obtain ⟨sa, sc, hve, -⟩ := Rw.form hwy
  have l1 := sm.way true
  obtain ⟨N, hN⟩ : ∃ N, (s true).way.length = N := ⟨_, rfl⟩
  rw [FrsAt, hN] at hwy
  rw [hN] at hve l1

  have hN0 : N = 0 := by rw [← hN, hn]; rfl
  subst hN0
  rw [hve] at c3
  have e0 : (K == 0) = false := by simp; omega
  have e1 : (K == 1) = false := by simp; omega
  have e2 : (K == 2) = false := by simp; omega
  have e3 : decide (K < 3) = false := by simp; omega
  go_enter Try.func9, Try.ntmps9
  go_wp2_with fail
  go_end0
  exact ⟨rfl, _, _, _, M1, .inl rfl⟩

set_option maxHeartbeats 3200000 in
theorem step_drop_f (w : World) (eb : Nat) (own : Nat → Nat) (V : Bool → Vs) (s : Bool → Sd) (dv at_ : Int) (hE : EndsAt w eb own V s) (sm : Small s) (hK : (wrap64 (dv.tmod 7 + 7)).tmod 7 = 4) (hn : 0 < (s false).way.length) :
    Calls Try.prog 9 #[.pointer (some ⟨eb, 0, none⟩), .agg #[.int .i64 dv, .int .i64 at_, .bool false]] w (StepPost w eb own false s) := by
  obtain ⟨i0, hi0, hz0, hz1, hz2⟩ := info_parts Try.info41
  obtain ⟨j0, hj0, jz0, jz1, jz2⟩ := info_parts Try.info9
  have M1 := (Mid.begin hE).upd' ((Upd.refl w (fun _ => False)).alloc (.cells #[.int .i64 dv, .int .i64 at_, .bool false] 28))
  generalize (newOwn own w.heap.size 99) = own1 at M1
  obtain ⟨c0, c1, c2, c3, c4, c5, c6, c7⟩ := M1.at_.cells
  have heb := lt_at M1.at_.blk
  have hebw := lt_at hE.blk
  have HB := hide M1.at_.blk
  have wa : IntKind.i64.wrap 1 = 1 := IntWalk.i64_in _ (by omega)
  have wb : IntKind.i64.wrap 0 = 0 := IntWalk.i64_in _ (by omega)
  have hwy := M1.at_.wy false
  obtain ⟨sa, sc, hve, -⟩ := Rw.form hwy
  have l1 := sm.way false
  obtain ⟨N, hN⟩ : ∃ N, (s false).way.length = N := ⟨_, rfl⟩
  rw [FrsAt, hN] at hwy
  rw [hN] at hve l1

  have hn0 : 0 < N := hN ▸ hn
  obtain ⟨i, ei⟩ : ∃ i : Nat, max 0 at_ % (N : Int) = (i : Int) := ⟨(max 0 at_ % (N : Int)).toNat, by rw [Int.toNat_of_nonneg (Int.emod_nonneg _ (by omega))]⟩
  have hiN : i < N := by have := Int.emod_lt_of_pos (max 0 at_) (show (0 : Int) < N by omega); omega
  have et : (max 0 at_).tmod (N : Int) = (i : Int) := by rw [Int.tmod_eq_emod_of_nonneg (by omega)]; exact ei
  have hNz : (N : Int) ≠ 0 := by omega
  have hNb : ((N : Int) == 0) = false := by simp; omega
  have hN00 : (0 : Nat) < N := hn0

  have D0 := heap_alloc_new w (.cells #[.int .i64 dv, .int .i64 at_, .bool false] 28)
  rw [hve] at c2
  go_enter Try.func9, Try.ntmps9
  go_upto_region 15 with fail
  go_quiet (fail)
  go_upto_region 19 with fail
  have M2 := M1.upd' ((Upd.refl (w.alloc (.cells #[.int .i64 dv, .int .i64 at_, .bool false] 28)) (fun _ => False)).drewN nq)
  clear M1 c0 c1 c2 c3 c4 c5 c6 c7 HB heb hve hwy D0 et ei hNz hNb
  generalize ((w.alloc (.cells #[.int .i64 dv, .int .i64 at_, .bool false] 28)).drewN nq) = wx at M2 ⊢
  obtain ⟨c0, c1, c2, c3, c4, c5, c6, c7⟩ := M2.at_.cells
  have f2 := free_at M2.at_.blk 2
  have heb := lt_at M2.at_.blk
  have HB := hide M2.at_.blk
  have hwy := M2.at_.wy false
  rw [FrsAt, hN] at hwy
  have nwc : (V false).wv.ownBlock ≠ some eb := fun e => by have h1 := M2.at_.ow false _ e; rw [M2.at_.oe] at h1; simp at h1
  obtain ⟨a1, p1, hr1, hw1, ho1⟩ := hwy.slice_to (P := Try.prog) 38 i0 Try.underlying38 hi0 hz1 i (by omega)
  obtain ⟨a2, p2, hr2, hw2, ho2⟩ := hwy.slice_from (P := Try.prog) 38 i0 Try.underlying38 hi0 hz1 (i + 1) (by omega)
  have ei : ((i + 1 : Nat) : Int) = (i : Int) + 1 := by omega
  rw [ei] at hr2
  clear ei
  have m1 : ∀ x ∈ (frCells (s false).way).take (i * 3), x.oneCell' = true := fun x hx => frCells_one _ x (List.mem_of_mem_take hx)
  have m2 : ∀ x ∈ (frCells (s false).way).drop ((i + 1) * 3), x.oneCell' = true := fun x hx => frCells_one _ x (List.mem_of_mem_drop hx)
  have wz : IntKind.i64.wrap ((i : Int) + 1) = (i : Int) + 1 := IntWalk.i64_in _ (by omega)
  go_region_law (first
      | (refine step_append_rw _ (o := ⟨some 148, _, _, _, _, _⟩) (by rfl) _ _ 38 38 (by rfl) 41 _ i0 _ 3 32 Try.underlying38 Try.underlying38 (by simp) hi0 hz0 hz1 hz2 rfl _ 0 [] (by rfl) (Rw.nil _ _ _) _ i _ (by rfl) (hw1.drew).src (hw1.drew).1 m1 (by omega) (by omega) ?_; intro g1 q1 wA hA1 hgA hoA; simp only [Nat.zero_add, List.nil_append] at hA1 hoA; have nA : (Value.slice g1 i q1).ownBlock ≠ some eb := (by rcases hoA with e | e <;> rw [e] <;> simp [Value.ownBlock]; omega); have cA := (hgA.cell_far ⟨eb, 2, none⟩ (by simpa using heb) (by simp [Value.ownBlock])).trans c2)
      | (refine step_append_rw _ (o := ⟨some 158, _, _, _, _, _⟩) (by rfl) _ _ 38 38 (by rfl) 41 _ i0 _ 3 32 Try.underlying38 Try.underlying38 (by simp) hi0 hz0 hz1 hz2 rfl _ _ _ (by rfl) hA1 _ (N - (i + 1)) _ (by rfl) ((hw2.drew).grown hgA (Classical.em _)).src (hw2.drew).1 m2 (by omega) (by omega) ?_; intro g2 q2 wB hB1 hgB hoB; have bB := block_grown hgB (block_grown hgA HB.out (by simp [Value.ownBlock])) nA; have cB := cell_at bB 2 _ rfl; have fB := free_at bB 2; have HBB := hide bB; clear bB))
  all_goals
    go_wp2_with fail
    go_end0
    have nB : (Value.slice g2 (i + (N - (i + 1))) q2).ownBlock ≠ some eb := by
      rcases hoB with e | e <;> rw [e]
      · exact nA
      · have := hgA.size; simp at this; simp; omega
    have hln : (dropAt (s false).way i).length = i + (N - (i + 1)) := by simp [dropAt, hN]; omega
    have M4 := M2.setWay (w' := wB.setCell ⟨eb, 2, none⟩ (.slice g2 (i + (N - (i + 1))) q2)) false (.slice g2 (i + (N - (i + 1))) q2) (dropAt (s false).way i) (by
        refine ((((Upd.refl wx (fun k => k = eb ∨ (V false).wv.ownBlock = some k)).drew).grown hgA (fun k hk => by simp [Value.ownBlock] at hk)).grown hgB (fun k hk => ?_)).setCell ⟨eb, 2, none⟩ _ (.inr (.inl rfl))
        rcases hoA with e | e <;> rw [e] at hk <;> simp [Value.ownBlock] at hk
        omega) (block_setCell HBB.out 2 _) (by
        have := hB1.setCell ⟨eb, 2, none⟩ (.slice g2 (i + (N - (i + 1))) q2) nB
        rw [FrsAt, hln, dropAt, frCells_app, ← frCells_take, ← frCells_drop]
        exact this) (by
        intro k hk
        rcases hoB with e | e
        · rw [e] at hk
          rcases hoA with e' | e' <;> rw [e'] at hk <;> simp [Value.ownBlock] at hk
          exact .inr (by omega)
        · rw [e] at hk; simp at hk; have := hgA.size; simp at this; exact .inr (by omega))
    exact ⟨rfl, _, _, _, M4, .inr (.inr (.inr (.inr (.inl ⟨i, rfl⟩))))⟩

set_option maxHeartbeats 3200000 in
theorem step_drop_t (w : World) (eb : Nat) (own : Nat → Nat) (V : Bool → Vs) (s : Bool → Sd) (dv at_ : Int) (hE : EndsAt w eb own V s) (sm : Small s) (hK : (wrap64 (dv.tmod 7 + 7)).tmod 7 = 4) (hn : 0 < (s true).way.length) :
    Calls Try.prog 9 #[.pointer (some ⟨eb, 0, none⟩), .agg #[.int .i64 dv, .int .i64 at_, .bool true]] w (StepPost w eb own true s) := by
  obtain ⟨i0, hi0, hz0, hz1, hz2⟩ := info_parts Try.info41
  obtain ⟨j0, hj0, jz0, jz1, jz2⟩ := info_parts Try.info9
  have M1 := (Mid.begin hE).upd' ((Upd.refl w (fun _ => False)).alloc (.cells #[.int .i64 dv, .int .i64 at_, .bool true] 28))
  generalize (newOwn own w.heap.size 99) = own1 at M1
  obtain ⟨c0, c1, c2, c3, c4, c5, c6, c7⟩ := M1.at_.cells
  have heb := lt_at M1.at_.blk
  have hebw := lt_at hE.blk
  have HB := hide M1.at_.blk
  have wa : IntKind.i64.wrap 1 = 1 := IntWalk.i64_in _ (by omega)
  have wb : IntKind.i64.wrap 0 = 0 := IntWalk.i64_in _ (by omega)
  have hwy := M1.at_.wy true
  obtain ⟨sa, sc, hve, -⟩ := Rw.form hwy
  have l1 := sm.way true
  obtain ⟨N, hN⟩ : ∃ N, (s true).way.length = N := ⟨_, rfl⟩
  rw [FrsAt, hN] at hwy
  rw [hN] at hve l1

  have hn0 : 0 < N := hN ▸ hn
  obtain ⟨i, ei⟩ : ∃ i : Nat, max 0 at_ % (N : Int) = (i : Int) := ⟨(max 0 at_ % (N : Int)).toNat, by rw [Int.toNat_of_nonneg (Int.emod_nonneg _ (by omega))]⟩
  have hiN : i < N := by have := Int.emod_lt_of_pos (max 0 at_) (show (0 : Int) < N by omega); omega
  have et : (max 0 at_).tmod (N : Int) = (i : Int) := by rw [Int.tmod_eq_emod_of_nonneg (by omega)]; exact ei
  have hNz : (N : Int) ≠ 0 := by omega
  have hNb : ((N : Int) == 0) = false := by simp; omega
  have hN00 : (0 : Nat) < N := hn0

  have D0 := heap_alloc_new w (.cells #[.int .i64 dv, .int .i64 at_, .bool true] 28)
  rw [hve] at c3
  go_enter Try.func9, Try.ntmps9
  go_upto_region 15 with fail
  go_quiet (fail)
  go_upto_region 19 with fail
  have M2 := M1.upd' ((Upd.refl (w.alloc (.cells #[.int .i64 dv, .int .i64 at_, .bool true] 28)) (fun _ => False)).drewN nq)
  clear M1 c0 c1 c2 c3 c4 c5 c6 c7 HB heb hve hwy D0 et ei hNz hNb
  generalize ((w.alloc (.cells #[.int .i64 dv, .int .i64 at_, .bool true] 28)).drewN nq) = wx at M2 ⊢
  obtain ⟨c0, c1, c2, c3, c4, c5, c6, c7⟩ := M2.at_.cells
  have f3 := free_at M2.at_.blk 3
  have heb := lt_at M2.at_.blk
  have HB := hide M2.at_.blk
  have hwy := M2.at_.wy true
  rw [FrsAt, hN] at hwy
  have nwc : (V true).wv.ownBlock ≠ some eb := fun e => by have h1 := M2.at_.ow true _ e; rw [M2.at_.oe] at h1; simp at h1
  obtain ⟨a1, p1, hr1, hw1, ho1⟩ := hwy.slice_to (P := Try.prog) 38 i0 Try.underlying38 hi0 hz1 i (by omega)
  obtain ⟨a2, p2, hr2, hw2, ho2⟩ := hwy.slice_from (P := Try.prog) 38 i0 Try.underlying38 hi0 hz1 (i + 1) (by omega)
  have ei : ((i + 1 : Nat) : Int) = (i : Int) + 1 := by omega
  rw [ei] at hr2
  clear ei
  have m1 : ∀ x ∈ (frCells (s true).way).take (i * 3), x.oneCell' = true := fun x hx => frCells_one _ x (List.mem_of_mem_take hx)
  have m2 : ∀ x ∈ (frCells (s true).way).drop ((i + 1) * 3), x.oneCell' = true := fun x hx => frCells_one _ x (List.mem_of_mem_drop hx)
  have wz : IntKind.i64.wrap ((i : Int) + 1) = (i : Int) + 1 := IntWalk.i64_in _ (by omega)
  go_region_law (first
      | (refine step_append_rw _ (o := ⟨some 148, _, _, _, _, _⟩) (by rfl) _ _ 38 38 (by rfl) 41 _ i0 _ 3 32 Try.underlying38 Try.underlying38 (by simp) hi0 hz0 hz1 hz2 rfl _ 0 [] (by rfl) (Rw.nil _ _ _) _ i _ (by rfl) (hw1.drew).src (hw1.drew).1 m1 (by omega) (by omega) ?_; intro g1 q1 wA hA1 hgA hoA; simp only [Nat.zero_add, List.nil_append] at hA1 hoA; have nA : (Value.slice g1 i q1).ownBlock ≠ some eb := (by rcases hoA with e | e <;> rw [e] <;> simp [Value.ownBlock]; omega); have cA := (hgA.cell_far ⟨eb, 3, none⟩ (by simpa using heb) (by simp [Value.ownBlock])).trans c3)
      | (refine step_append_rw _ (o := ⟨some 158, _, _, _, _, _⟩) (by rfl) _ _ 38 38 (by rfl) 41 _ i0 _ 3 32 Try.underlying38 Try.underlying38 (by simp) hi0 hz0 hz1 hz2 rfl _ _ _ (by rfl) hA1 _ (N - (i + 1)) _ (by rfl) ((hw2.drew).grown hgA (Classical.em _)).src (hw2.drew).1 m2 (by omega) (by omega) ?_; intro g2 q2 wB hB1 hgB hoB; have bB := block_grown hgB (block_grown hgA HB.out (by simp [Value.ownBlock])) nA; have cB := cell_at bB 3 _ rfl; have fB := free_at bB 3; have HBB := hide bB; clear bB))
  all_goals
    go_wp2_with fail
    go_end0
    have nB : (Value.slice g2 (i + (N - (i + 1))) q2).ownBlock ≠ some eb := by
      rcases hoB with e | e <;> rw [e]
      · exact nA
      · have := hgA.size; simp at this; simp; omega
    have hln : (dropAt (s true).way i).length = i + (N - (i + 1)) := by simp [dropAt, hN]; omega
    have M4 := M2.setWay (w' := wB.setCell ⟨eb, 3, none⟩ (.slice g2 (i + (N - (i + 1))) q2)) true (.slice g2 (i + (N - (i + 1))) q2) (dropAt (s true).way i) (by
        refine ((((Upd.refl wx (fun k => k = eb ∨ (V true).wv.ownBlock = some k)).drew).grown hgA (fun k hk => by simp [Value.ownBlock] at hk)).grown hgB (fun k hk => ?_)).setCell ⟨eb, 3, none⟩ _ (.inr (.inl rfl))
        rcases hoA with e | e <;> rw [e] at hk <;> simp [Value.ownBlock] at hk
        omega) (block_setCell HBB.out 3 _) (by
        have := hB1.setCell ⟨eb, 3, none⟩ (.slice g2 (i + (N - (i + 1))) q2) nB
        rw [FrsAt, hln, dropAt, frCells_app, ← frCells_take, ← frCells_drop]
        exact this) (by
        intro k hk
        rcases hoB with e | e
        · rw [e] at hk
          rcases hoA with e' | e' <;> rw [e'] at hk <;> simp [Value.ownBlock] at hk
          exact .inr (by omega)
        · rw [e] at hk; simp at hk; have := hgA.size; simp at this; exact .inr (by omega))
    exact ⟨rfl, _, _, _, M4, .inr (.inr (.inr (.inr (.inl ⟨i, rfl⟩))))⟩
end Go.Proofs.Ytfbmhfpffciojaa
