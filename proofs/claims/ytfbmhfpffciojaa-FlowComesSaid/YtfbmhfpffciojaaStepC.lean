/- The method step, some of its ways. -/
import Derived.Test.YtfbmhfpffciojaaStep
set_option maxRecDepth 100000
namespace Go.Proofs.Ytfbmhfpffciojaa
open Go.RowKit Go.Lat

set_option maxHeartbeats 3200000 in
theorem step_dup_f (w : World) (eb : Nat) (own : Nat → Nat) (V : Bool → Vs) (s : Bool → Sd) (dv at_ : Int) (hE : EndsAt w eb own V s) (sm : Small s) (hK : (wrap64 (dv.tmod 7 + 7)).tmod 7 = 5) (hn : 0 < (s false).way.length) :
    Calls Try.prog 9 #[.pointer (some ⟨eb, 0, none⟩), .agg #[.int .i64 dv, .int .i64 at_, .bool false]] w (StepPost w eb own false s) := by
  obtain ⟨i0, hi0, hz0, hz1, hz2⟩ := info_parts Try.info41
  obtain ⟨j0, hj0, jz0, jz1, jz2⟩ := info_parts Try.info9
  have M1 := (Mid.begin hE).upd' ((Upd.refl w (fun _ => False)).alloc (.cells #[.int .i64 dv, .int .i64 at_, .bool false] 28))
  generalize (newOwn own w.heap.size 99) = own1 at M1
  obtain ⟨c0, c1, c2, c3, c4, c5, c6, c7⟩ := M1.at_.cells
  have heb := lt_at M1.at_.blk
  have hebw := lt_at hE.blk
  have HB := hide M1.at_.blk
  have wa : IntKind.i64.wrap 1 = 1 := IntWalk.i64_in _ (by omega)
  have wb : IntKind.i64.wrap 0 = 0 := IntWalk.i64_in _ (by omega)
  have hwy := M1.at_.wy false
  obtain ⟨sa, sc, hve, -⟩ := Rw.form hwy
  have l1 := sm.way false
  obtain ⟨N, hN⟩ : ∃ N, (s false).way.length = N := ⟨_, rfl⟩
  rw [FrsAt, hN] at hwy
  rw [hN] at hve l1

  have hn0 : 0 < N := hN ▸ hn
  obtain ⟨i, ei⟩ : ∃ i : Nat, max 0 at_ % (N : Int) = (i : Int) := ⟨(max 0 at_ % (N : Int)).toNat, by rw [Int.toNat_of_nonneg (Int.emod_nonneg _ (by omega))]⟩
  have hiN : i < N := by have := Int.emod_lt_of_pos (max 0 at_) (show (0 : Int) < N by omega); omega
  have et : (max 0 at_).tmod (N : Int) = (i : Int) := by rw [Int.tmod_eq_emod_of_nonneg (by omega)]; exact ei
  have hNz : (N : Int) ≠ 0 := by omega
  have hNb : ((N : Int) == 0) = false := by simp; omega
  have hN00 : (0 : Nat) < N := hn0

  have D0 := heap_alloc_new w (.cells #[.int .i64 dv, .int .i64 at_, .bool false] 28)
  rw [hve] at c2
  go_enter Try.func9, Try.ntmps9
  go_upto_region 15 with fail
  go_quiet (fail)
  go_upto_region 21 with fail
  have M2 := M1.upd' ((Upd.refl (w.alloc (.cells #[.int .i64 dv, .int .i64 at_, .bool false] 28)) (fun _ => False)).drewN nq)
  clear M1 c0 c1 c2 c3 c4 c5 c6 c7 HB heb hve hwy D0 et ei hNz hNb
  generalize ((w.alloc (.cells #[.int .i64 dv, .int .i64 at_, .bool false] 28)).drewN nq) = wx at M2 ⊢
  obtain ⟨c0, c1, c2, c3, c4, c5, c6, c7⟩ := M2.at_.cells
  have f2 := free_at M2.at_.blk 2
  have heb := lt_at M2.at_.blk
  have HB := hide M2.at_.blk
  have hwy := M2.at_.wy false
  rw [FrsAt, hN] at hwy
  have nwc : (V false).wv.ownBlock ≠ some eb := fun e => by have h1 := M2.at_.ow false _ e; rw [M2.at_.oe] at h1; simp at h1
  obtain ⟨sa, sc, hve, -⟩ := Rw.form hwy
  have hwy' : FrsAt wx (.slice sa (s false).way.length sc) (s false).way := by rw [FrsAt, hN, ← hve]; exact hwy
  obtain ⟨y, hy⟩ : ∃ y, (s false).way[i]? = some y := ⟨_, List.getElem?_eq_getElem (by omega)⟩
  obtain ⟨g, off, rfl, hg, y0, y1, y2⟩ := hwy'.at i y hy
  have hi1 : (i : Int) < (N : Int) := by omega
  have hi2 : (0 : Int) ≤ (i : Int) := by omega
  rw [hve] at c2 hwy
  have nwc' : (Value.slice (some ⟨g, off, none⟩) N sc).ownBlock ≠ some eb := hve ▸ nwc
  have hve' : (V false).wv.ownBlock = (Value.slice (some ⟨g, off, none⟩) N sc).ownBlock := by rw [hve]
  clear hwy' hve
  go_region_law (first
      | (refine step_append_rw _ (by rfl) _ _ 38 38 (by rfl) 41 _ i0 _ 3 32 Try.underlying38 Try.underlying38 (by simp) hi0 hz0 hz1 hz2 rfl _ _ _ (by rfl) ((hwy.alloc _).drew) _ 1 _ (by rfl) (Rw.made _ _ _ 3 1 rfl).drew.src rfl (by simp [Value.oneCell']) (by omega) (by omega) ?_; intro ga gc w4 hA hgr ho; have hb4 := block_grown hgr (block_alloc HB.out _) nwc'; have g4 := cell_at hb4 2 _ rfl; have gf := free_at hb4 2; have HB4 := hide hb4; clear hb4))
  all_goals
    go_wp2_with fail
    go_end0
    have nv : (Value.slice ga (N + 1) gc).ownBlock ≠ some eb := by
      rcases ho with e | e <;> rw [e]
      · exact nwc'
      · simp; omega
    have M4 := M2.setWay (w' := w4.setCell ⟨eb, 2, none⟩ (.slice ga (N + 1) gc)) false (.slice ga (N + 1) gc) ((s false).way ++ [y]) (by
        refine ((((Upd.refl wx (fun k => k = eb ∨ (V false).wv.ownBlock = some k)).alloc _).drew).grown hgr (fun k hk => .inr (.inr (by rw [hve']; exact hk)))).setCell ⟨eb, 2, none⟩ _ (.inr (.inl rfl))) (block_setCell HB4.out 2 _) (by
        have := hA.setCell ⟨eb, 2, none⟩ (.slice ga (N + 1) gc) nv
        simpa [FrsAt, frCells_app, frCells, Fr.cells, hN] using this) (by
        intro k hk
        rcases ho with e | e
        · rw [e] at hk; exact .inl (by rw [hve']; exact hk)
        · rw [e] at hk; simp at hk; exact .inr (by omega))
    exact ⟨rfl, _, _, _, M4, .inr (.inr (.inr (.inr (.inr (.inl ⟨y, List.mem_of_getElem? hy, rfl⟩)))))⟩

set_option maxHeartbeats 3200000 in
theorem step_dup_t (w : World) (eb : Nat) (own : Nat → Nat) (V : Bool → Vs) (s : Bool → Sd) (dv at_ : Int) (hE : EndsAt w eb own V s) (sm : Small s) (hK : (wrap64 (dv.tmod 7 + 7)).tmod 7 = 5) (hn : 0 < (s true).way.length) :
    Calls Try.prog 9 #[.pointer (some ⟨eb, 0, none⟩), .agg #[.int .i64 dv, .int .i64 at_, .bool true]] w (StepPost w eb own true s) := by
  obtain ⟨i0, hi0, hz0, hz1, hz2⟩ := info_parts Try.info41
  obtain ⟨j0, hj0, jz0, jz1, jz2⟩ := info_parts Try.info9
  have M1 := (Mid.begin hE).upd' ((Upd.refl w (fun _ => False)).alloc (.cells #[.int .i64 dv, .int .i64 at_, .bool true] 28))
  generalize (newOwn own w.heap.size 99) = own1 at M1
  obtain ⟨c0, c1, c2, c3, c4, c5, c6, c7⟩ := M1.at_.cells
  have heb := lt_at M1.at_.blk
  have hebw := lt_at hE.blk
  have HB := hide M1.at_.blk
  have wa : IntKind.i64.wrap 1 = 1 := IntWalk.i64_in _ (by omega)
  have wb : IntKind.i64.wrap 0 = 0 := IntWalk.i64_in _ (by omega)
  have hwy := M1.at_.wy true
  obtain ⟨sa, sc, hve, -⟩ := Rw.form hwy
  have l1 := sm.way true
  obtain ⟨N, hN⟩ : ∃ N, (s true).way.length = N := ⟨_, rfl⟩
  rw [FrsAt, hN] at hwy
  rw [hN] at hve l1

  have hn0 : 0 < N := hN ▸ hn
  obtain ⟨i, ei⟩ : ∃ i : Nat, max 0 at_ % (N : Int) = (i : Int) := ⟨(max 0 at_ % (N : Int)).toNat, by rw [Int.toNat_of_nonneg (Int.emod_nonneg _ (by omega))]⟩
  have hiN : i < N := by have := Int.emod_lt_of_pos (max 0 at_) (show (0 : Int) < N by omega); omega
  have et : (max 0 at_).tmod (N : Int) = (i : Int) := by rw [Int.tmod_eq_emod_of_nonneg (by omega)]; exact ei
  have hNz : (N : Int) ≠ 0 := by omega
  have hNb : ((N : Int) == 0) = false := by simp; omega
  have hN00 : (0 : Nat) < N := hn0

  have D0 := heap_alloc_new w (.cells #[.int .i64 dv, .int .i64 at_, .bool true] 28)
  rw [hve] at c3
  go_enter Try.func9, Try.ntmps9
  go_upto_region 15 with fail
  go_quiet (fail)
  go_upto_region 21 with fail
  have M2 := M1.upd' ((Upd.refl (w.alloc (.cells #[.int .i64 dv, .int .i64 at_, .bool true] 28)) (fun _ => False)).drewN nq)
  clear M1 c0 c1 c2 c3 c4 c5 c6 c7 HB heb hve hwy D0 et ei hNz hNb
  generalize ((w.alloc (.cells #[.int .i64 dv, .int .i64 at_, .bool true] 28)).drewN nq) = wx at M2 ⊢
  obtain ⟨c0, c1, c2, c3, c4, c5, c6, c7⟩ := M2.at_.cells
  have f3 := free_at M2.at_.blk 3
  have heb := lt_at M2.at_.blk
  have HB := hide M2.at_.blk
  have hwy := M2.at_.wy true
  rw [FrsAt, hN] at hwy
  have nwc : (V true).wv.ownBlock ≠ some eb := fun e => by have h1 := M2.at_.ow true _ e; rw [M2.at_.oe] at h1; simp at h1
  obtain ⟨sa, sc, hve, -⟩ := Rw.form hwy
  have hwy' : FrsAt wx (.slice sa (s true).way.length sc) (s true).way := by rw [FrsAt, hN, ← hve]; exact hwy
  obtain ⟨y, hy⟩ : ∃ y, (s true).way[i]? = some y := ⟨_, List.getElem?_eq_getElem (by omega)⟩
  obtain ⟨g, off, rfl, hg, y0, y1, y2⟩ := hwy'.at i y hy
  have hi1 : (i : Int) < (N : Int) := by omega
  have hi2 : (0 : Int) ≤ (i : Int) := by omega
  rw [hve] at c3 hwy
  have nwc' : (Value.slice (some ⟨g, off, none⟩) N sc).ownBlock ≠ some eb := hve ▸ nwc
  have hve' : (V true).wv.ownBlock = (Value.slice (some ⟨g, off, none⟩) N sc).ownBlock := by rw [hve]
  clear hwy' hve
  go_region_law (first
      | (refine step_append_rw _ (by rfl) _ _ 38 38 (by rfl) 41 _ i0 _ 3 32 Try.underlying38 Try.underlying38 (by simp) hi0 hz0 hz1 hz2 rfl _ _ _ (by rfl) ((hwy.alloc _).drew) _ 1 _ (by rfl) (Rw.made _ _ _ 3 1 rfl).drew.src rfl (by simp [Value.oneCell']) (by omega) (by omega) ?_; intro ga gc w4 hA hgr ho; have hb4 := block_grown hgr (block_alloc HB.out _) nwc'; have g4 := cell_at hb4 3 _ rfl; have gf := free_at hb4 3; have HB4 := hide hb4; clear hb4))
  all_goals
    go_wp2_with fail
    go_end0
    have nv : (Value.slice ga (N + 1) gc).ownBlock ≠ some eb := by
      rcases ho with e | e <;> rw [e]
      · exact nwc'
      · simp; omega
    have M4 := M2.setWay (w' := w4.setCell ⟨eb, 3, none⟩ (.slice ga (N + 1) gc)) true (.slice ga (N + 1) gc) ((s true).way ++ [y]) (by
        refine ((((Upd.refl wx (fun k => k = eb ∨ (V true).wv.ownBlock = some k)).alloc _).drew).grown hgr (fun k hk => .inr (.inr (by rw [hve']; exact hk)))).setCell ⟨eb, 3, none⟩ _ (.inr (.inl rfl))) (block_setCell HB4.out 3 _) (by
        have := hA.setCell ⟨eb, 3, none⟩ (.slice ga (N + 1) gc) nv
        simpa [FrsAt, frCells_app, frCells, Fr.cells, hN] using this) (by
        intro k hk
        rcases ho with e | e
        · rw [e] at hk; exact .inl (by rw [hve']; exact hk)
        · rw [e] at hk; simp at hk; exact .inr (by omega))
    exact ⟨rfl, _, _, _, M4, .inr (.inr (.inr (.inr (.inr (.inl ⟨y, List.mem_of_getElem? hy, rfl⟩)))))⟩

set_option maxHeartbeats 3200000 in
theorem step_lost_f (w : World) (eb : Nat) (own : Nat → Nat) (V : Bool → Vs) (s : Bool → Sd) (dv at_ : Int) (hE : EndsAt w eb own V s) (sm : Small s) (hK : (wrap64 (dv.tmod 7 + 7)).tmod 7 = 3) (hn : 0 < (s false).way.length) :
    Calls Try.prog 9 #[.pointer (some ⟨eb, 0, none⟩), .agg #[.int .i64 dv, .int .i64 at_, .bool false]] w (StepPost w eb own false s) := by
  obtain ⟨i0, hi0, hz0, hz1, hz2⟩ := info_parts Try.info41
  obtain ⟨j0, hj0, jz0, jz1, jz2⟩ := info_parts Try.info9
  have M1 := (Mid.begin hE).upd' ((Upd.refl w (fun _ => False)).alloc (.cells #[.int .i64 dv, .int .i64 at_, .bool false] 28))
  generalize (newOwn own w.heap.size 99) = own1 at M1
  obtain ⟨c0, c1, c2, c3, c4, c5, c6, c7⟩ := M1.at_.cells
  have heb := lt_at M1.at_.blk
  have hebw := lt_at hE.blk
  have HB := hide M1.at_.blk
  have wa : IntKind.i64.wrap 1 = 1 := IntWalk.i64_in _ (by omega)
  have wb : IntKind.i64.wrap 0 = 0 := IntWalk.i64_in _ (by omega)
  have hwy := M1.at_.wy false
  obtain ⟨sa, sc, hve, -⟩ := Rw.form hwy
  have l1 := sm.way false
  obtain ⟨N, hN⟩ : ∃ N, (s false).way.length = N := ⟨_, rfl⟩
  rw [FrsAt, hN] at hwy
  rw [hN] at hve l1

  have hn0 : 0 < N := hN ▸ hn
  obtain ⟨i, ei⟩ : ∃ i : Nat, max 0 at_ % (N : Int) = (i : Int) := ⟨(max 0 at_ % (N : Int)).toNat, by rw [Int.toNat_of_nonneg (Int.emod_nonneg _ (by omega))]⟩
  have hiN : i < N := by have := Int.emod_lt_of_pos (max 0 at_) (show (0 : Int) < N by omega); omega
  have et : (max 0 at_).tmod (N : Int) = (i : Int) := by rw [Int.tmod_eq_emod_of_nonneg (by omega)]; exact ei
  have hNz : (N : Int) ≠ 0 := by omega
  have hNb : ((N : Int) == 0) = false := by simp; omega
  have hN00 : (0 : Nat) < N := hn0

  have D0 := heap_alloc_new w (.cells #[.int .i64 dv, .int .i64 at_, .bool false] 28)
  rw [hve] at c2
  go_enter Try.func9, Try.ntmps9
  go_upto_region 15 with fail
  go_quiet (fail)
  go_wp2_with fail
  have M2 := M1.upd' ((Upd.refl (w.alloc (.cells #[.int .i64 dv, .int .i64 at_, .bool false] 28)) (fun _ => False)).drewN nq)
  obtain ⟨y, hy⟩ : ∃ y, (s false).way[i]? = some y := ⟨_, List.getElem?_eq_getElem (by omega)⟩
  refine Calls.mono (take_any w _ eb own own1 V s false i _ y M2 (sm.ok false) hy (fun d => by have := sm.way d; omega) (by have := sm.inn false; omega) _ rfl) ?_
  rintro e w5 ⟨rfl, own5, V5, M5⟩
  go_wp2_with fail
  go_end0
  exact ⟨rfl, _, _, _, M5, .inr (.inr (.inr (.inr (.inr (.inr ⟨i, _, y, hy, rfl⟩)))))⟩

set_option maxHeartbeats 3200000 in
theorem step_lost_t (w : World) (eb : Nat) (own : Nat → Nat) (V : Bool → Vs) (s : Bool → Sd) (dv at_ : Int) (hE : EndsAt w eb own V s) (sm : Small s) (hK : (wrap64 (dv.tmod 7 + 7)).tmod 7 = 3) (hn : 0 < (s true).way.length) :
    Calls Try.prog 9 #[.pointer (some ⟨eb, 0, none⟩), .agg #[.int .i64 dv, .int .i64 at_, .bool true]] w (StepPost w eb own true s) := by
  obtain ⟨i0, hi0, hz0, hz1, hz2⟩ := info_parts Try.info41
  obtain ⟨j0, hj0, jz0, jz1, jz2⟩ := info_parts Try.info9
  have M1 := (Mid.begin hE).upd' ((Upd.refl w (fun _ => False)).alloc (.cells #[.int .i64 dv, .int .i64 at_, .bool true] 28))
  generalize (newOwn own w.heap.size 99) = own1 at M1
  obtain ⟨c0, c1, c2, c3, c4, c5, c6, c7⟩ := M1.at_.cells
  have heb := lt_at M1.at_.blk
  have hebw := lt_at hE.blk
  have HB := hide M1.at_.blk
  have wa : IntKind.i64.wrap 1 = 1 := IntWalk.i64_in _ (by omega)
  have wb : IntKind.i64.wrap 0 = 0 := IntWalk.i64_in _ (by omega)
  have hwy := M1.at_.wy true
  obtain ⟨sa, sc, hve, -⟩ := Rw.form hwy
  have l1 := sm.way true
  obtain ⟨N, hN⟩ : ∃ N, (s true).way.length = N := ⟨_, rfl⟩
  rw [FrsAt, hN] at hwy
  rw [hN] at hve l1

  have hn0 : 0 < N := hN ▸ hn
  obtain ⟨i, ei⟩ : ∃ i : Nat, max 0 at_ % (N : Int) = (i : Int) := ⟨(max 0 at_ % (N : Int)).toNat, by rw [Int.toNat_of_nonneg (Int.emod_nonneg _ (by omega))]⟩
  have hiN : i < N := by have := Int.emod_lt_of_pos (max 0 at_) (show (0 : Int) < N by omega); omega
  have et : (max 0 at_).tmod (N : Int) = (i : Int) := by rw [Int.tmod_eq_emod_of_nonneg (by omega)]; exact ei
  have hNz : (N : Int) ≠ 0 := by omega
  have hNb : ((N : Int) == 0) = false := by simp; omega
  have hN00 : (0 : Nat) < N := hn0

  have D0 := heap_alloc_new w (.cells #[.int .i64 dv, .int .i64 at_, .bool true] 28)
  rw [hve] at c3
  go_enter Try.func9, Try.ntmps9
  go_upto_region 15 with fail
  go_quiet (fail)
  go_wp2_with fail
  have M2 := M1.upd' ((Upd.refl (w.alloc (.cells #[.int .i64 dv, .int .i64 at_, .bool true] 28)) (fun _ => False)).drewN nq)
  obtain ⟨y, hy⟩ : ∃ y, (s true).way[i]? = some y := ⟨_, List.getElem?_eq_getElem (by omega)⟩
  refine Calls.mono (take_any w _ eb own own1 V s true i _ y M2 (sm.ok true) hy (fun d => by have := sm.way d; omega) (by have := sm.inn true; omega) _ rfl) ?_
  rintro e w5 ⟨rfl, own5, V5, M5⟩
  go_wp2_with fail
  go_end0
  exact ⟨rfl, _, _, _, M5, .inr (.inr (.inr (.inr (.inr (.inr ⟨i, _, y, hy, rfl⟩)))))⟩

set_option maxHeartbeats 3200000 in
theorem step_stay_f (w : World) (eb : Nat) (own : Nat → Nat) (V : Bool → Vs) (s : Bool → Sd) (dv at_ : Int) (hE : EndsAt w eb own V s) (sm : Small s) (hK : (wrap64 (dv.tmod 7 + 7)).tmod 7 = 6) (hn : 0 < (s false).way.length) :
    Calls Try.prog 9 #[.pointer (some ⟨eb, 0, none⟩), .agg #[.int .i64 dv, .int .i64 at_, .bool false]] w (StepPost w eb own false s) := by
  obtain ⟨i0, hi0, hz0, hz1, hz2⟩ := info_parts Try.info41
  obtain ⟨j0, hj0, jz0, jz1, jz2⟩ := info_parts Try.info9
  have M1 := (Mid.begin hE).upd' ((Upd.refl w (fun _ => False)).alloc (.cells #[.int .i64 dv, .int .i64 at_, .bool false] 28))
  generalize (newOwn own w.heap.size 99) = own1 at M1
  obtain ⟨c0, c1, c2, c3, c4, c5, c6, c7⟩ := M1.at_.cells
  have heb := lt_at M1.at_.blk
  have hebw := lt_at hE.blk
  have HB := hide M1.at_.blk
  have wa : IntKind.i64.wrap 1 = 1 := IntWalk.i64_in _ (by omega)
  have wb : IntKind.i64.wrap 0 = 0 := IntWalk.i64_in _ (by omega)
  have hwy := M1.at_.wy false
  obtain ⟨sa, sc, hve, -⟩ := Rw.form hwy
  have l1 := sm.way false
  obtain ⟨N, hN⟩ : ∃ N, (s false).way.length = N := ⟨_, rfl⟩
  rw [FrsAt, hN] at hwy
  rw [hN] at hve l1

  have hn0 : 0 < N := hN ▸ hn
  obtain ⟨i, ei⟩ : ∃ i : Nat, max 0 at_ % (N : Int) = (i : Int) := ⟨(max 0 at_ % (N : Int)).toNat, by rw [Int.toNat_of_nonneg (Int.emod_nonneg _ (by omega))]⟩
  have hiN : i < N := by have := Int.emod_lt_of_pos (max 0 at_) (show (0 : Int) < N by omega); omega
  have et : (max 0 at_).tmod (N : Int) = (i : Int) := by rw [Int.tmod_eq_emod_of_nonneg (by omega)]; exact ei
  have hNz : (N : Int) ≠ 0 := by omega
  have hNb : ((N : Int) == 0) = false := by simp; omega
  have hN00 : (0 : Nat) < N := hn0

  have D0 := heap_alloc_new w (.cells #[.int .i64 dv, .int .i64 at_, .bool false] 28)
  rw [hve] at c2
  go_enter Try.func9, Try.ntmps9
  go_upto_region 15 with fail
  go_quiet (fail)
  go_wp2_with fail
  have M2 := M1.upd' ((Upd.refl (w.alloc (.cells #[.int .i64 dv, .int .i64 at_, .bool false] 28)) (fun _ => False)).drewN nq)
  obtain ⟨y, hy⟩ : ∃ y, (s false).way[i]? = some y := ⟨_, List.getElem?_eq_getElem (by omega)⟩
  refine Calls.mono (take_any w _ eb own own1 V s false i _ y M2 (sm.ok false) hy (fun d => by have := sm.way d; omega) (by have := sm.inn false; omega) _ rfl) ?_
  rintro e w5 ⟨rfl, own5, V5, M5⟩
  go_wp2_with fail
  go_end0
  exact ⟨rfl, _, _, _, M5, .inr (.inr (.inr (.inr (.inr (.inr ⟨i, _, y, hy, rfl⟩)))))⟩

set_option maxHeartbeats 3200000 in
theorem step_stay_t (w : World) (eb : Nat) (own : Nat → Nat) (V : Bool → Vs) (s : Bool → Sd) (dv at_ : Int) (hE : EndsAt w eb own V s) (sm : Small s) (hK : (wrap64 (dv.tmod 7 + 7)).tmod 7 = 6) (hn : 0 < (s true).way.length) :
    Calls Try.prog 9 #[.pointer (some ⟨eb, 0, none⟩), .agg #[.int .i64 dv, .int .i64 at_, .bool true]] w (StepPost w eb own true s) := by
  obtain ⟨i0, hi0, hz0, hz1, hz2⟩ := info_parts Try.info41
  obtain ⟨j0, hj0, jz0, jz1, jz2⟩ := info_parts Try.info9
  have M1 := (Mid.begin hE).upd' ((Upd.refl w (fun _ => False)).alloc (.cells #[.int .i64 dv, .int .i64 at_, .bool true] 28))
  generalize (newOwn own w.heap.size 99) = own1 at M1
  obtain ⟨c0, c1, c2, c3, c4, c5, c6, c7⟩ := M1.at_.cells
  have heb := lt_at M1.at_.blk
  have hebw := lt_at hE.blk
  have HB := hide M1.at_.blk
  have wa : IntKind.i64.wrap 1 = 1 := IntWalk.i64_in _ (by omega)
  have wb : IntKind.i64.wrap 0 = 0 := IntWalk.i64_in _ (by omega)
  have hwy := M1.at_.wy true
  obtain ⟨sa, sc, hve, -⟩ := Rw.form hwy
  have l1 := sm.way true
  obtain ⟨N, hN⟩ : ∃ N, (s true).way.length = N := ⟨_, rfl⟩
  rw [FrsAt, hN] at hwy
  rw [hN] at hve l1

  have hn0 : 0 < N := hN ▸ hn
  obtain ⟨i, ei⟩ : ∃ i : Nat, max 0 at_ % (N : Int) = (i : Int) := ⟨(max 0 at_ % (N : Int)).toNat, by rw [Int.toNat_of_nonneg (Int.emod_nonneg _ (by omega))]⟩
  have hiN : i < N := by have := Int.emod_lt_of_pos (max 0 at_) (show (0 : Int) < N by omega); omega
  have et : (max 0 at_).tmod (N : Int) = (i : Int) := by rw [Int.tmod_eq_emod_of_nonneg (by omega)]; exact ei
  have hNz : (N : Int) ≠ 0 := by omega
  have hNb : ((N : Int) == 0) = false := by simp; omega
  have hN00 : (0 : Nat) < N := hn0

  have D0 := heap_alloc_new w (.cells #[.int .i64 dv, .int .i64 at_, .bool true] 28)
  rw [hve] at c3
  go_enter Try.func9, Try.ntmps9
  go_upto_region 15 with fail
  go_quiet (fail)
  go_wp2_with fail
  have M2 := M1.upd' ((Upd.refl (w.alloc (.cells #[.int .i64 dv, .int .i64 at_, .bool true] 28)) (fun _ => False)).drewN nq)
  obtain ⟨y, hy⟩ : ∃ y, (s true).way[i]? = some y := ⟨_, List.getElem?_eq_getElem (by omega)⟩
  refine Calls.mono (take_any w _ eb own own1 V s true i _ y M2 (sm.ok true) hy (fun d => by have := sm.way d; omega) (by have := sm.inn true; omega) _ rfl) ?_
  rintro e w5 ⟨rfl, own5, V5, M5⟩
  go_wp2_with fail
  go_end0
  exact ⟨rfl, _, _, _, M5, .inr (.inr (.inr (.inr (.inr (.inr ⟨i, _, y, hy, rfl⟩)))))⟩
end Go.Proofs.Ytfbmhfpffciojaa
