/- The method step, some of its ways. -/
import Derived.Test.YtfbmhfpffciojaaStep
set_option maxRecDepth 100000
namespace Go.Proofs.Ytfbmhfpffciojaa
open Go.RowKit Go.Lat

set_option maxHeartbeats 3200000 in
theorem step_ready_f (w : World) (eb : Nat) (own : Nat → Nat) (V : Bool → Vs) (s : Bool → Sd) (dv at_ : Int) (hE : EndsAt w eb own V s) (sm : Small s) (hK : (wrap64 (dv.tmod 7 + 7)).tmod 7 = 1) :
    Calls Try.prog 9 #[.pointer (some ⟨eb, 0, none⟩), .agg #[.int .i64 dv, .int .i64 at_, .bool false]] w (StepPost w eb own false s) := by
  obtain ⟨i0, hi0, hz0, hz1, hz2⟩ := info_parts Try.info41
  obtain ⟨j0, hj0, jz0, jz1, jz2⟩ := info_parts Try.info9
  have M1 := (Mid.begin hE).upd' ((Upd.refl w (fun _ => False)).alloc (.cells #[.int .i64 dv, .int .i64 at_, .bool false] 28))
  generalize (newOwn own w.heap.size 99) = own1 at M1
  obtain ⟨c0, c1, c2, c3, c4, c5, c6, c7⟩ := M1.at_.cells
  have heb := lt_at M1.at_.blk
  have hebw := lt_at hE.blk
  have HB := hide M1.at_.blk
  have wa : IntKind.i64.wrap 1 = 1 := IntWalk.i64_in _ (by omega)
  have wb : IntKind.i64.wrap 0 = 0 := IntWalk.i64_in _ (by omega)
  have ok := sm.ok false
  have l2 := sm.way true
  have tp := sm.top false
  have hF := M1.at_.fl false
  have hwd := M1.at_.wy true
  have nwd : (V true).wv.ownBlock ≠ some eb := fun e => by have h1 := M1.at_.ow true _ e; rw [M1.at_.oe] at h1; simp at h1
  have neb : eb ≠ (V false).b := fun e => by have h1 := M1.at_.ob false; rw [← e, M1.at_.oe] at h1; simp at h1
  have f3 := free_at M1.at_.blk 3

  go_enter Try.func9, Try.ntmps9
  go_upto_region 11 with fail
  generalize (w.alloc (.cells #[.int .i64 dv, .int .i64 at_, .bool false] 28)) = wx at *
  go_region_law (first
      | (refine step_append_rw _ (by rfl) _ _ 38 38 (by rfl) 41 _ i0 _ 3 32 Try.underlying38 Try.underlying38 (by simp) hi0 hz0 hz1 hz2 rfl _ _ _ (by rfl) hw3 _ _ _ (by rfl) (Rw.src r3) r3.1 (frCells_one _) (by rw [Fl.frs_len]; unfold Fl.upTo; omega) (by rw [Fl.frs_len]; unfold Fl.upTo; omega) ?_; intro ga gc w4 hA hg ho; have hb4 := block_grown hg HB3.out nwd; have g4 := cell_at hb4 3 _ rfl; have gf := free_at hb4 3; have HB4 := hide hb4; clear hb4)
      | (go_simp; go_at_call 12; refine Calls.mono (Ready_any wx.drew _ (V false).t (s false).fl hF ok) ?_; rintro e w3 ⟨v3, rfl, r3, hF3, hu3, fr3⟩; have hw3 := hu3.rw hwd.drew (fun k hk e => by have h1 := M1.at_.ow true k hk; rw [e, M1.at_.ob false] at h1; simp at h1); have k3 := (hu3.cell eb 3 heb neb).trans c3; have HB3 := hide (hu3.get HB.out neb)))
  all_goals
    go_wp2_with fail
    go_end0
    have hlen : (frCells ((s false).fl.frs (s false).fl.next ((s false).fl.upTo - (s false).fl.next))).length = _ := r3.1
    have nv : (Value.slice ga ((s true).way.length + ((s false).fl.frs (s false).fl.next ((s false).fl.upTo - (s false).fl.next)).length) gc).ownBlock ≠ some eb := by
      rcases ho with e | e <;> rw [e]
      · exact nwd
      · have := hu3.size; simp at this; simp; omega
    have M3 := M1.setFl false (V false).t { (s false).fl with next := (s false).fl.upTo } (((Upd.refl wx _).drew).then (hu3.weaken (T := fun k => k = (V false).b ∨ (V false).t.ownBlock = some k) (fun _ _ e => .inl e)) (fun _ _ e => e)) hF3 (fun k hk => .inl hk)
    have u4 := ((Upd.refl w3 (fun k => k = eb ∨ (V true).wv.ownBlock = some k)).grown hg (fun k hk => .inr (.inr hk))).setCell ⟨eb, 3, none⟩ (.slice ga ((s true).way.length + ((s false).fl.frs (s false).fl.next ((s false).fl.upTo - (s false).fl.next)).length) gc) (.inr (.inl rfl))
    have M4 := M3.setWay true (.slice ga ((s true).way.length + ((s false).fl.frs (s false).fl.next ((s false).fl.upTo - (s false).fl.next)).length) gc) ((s true).way ++ (s false).fl.frs (s false).fl.next ((s false).fl.upTo - (s false).fl.next)) u4 (block_setCell HB4.out 3 _)
      (by have := hA.setCell ⟨eb, 3, none⟩ (.slice ga ((s true).way.length + ((s false).fl.frs (s false).fl.next ((s false).fl.upTo - (s false).fl.next)).length) gc) nv; simpa [FrsAt, frCells_app] using this)
      (fun k hk => by
        rcases ho with e | e
        · rw [e] at hk; exact .inl hk
        · rw [e] at hk; simp at hk; exact .inr (by omega))
    exact ⟨rfl, _, _, _, M4, .inr (.inr (.inl rfl))⟩

set_option maxHeartbeats 3200000 in
theorem step_ready_t (w : World) (eb : Nat) (own : Nat → Nat) (V : Bool → Vs) (s : Bool → Sd) (dv at_ : Int) (hE : EndsAt w eb own V s) (sm : Small s) (hK : (wrap64 (dv.tmod 7 + 7)).tmod 7 = 1) :
    Calls Try.prog 9 #[.pointer (some ⟨eb, 0, none⟩), .agg #[.int .i64 dv, .int .i64 at_, .bool true]] w (StepPost w eb own true s) := by
  obtain ⟨i0, hi0, hz0, hz1, hz2⟩ := info_parts Try.info41
  obtain ⟨j0, hj0, jz0, jz1, jz2⟩ := info_parts Try.info9
  have M1 := (Mid.begin hE).upd' ((Upd.refl w (fun _ => False)).alloc (.cells #[.int .i64 dv, .int .i64 at_, .bool true] 28))
  generalize (newOwn own w.heap.size 99) = own1 at M1
  obtain ⟨c0, c1, c2, c3, c4, c5, c6, c7⟩ := M1.at_.cells
  have heb := lt_at M1.at_.blk
  have hebw := lt_at hE.blk
  have HB := hide M1.at_.blk
  have wa : IntKind.i64.wrap 1 = 1 := IntWalk.i64_in _ (by omega)
  have wb : IntKind.i64.wrap 0 = 0 := IntWalk.i64_in _ (by omega)
  have ok := sm.ok true
  have l2 := sm.way false
  have tp := sm.top true
  have hF := M1.at_.fl true
  have hwd := M1.at_.wy false
  have nwd : (V false).wv.ownBlock ≠ some eb := fun e => by have h1 := M1.at_.ow false _ e; rw [M1.at_.oe] at h1; simp at h1
  have neb : eb ≠ (V true).b := fun e => by have h1 := M1.at_.ob true; rw [← e, M1.at_.oe] at h1; simp at h1
  have f2 := free_at M1.at_.blk 2

  go_enter Try.func9, Try.ntmps9
  go_upto_region 11 with fail
  generalize (w.alloc (.cells #[.int .i64 dv, .int .i64 at_, .bool true] 28)) = wx at *
  go_region_law (first
      | (refine step_append_rw _ (by rfl) _ _ 38 38 (by rfl) 41 _ i0 _ 3 32 Try.underlying38 Try.underlying38 (by simp) hi0 hz0 hz1 hz2 rfl _ _ _ (by rfl) hw3 _ _ _ (by rfl) (Rw.src r3) r3.1 (frCells_one _) (by rw [Fl.frs_len]; unfold Fl.upTo; omega) (by rw [Fl.frs_len]; unfold Fl.upTo; omega) ?_; intro ga gc w4 hA hg ho; have hb4 := block_grown hg HB3.out nwd; have g4 := cell_at hb4 2 _ rfl; have gf := free_at hb4 2; have HB4 := hide hb4; clear hb4)
      | (go_simp; go_at_call 12; refine Calls.mono (Ready_any wx.drew _ (V true).t (s true).fl hF ok) ?_; rintro e w3 ⟨v3, rfl, r3, hF3, hu3, fr3⟩; have hw3 := hu3.rw hwd.drew (fun k hk e => by have h1 := M1.at_.ow false k hk; rw [e, M1.at_.ob true] at h1; simp at h1); have k3 := (hu3.cell eb 2 heb neb).trans c2; have HB3 := hide (hu3.get HB.out neb)))
  all_goals
    go_wp2_with fail
    go_end0
    have hlen : (frCells ((s true).fl.frs (s true).fl.next ((s true).fl.upTo - (s true).fl.next))).length = _ := r3.1
    have nv : (Value.slice ga ((s false).way.length + ((s true).fl.frs (s true).fl.next ((s true).fl.upTo - (s true).fl.next)).length) gc).ownBlock ≠ some eb := by
      rcases ho with e | e <;> rw [e]
      · exact nwd
      · have := hu3.size; simp at this; simp; omega
    have M3 := M1.setFl true (V true).t { (s true).fl with next := (s true).fl.upTo } (((Upd.refl wx _).drew).then (hu3.weaken (T := fun k => k = (V true).b ∨ (V true).t.ownBlock = some k) (fun _ _ e => .inl e)) (fun _ _ e => e)) hF3 (fun k hk => .inl hk)
    have u4 := ((Upd.refl w3 (fun k => k = eb ∨ (V false).wv.ownBlock = some k)).grown hg (fun k hk => .inr (.inr hk))).setCell ⟨eb, 2, none⟩ (.slice ga ((s false).way.length + ((s true).fl.frs (s true).fl.next ((s true).fl.upTo - (s true).fl.next)).length) gc) (.inr (.inl rfl))
    have M4 := M3.setWay false (.slice ga ((s false).way.length + ((s true).fl.frs (s true).fl.next ((s true).fl.upTo - (s true).fl.next)).length) gc) ((s false).way ++ (s true).fl.frs (s true).fl.next ((s true).fl.upTo - (s true).fl.next)) u4 (block_setCell HB4.out 2 _)
      (by have := hA.setCell ⟨eb, 2, none⟩ (.slice ga ((s false).way.length + ((s true).fl.frs (s true).fl.next ((s true).fl.upTo - (s true).fl.next)).length) gc) nv; simpa [FrsAt, frCells_app] using this)
      (fun k hk => by
        rcases ho with e | e
        · rw [e] at hk; exact .inl hk
        · rw [e] at hk; simp at hk; exact .inr (by omega))
    exact ⟨rfl, _, _, _, M4, .inr (.inr (.inl rfl))⟩

set_option maxHeartbeats 3200000 in
theorem step_tick_f (w : World) (eb : Nat) (own : Nat → Nat) (V : Bool → Vs) (s : Bool → Sd) (dv at_ : Int) (hE : EndsAt w eb own V s) (sm : Small s) (hK : (wrap64 (dv.tmod 7 + 7)).tmod 7 = 2) :
    Calls Try.prog 9 #[.pointer (some ⟨eb, 0, none⟩), .agg #[.int .i64 dv, .int .i64 at_, .bool false]] w (StepPost w eb own false s) := by
  obtain ⟨i0, hi0, hz0, hz1, hz2⟩ := info_parts Try.info41
  obtain ⟨j0, hj0, jz0, jz1, jz2⟩ := info_parts Try.info9
  have M1 := (Mid.begin hE).upd' ((Upd.refl w (fun _ => False)).alloc (.cells #[.int .i64 dv, .int .i64 at_, .bool false] 28))
  generalize (newOwn own w.heap.size 99) = own1 at M1
  obtain ⟨c0, c1, c2, c3, c4, c5, c6, c7⟩ := M1.at_.cells
  have heb := lt_at M1.at_.blk
  have hebw := lt_at hE.blk
  have HB := hide M1.at_.blk
  have wa : IntKind.i64.wrap 1 = 1 := IntWalk.i64_in _ (by omega)
  have wb : IntKind.i64.wrap 0 = 0 := IntWalk.i64_in _ (by omega)
  have ok := sm.ok false
  have l2 := sm.way true
  have tp := sm.top false
  have hF := M1.at_.fl false
  have hwd := M1.at_.wy true
  have nwd : (V true).wv.ownBlock ≠ some eb := fun e => by have h1 := M1.at_.ow true _ e; rw [M1.at_.oe] at h1; simp at h1
  have neb : eb ≠ (V false).b := fun e => by have h1 := M1.at_.ob false; rw [← e, M1.at_.oe] at h1; simp at h1
  have f3 := free_at M1.at_.blk 3

  go_enter Try.func9, Try.ntmps9
  go_upto_region 13 with fail
  generalize (w.alloc (.cells #[.int .i64 dv, .int .i64 at_, .bool false] 28)) = wx at *
  go_region_law (first
      | (refine step_append_rw _ (by rfl) _ _ 38 38 (by rfl) 41 _ i0 _ 3 32 Try.underlying38 Try.underlying38 (by simp) hi0 hz0 hz1 hz2 rfl _ _ _ (by rfl) hw3 _ _ _ (by rfl) (Rw.src r3) r3.1 (frCells_one _) (by rw [Fl.frs_len]; have := ok.nt; omega) (by rw [Fl.frs_len]; have := ok.nt; omega) ?_; intro ga gc w4 hA hg ho; have hb4 := block_grown hg HB3.out nwd; have g4 := cell_at hb4 3 _ rfl; have gf := free_at hb4 3; have HB4 := hide hb4; clear hb4)
      | (go_simp; go_at_call 13; refine Calls.mono (Tick_any wx.drew _ (V false).t (s false).fl hF ok) ?_; rintro e w3 ⟨v3, rfl, r3, hu3, fr3⟩; have hw3 := hu3.rw hwd.drew (fun _ _ => id); have k3 := (hu3.cell eb 3 heb id).trans c3; have HB3 := hide (hu3.get HB.out id)))
  all_goals
    go_wp2_with fail
    go_end0
    have nv : (Value.slice ga ((s true).way.length + ((s false).fl.frs (s false).fl.base ((s false).fl.next - (s false).fl.base)).length) gc).ownBlock ≠ some eb := by
      rcases ho with e | e <;> rw [e]
      · exact nwd
      · have := hu3.size; simp at this; simp; omega
    have M3 := M1.upd' (((Upd.refl wx (fun _ => False)).drew).then hu3 (fun _ _ => id))
    have u4 := ((Upd.refl w3 (fun k => k = eb ∨ (V true).wv.ownBlock = some k)).grown hg (fun k hk => .inr (.inr hk))).setCell ⟨eb, 3, none⟩ (.slice ga ((s true).way.length + ((s false).fl.frs (s false).fl.base ((s false).fl.next - (s false).fl.base)).length) gc) (.inr (.inl rfl))
    have M4 := M3.setWay true (.slice ga ((s true).way.length + ((s false).fl.frs (s false).fl.base ((s false).fl.next - (s false).fl.base)).length) gc) ((s true).way ++ (s false).fl.frs (s false).fl.base ((s false).fl.next - (s false).fl.base)) u4 (block_setCell HB4.out 3 _)
      (by have := hA.setCell ⟨eb, 3, none⟩ (.slice ga ((s true).way.length + ((s false).fl.frs (s false).fl.base ((s false).fl.next - (s false).fl.base)).length) gc) nv; simpa [FrsAt, frCells_app] using this)
      (fun k hk => by
        rcases ho with e | e
        · rw [e] at hk; exact .inl hk
        · rw [e] at hk; simp at hk; exact .inr (by omega))
    exact ⟨rfl, _, _, _, M4, .inr (.inr (.inr (.inl rfl)))⟩

set_option maxHeartbeats 3200000 in
theorem step_tick_t (w : World) (eb : Nat) (own : Nat → Nat) (V : Bool → Vs) (s : Bool → Sd) (dv at_ : Int) (hE : EndsAt w eb own V s) (sm : Small s) (hK : (wrap64 (dv.tmod 7 + 7)).tmod 7 = 2) :
    Calls Try.prog 9 #[.pointer (some ⟨eb, 0, none⟩), .agg #[.int .i64 dv, .int .i64 at_, .bool true]] w (StepPost w eb own true s) := by
  obtain ⟨i0, hi0, hz0, hz1, hz2⟩ := info_parts Try.info41
  obtain ⟨j0, hj0, jz0, jz1, jz2⟩ := info_parts Try.info9
  have M1 := (Mid.begin hE).upd' ((Upd.refl w (fun _ => False)).alloc (.cells #[.int .i64 dv, .int .i64 at_, .bool true] 28))
  generalize (newOwn own w.heap.size 99) = own1 at M1
  obtain ⟨c0, c1, c2, c3, c4, c5, c6, c7⟩ := M1.at_.cells
  have heb := lt_at M1.at_.blk
  have hebw := lt_at hE.blk
  have HB := hide M1.at_.blk
  have wa : IntKind.i64.wrap 1 = 1 := IntWalk.i64_in _ (by omega)
  have wb : IntKind.i64.wrap 0 = 0 := IntWalk.i64_in _ (by omega)
  have ok := sm.ok true
  have l2 := sm.way false
  have tp := sm.top true
  have hF := M1.at_.fl true
  have hwd := M1.at_.wy false
  have nwd : (V false).wv.ownBlock ≠ some eb := fun e => by have h1 := M1.at_.ow false _ e; rw [M1.at_.oe] at h1; simp at h1
  have neb : eb ≠ (V true).b := fun e => by have h1 := M1.at_.ob true; rw [← e, M1.at_.oe] at h1; simp at h1
  have f2 := free_at M1.at_.blk 2

  go_enter Try.func9, Try.ntmps9
  go_upto_region 13 with fail
  generalize (w.alloc (.cells #[.int .i64 dv, .int .i64 at_, .bool true] 28)) = wx at *
  go_region_law (first
      | (refine step_append_rw _ (by rfl) _ _ 38 38 (by rfl) 41 _ i0 _ 3 32 Try.underlying38 Try.underlying38 (by simp) hi0 hz0 hz1 hz2 rfl _ _ _ (by rfl) hw3 _ _ _ (by rfl) (Rw.src r3) r3.1 (frCells_one _) (by rw [Fl.frs_len]; have := ok.nt; omega) (by rw [Fl.frs_len]; have := ok.nt; omega) ?_; intro ga gc w4 hA hg ho; have hb4 := block_grown hg HB3.out nwd; have g4 := cell_at hb4 2 _ rfl; have gf := free_at hb4 2; have HB4 := hide hb4; clear hb4)
      | (go_simp; go_at_call 13; refine Calls.mono (Tick_any wx.drew _ (V true).t (s true).fl hF ok) ?_; rintro e w3 ⟨v3, rfl, r3, hu3, fr3⟩; have hw3 := hu3.rw hwd.drew (fun _ _ => id); have k3 := (hu3.cell eb 2 heb id).trans c2; have HB3 := hide (hu3.get HB.out id)))
  all_goals
    go_wp2_with fail
    go_end0
    have nv : (Value.slice ga ((s false).way.length + ((s true).fl.frs (s true).fl.base ((s true).fl.next - (s true).fl.base)).length) gc).ownBlock ≠ some eb := by
      rcases ho with e | e <;> rw [e]
      · exact nwd
      · have := hu3.size; simp at this; simp; omega
    have M3 := M1.upd' (((Upd.refl wx (fun _ => False)).drew).then hu3 (fun _ _ => id))
    have u4 := ((Upd.refl w3 (fun k => k = eb ∨ (V false).wv.ownBlock = some k)).grown hg (fun k hk => .inr (.inr hk))).setCell ⟨eb, 2, none⟩ (.slice ga ((s false).way.length + ((s true).fl.frs (s true).fl.base ((s true).fl.next - (s true).fl.base)).length) gc) (.inr (.inl rfl))
    have M4 := M3.setWay false (.slice ga ((s false).way.length + ((s true).fl.frs (s true).fl.base ((s true).fl.next - (s true).fl.base)).length) gc) ((s false).way ++ (s true).fl.frs (s true).fl.base ((s true).fl.next - (s true).fl.base)) u4 (block_setCell HB4.out 2 _)
      (by have := hA.setCell ⟨eb, 2, none⟩ (.slice ga ((s false).way.length + ((s true).fl.frs (s true).fl.base ((s true).fl.next - (s true).fl.base)).length) gc) nv; simpa [FrsAt, frCells_app] using this)
      (fun k hk => by
        rcases ho with e | e
        · rw [e] at hk; exact .inl hk
        · rw [e] at hk; simp at hk; exact .inr (by omega))
    exact ⟨rfl, _, _, _, M4, .inr (.inr (.inr (.inl rfl)))⟩
end Go.Proofs.Ytfbmhfpffciojaa
