/- The method step, some of its ways. -/
import Derived.Test.YtfbmhfpffciojaaStep
set_option maxRecDepth 100000
namespace Go.Proofs.Ytfbmhfpffciojaa
open Go.RowKit Go.Lat

set_option maxHeartbeats 3200000 in
theorem step_send_f (w : World) (eb : Nat) (own : Nat → Nat) (V : Bool → Vs) (s : Bool → Sd) (dv at_ : Int) (hE : EndsAt w eb own V s) (sm : Small s) (hK : (wrap64 (dv.tmod 7 + 7)).tmod 7 = 0) :
    Calls Try.prog 9 #[.pointer (some ⟨eb, 0, none⟩), .agg #[.int .i64 dv, .int .i64 at_, .bool false]] w (StepPost w eb own false s) := by
  obtain ⟨i0, hi0, hz0, hz1, hz2⟩ := info_parts Try.info41
  obtain ⟨j0, hj0, jz0, jz1, jz2⟩ := info_parts Try.info9
  have M1 := (Mid.begin hE).upd' ((Upd.refl w (fun _ => False)).alloc (.cells #[.int .i64 dv, .int .i64 at_, .bool false] 28))
  generalize (newOwn own w.heap.size 99) = own1 at M1
  obtain ⟨c0, c1, c2, c3, c4, c5, c6, c7⟩ := M1.at_.cells
  have heb := lt_at M1.at_.blk
  have hebw := lt_at hE.blk
  have HB := hide M1.at_.blk
  have wa : IntKind.i64.wrap 1 = 1 := IntWalk.i64_in _ (by omega)
  have wb : IntKind.i64.wrap 0 = 0 := IntWalk.i64_in _ (by omega)
  have ok := sm.ok false
  have tp := sm.top false
  have ls := sm.sent false
  have hst := M1.at_.st false
  obtain ⟨sa, sc, hve, -⟩ := Rw.form hst
  obtain ⟨N, hN⟩ : ∃ N, (s false).sent.length = N := ⟨_, rfl⟩
  rw [hN] at hve ls hst
  have c4' := c4
  rw [hve] at c4
  have wz : IntKind.i64.wrap (97 + ((N : Int)).tmod 26) = 97 + ((N : Int)).tmod 26 := IntWalk.i64_in _ (by have := Int.tmod_lt_of_pos (N : Int) (show (0 : Int) < 26 by omega); have := Int.tmod_nonneg (a := (N : Int)) 26 (by omega); omega)
  go_enter Try.func9, Try.ntmps9
  go_upto_region 7 with fail
  generalize (w.alloc (.cells #[.int .i64 dv, .int .i64 at_, .bool false] 28)) = wx at *
  have hconv := run_convert_bytes_arg (P := Try.prog) ((wx.alloc (.cells #[.int .u8 (IntKind.u8.wrap (97 + (N : Int).tmod 26)), .int .u8 (IntKind.u8.wrap (N : Int))] 5)).drew) 70 5 Try.underlying70 Try.underlying5 wx.heap.size 0 2 2 [IntKind.u8.wrap (97 + (N : Int).tmod 26), IntKind.u8.wrap (N : Int)] rfl (fun i hi => by
    have h := heap_alloc_new wx (.cells #[.int .u8 (IntKind.u8.wrap (97 + (N : Int).tmod 26)), .int .u8 (IntKind.u8.wrap (N : Int))] 5)
    have h2 := cells2 h
    match i, hi with
    | 0, _ => exact h2.1
    | 1, _ => exact h2.2) 9 Try.underlying9
  generalize hzt : strOfNums [IntKind.u8.wrap (97 + (N : Int).tmod 26), IntKind.u8.wrap (N : Int)] = t at hconv
  clear hzt
  go_region_law (fail)
  all_goals
    go_wp2_with fail
    have M2 := M1.upd' (((Upd.refl wx (fun _ => False)).alloc (.cells #[.int .u8 (97 + (N : Int) % 26), .int .u8 ((N : Int) % 256)] 5)).drew)
    refine Calls.mono (Send_any _ _ (V false).t (s false).fl t (M2.at_.fl false) ok (by omega)) ?_
    rintro e w3 ⟨rfl, t3, hF3, hu3, ho3⟩
    have M3 := M2.setFl false t3 { (s false).fl with texts := (s false).fl.texts ++ [t] } hu3 hF3 ho3
    clear M1 M2 c0 c1 c2 c3 c4 c5 c6 c7 HB heb hconv hF3 hu3 ho3 hst c4'
    obtain ⟨V3, hV3⟩ : ∃ x, x = put V false { V false with t := t3 } := ⟨_, rfl⟩
    obtain ⟨s2, hs2⟩ : ∃ x, x = put s false { s false with fl := { (s false).fl with texts := (s false).fl.texts ++ [t] } } := ⟨_, rfl⟩
    rw [← hV3, ← hs2] at M3
    have e3 : (s2 false).sent = (s false).sent := by rw [hs2]; simp [put]
    have hN2 : (s2 false).sent.length = N := by rw [e3]; exact hN
    have HS2 := hide hs2
    clear e3 hV3 hs2 hN hve
    generalize (newOwn own1 _ (3 + Bool.toNat false)) = own3 at M3
    go_upto_region 9 with fail
    obtain ⟨c0, c1, c2, c3, c4, c5, c6, c7⟩ := M3.at_.cells
    have heb := lt_at M3.at_.blk
    have HB := hide M3.at_.blk
    have hst := M3.at_.st false
    rw [hN2] at hst
    have nst : (V3 false).sv.ownBlock ≠ some eb := fun e => by have h1 := M3.at_.os false _ e; rw [M3.at_.oe] at h1; simp at h1
    go_region_law (first
      | (refine step_append_rw _ (by rfl) _ _ 42 42 (by rfl) 9 _ j0 _ 1 16 Try.underlying42 Try.underlying42 (by simp) hj0 jz0 jz1 jz2 rfl _ _ _ (by rfl) ((hst.alloc _).drew) _ 1 _ (by rfl) (Rw.made _ _ _ 1 1 rfl).drew.src rfl (by simp [Value.oneCell']) (by omega) (by omega) ?_; intro ga gc w4 hA hgr ho; have hb4 := block_grown hgr (block_alloc HB.out _) nst; have g4 := cell_at hb4 4 _ rfl; have gf := free_at hb4 4; have HB4 := hide hb4; clear hb4))
    all_goals
      go_wp2_with fail
      go_end0
      have nv : (Value.slice ga (N + 1) gc).ownBlock ≠ some eb := by
        rcases ho with e | e <;> rw [e]
        · exact nst
        · simp; omega
      have M4 := M3.setSent (w' := w4.setCell ⟨eb, 4, none⟩ (.slice ga (N + 1) gc)) false (.slice ga (N + 1) gc) ((s2 false).sent ++ [t]) (by
          refine ((((Upd.refl w3 (fun k => k = eb ∨ (V3 false).sv.ownBlock = some k)).alloc _).drew).grown hgr (fun k hk => .inr (.inr hk))).setCell ⟨eb, 4, none⟩ _ (.inr (.inl rfl))) (block_setCell HB4.out 4 _) (by
          have := hA.setCell ⟨eb, 4, none⟩ (.slice ga (N + 1) gc) nv
          simpa [hN2] using this) (by
          intro k hk
          rcases ho with e | e
          · rw [e] at hk; exact .inl hk
          · rw [e] at hk; simp at hk; exact .inr (by omega))
      exact ⟨rfl, _, _, _, M4, .inr (.inl ⟨t, by rw [HS2.out]; rfl⟩)⟩

set_option maxHeartbeats 3200000 in
theorem step_send_t (w : World) (eb : Nat) (own : Nat → Nat) (V : Bool → Vs) (s : Bool → Sd) (dv at_ : Int) (hE : EndsAt w eb own V s) (sm : Small s) (hK : (wrap64 (dv.tmod 7 + 7)).tmod 7 = 0) :
    Calls Try.prog 9 #[.pointer (some ⟨eb, 0, none⟩), .agg #[.int .i64 dv, .int .i64 at_, .bool true]] w (StepPost w eb own true s) := by
  obtain ⟨i0, hi0, hz0, hz1, hz2⟩ := info_parts Try.info41
  obtain ⟨j0, hj0, jz0, jz1, jz2⟩ := info_parts Try.info9
  have M1 := (Mid.begin hE).upd' ((Upd.refl w (fun _ => False)).alloc (.cells #[.int .i64 dv, .int .i64 at_, .bool true] 28))
  generalize (newOwn own w.heap.size 99) = own1 at M1
  obtain ⟨c0, c1, c2, c3, c4, c5, c6, c7⟩ := M1.at_.cells
  have heb := lt_at M1.at_.blk
  have hebw := lt_at hE.blk
  have HB := hide M1.at_.blk
  have wa : IntKind.i64.wrap 1 = 1 := IntWalk.i64_in _ (by omega)
  have wb : IntKind.i64.wrap 0 = 0 := IntWalk.i64_in _ (by omega)
  have ok := sm.ok true
  have tp := sm.top true
  have ls := sm.sent true
  have hst := M1.at_.st true
  obtain ⟨sa, sc, hve, -⟩ := Rw.form hst
  obtain ⟨N, hN⟩ : ∃ N, (s true).sent.length = N := ⟨_, rfl⟩
  rw [hN] at hve ls hst
  have c5' := c5
  rw [hve] at c5
  have wz : IntKind.i64.wrap (97 + ((N : Int)).tmod 26) = 97 + ((N : Int)).tmod 26 := IntWalk.i64_in _ (by have := Int.tmod_lt_of_pos (N : Int) (show (0 : Int) < 26 by omega); have := Int.tmod_nonneg (a := (N : Int)) 26 (by omega); omega)
  go_enter Try.func9, Try.ntmps9
  go_upto_region 7 with fail
  generalize (w.alloc (.cells #[.int .i64 dv, .int .i64 at_, .bool true] 28)) = wx at *
  have hconv := run_convert_bytes_arg (P := Try.prog) ((wx.alloc (.cells #[.int .u8 (IntKind.u8.wrap (97 + (N : Int).tmod 26)), .int .u8 (IntKind.u8.wrap (N : Int))] 5)).drew) 70 5 Try.underlying70 Try.underlying5 wx.heap.size 0 2 2 [IntKind.u8.wrap (97 + (N : Int).tmod 26), IntKind.u8.wrap (N : Int)] rfl (fun i hi => by
    have h := heap_alloc_new wx (.cells #[.int .u8 (IntKind.u8.wrap (97 + (N : Int).tmod 26)), .int .u8 (IntKind.u8.wrap (N : Int))] 5)
    have h2 := cells2 h
    match i, hi with
    | 0, _ => exact h2.1
    | 1, _ => exact h2.2) 9 Try.underlying9
  generalize hzt : strOfNums [IntKind.u8.wrap (97 + (N : Int).tmod 26), IntKind.u8.wrap (N : Int)] = t at hconv
  clear hzt
  go_region_law (fail)
  all_goals
    go_wp2_with fail
    have M2 := M1.upd' (((Upd.refl wx (fun _ => False)).alloc (.cells #[.int .u8 (97 + (N : Int) % 26), .int .u8 ((N : Int) % 256)] 5)).drew)
    refine Calls.mono (Send_any _ _ (V true).t (s true).fl t (M2.at_.fl true) ok (by omega)) ?_
    rintro e w3 ⟨rfl, t3, hF3, hu3, ho3⟩
    have M3 := M2.setFl true t3 { (s true).fl with texts := (s true).fl.texts ++ [t] } hu3 hF3 ho3
    clear M1 M2 c0 c1 c2 c3 c4 c5 c6 c7 HB heb hconv hF3 hu3 ho3 hst c5'
    obtain ⟨V3, hV3⟩ : ∃ x, x = put V true { V true with t := t3 } := ⟨_, rfl⟩
    obtain ⟨s2, hs2⟩ : ∃ x, x = put s true { s true with fl := { (s true).fl with texts := (s true).fl.texts ++ [t] } } := ⟨_, rfl⟩
    rw [← hV3, ← hs2] at M3
    have e3 : (s2 true).sent = (s true).sent := by rw [hs2]; simp [put]
    have hN2 : (s2 true).sent.length = N := by rw [e3]; exact hN
    have HS2 := hide hs2
    clear e3 hV3 hs2 hN hve
    generalize (newOwn own1 _ (3 + Bool.toNat true)) = own3 at M3
    go_upto_region 9 with fail
    obtain ⟨c0, c1, c2, c3, c4, c5, c6, c7⟩ := M3.at_.cells
    have heb := lt_at M3.at_.blk
    have HB := hide M3.at_.blk
    have hst := M3.at_.st true
    rw [hN2] at hst
    have nst : (V3 true).sv.ownBlock ≠ some eb := fun e => by have h1 := M3.at_.os true _ e; rw [M3.at_.oe] at h1; simp at h1
    go_region_law (first
      | (refine step_append_rw _ (by rfl) _ _ 42 42 (by rfl) 9 _ j0 _ 1 16 Try.underlying42 Try.underlying42 (by simp) hj0 jz0 jz1 jz2 rfl _ _ _ (by rfl) ((hst.alloc _).drew) _ 1 _ (by rfl) (Rw.made _ _ _ 1 1 rfl).drew.src rfl (by simp [Value.oneCell']) (by omega) (by omega) ?_; intro ga gc w4 hA hgr ho; have hb4 := block_grown hgr (block_alloc HB.out _) nst; have g4 := cell_at hb4 5 _ rfl; have gf := free_at hb4 5; have HB4 := hide hb4; clear hb4))
    all_goals
      go_wp2_with fail
      go_end0
      have nv : (Value.slice ga (N + 1) gc).ownBlock ≠ some eb := by
        rcases ho with e | e <;> rw [e]
        · exact nst
        · simp; omega
      have M4 := M3.setSent (w' := w4.setCell ⟨eb, 5, none⟩ (.slice ga (N + 1) gc)) true (.slice ga (N + 1) gc) ((s2 true).sent ++ [t]) (by
          refine ((((Upd.refl w3 (fun k => k = eb ∨ (V3 true).sv.ownBlock = some k)).alloc _).drew).grown hgr (fun k hk => .inr (.inr hk))).setCell ⟨eb, 5, none⟩ _ (.inr (.inl rfl))) (block_setCell HB4.out 5 _) (by
          have := hA.setCell ⟨eb, 5, none⟩ (.slice ga (N + 1) gc) nv
          simpa [hN2] using this) (by
          intro k hk
          rcases ho with e | e
          · rw [e] at hk; exact .inl hk
          · rw [e] at hk; simp at hk; exact .inr (by omega))
      exact ⟨rfl, _, _, _, M4, .inr (.inl ⟨t, by rw [HS2.out]; rfl⟩)⟩
end Go.Proofs.Ytfbmhfpffciojaa
