/- The walk of FixedRounds. -/
import Derived.Test.YtckpomcenkgekaaDoorFxE
import Derived.Test.YtckpomcenkgekaaDoorWak
set_option maxRecDepth 100000
namespace Go.Proofs.YtckpomcenkgekaaDoor
open Go.RowKit Go.Lat

set_option maxHeartbeats 1600000 in
theorem FixedRounds_any (w : World) (a p : Int) (ht : Pow w) : Calls Tryd.prog 8 #[.int .i64 a, .int .i64 p] w fun e w' => e = .returned (.bool true) ∧ Upd w w' (fun _ => False) := by
  obtain ⟨q, hq⟩ : ∃ q, IntKind.i64.wrap (bits .and .i64 p 31 - 16) = q := ⟨_, rfl⟩
  obtain ⟨V1, E1, R1, S1⟩ := Round_both a p
  obtain ⟨V2, E2, R2, S2⟩ := Round_both a q
  obtain ⟨V3, F, F2⟩ := Floor_both a
  obtain ⟨V4, H, H2⟩ := Whole_both a
  have c := cells2 (heap_alloc_new w (.cells #[.int .i64 p, .int .i64 q] 3))
  have hlt := lt_at (heap_alloc_new w (.cells #[.int .i64 p, .int .i64 q] 3))
  have u0 : Upd w (w.alloc (.cells #[.int .i64 p, .int .i64 q] 3)) (fun _ => False) := (Upd.refl w _).alloc _
  go_enter Tryd.func8, Tryd.ntmps8
  go_wp2_with fail
  generalize (w.alloc (.cells #[.int .i64 p, .int .i64 q] 3)) = W0 at *
  obtain ⟨c1, c2⟩ := c
  clear hq
  refine wp_loop_rounds 3 ?_
  rw [rounds_succ]
  go_wp2_with fail
  refine Calls.mono (R1 _) ?_
  rintro e w1 ⟨rfl, u1⟩
  go_wp2_with fail
  refine Calls.mono (S1 _) ?_
  rintro e w2 ⟨rfl, u2⟩
  have u12 := u1.then u2 (fun _ _ => id)
  have c2' := (u12.cell w.heap.size 1 hlt id).trans c2
  go_wp2_with fail
  rw [rounds_succ]
  go_wp2_with fail
  refine Calls.mono (R2 _) ?_
  rintro e w3 ⟨rfl, u3⟩
  go_wp2_with fail
  refine Calls.mono (S2 _) ?_
  rintro e w4 ⟨rfl, u4⟩
  go_wp2_with fail
  rw [rounds_succ]
  go_wp2_with fail
  have uu := ((u0.then u12 (fun _ _ => id)).then u3 (fun _ _ => id)).then u4 (fun _ _ => id)
  refine Calls.mono (wakes_any _ (ht.upd uu id)) ?_
  rintro e w9 ⟨rfl, u9⟩
  go_wp2_with fail
  refine Calls.mono (F _) ?_
  rintro e w5 ⟨rfl, u5⟩
  go_wp2_with fail
  refine Calls.mono (F2 _) ?_
  rintro e w6 ⟨rfl, u6⟩
  go_wp2_with fail
  refine Calls.mono (H _) ?_
  rintro e w7 ⟨rfl, u7⟩
  go_wp2_with fail
  refine Calls.mono (H2 _) ?_
  rintro e w8 ⟨rfl, u8⟩
  go_wp2_with fail
  go_ret
  exact ⟨by simp, ((((uu.then u9 (fun _ _ => id)).then u5 (fun _ _ => id)).then u6 (fun _ _ => id)).then u7 (fun _ _ => id)).then u8 (fun _ _ => id)⟩
end Go.Proofs.YtckpomcenkgekaaDoor
