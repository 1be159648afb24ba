/- The walk of FixedProducts. -/
import Derived.Test.YtckpomcenkgekaaDoorFxF
set_option maxRecDepth 100000
namespace Go.Proofs.YtckpomcenkgekaaDoor
open Go.RowKit Go.Lat

set_option maxHeartbeats 1600000 in
theorem FixedProducts_any (w : World) (a b : Int) (ht : Pow w) : Calls Tryd.prog 3 #[.int .i64 a, .int .i64 b] w fun e w' => e = .returned (.bool true) ∧ Upd w w' (fun _ => False) := by
  obtain ⟨V1, E1, A1, B1⟩ := Mul_both a b
  obtain ⟨V2, E2, A2, B2⟩ := Div_both a b
  obtain ⟨V3, E3, A3, B3⟩ := Mod_both a b
  go_enter Tryd.func3, Tryd.ntmps3
  go_wp2_with fail
  refine Calls.mono (A1 _) ?_
  rintro e w1 ⟨rfl, u1⟩
  go_wp2_with fail
  refine Calls.mono (B1 _) ?_
  rintro e w2 ⟨rfl, u2⟩
  go_wp2_with fail
  refine Calls.mono (A2 _) ?_
  rintro e w3 ⟨rfl, u3⟩
  go_wp2_with fail
  refine Calls.mono (B2 _) ?_
  rintro e w4 ⟨rfl, u4⟩
  go_wp2_with fail
  refine Calls.mono (A3 _) ?_
  rintro e w5 ⟨rfl, u5⟩
  go_wp2_with fail
  refine Calls.mono (B3 _) ?_
  rintro e w6 ⟨rfl, u6⟩
  go_wp2_with fail
  have uu := ((((u1.then u2 (fun _ _ => id)).then u3 (fun _ _ => id)).then u4 (fun _ _ => id)).then u5 (fun _ _ => id)).then u6 (fun _ _ => id)
  refine Calls.mono (wakes_any _ (ht.upd uu id)) ?_
  rintro e w9 ⟨rfl, u9⟩
  go_wp2_with fail
  go_ret
  exact ⟨by simp, uu.then u9 (fun _ _ => id)⟩
end Go.Proofs.YtckpomcenkgekaaDoor
