/- The laws FloatOrder and FloatClasses walked. -/
import Derived.Test.YtpdecbhlkblpfaaRefO
set_option maxRecDepth 100000
namespace Go.Proofs.Ytpdecbhlkblpfaa
open Go.RowKit Go.Lat

theorem FloatOrder_any (w : World) (b c : Nat) (hb : b < 18446744073709551616) (hc : c < 18446744073709551616) :
    Calls Try.prog 8 #[.int .u64 b, .int .u64 c] w fun e w' => e = .returned (.bool true) ∧ Upd w w' (fun _ => False) := by
  have f1 := frombits64 b
  have f2 := frombits64 c
  go_enter Try.func8, Try.ntmps8
  go_wp2_with fail
  refine Calls.mono (wakes_any w) ?_
  rintro e w1 ⟨rfl, hu⟩
  go_wp2_with fail
  refine Calls.mono (Order_any w1 b c hb hc) ?_
  rintro e w2 ⟨rfl, rfl⟩
  go_wp2_with fail
  refine Calls.mono (RefOrder_any w2 b c hb hc) ?_
  rintro e w3 ⟨rfl, rfl⟩
  go_wp2_with fail
  go_ret
  exact ⟨by simp, hu⟩

set_option maxHeartbeats 800000 in
theorem FloatClasses_any (w : World) (b : Nat) (hb : b < 18446744073709551616) :
    Calls Try.prog 3 #[.int .u64 b] w fun e w' => e = .returned (.bool true) ∧ Upd w w' (fun _ => False) := by
  have f1 := frombits64 b
  by_cases hn : cls b = 0
  · have hr : infR < rng b := (cls_nan b).1 hn
    have e1 : pm (rng b) = 0 := by
      unfold pm infR at *
      rw [if_pos (by unfold rng at *; omega)]
    have e2 : pe (rng b) = 0 := by
      unfold pe infR at *
      rw [if_pos (by unfold rng at *; omega)]
    have P1 := fun w => Parts_any w b hb
    have P2 := fun w => RefParts_any w b hb
    have O1 := fun w => Of_any w b hb
    have C1 := fun w => RefClass_any w b hb
    rw [e1, e2] at P1 P2
    rw [hn] at O1 C1
    clear e1 e2 hr hn
    go_enter Try.func3, Try.ntmps3
    go_wp2_with fail
    refine Calls.mono (P1 _) ?_
    rintro e w1 ⟨rfl, rfl⟩
    go_wp2_with fail
    refine Calls.mono (P2 _) ?_
    rintro e w1 ⟨rfl, rfl⟩
    go_wp2_with fail
    refine Calls.mono (O1 _) ?_
    rintro e w1 ⟨rfl, rfl⟩
    go_wp2_with fail
    refine Calls.mono (wakes_any _) ?_
    rintro e w1 ⟨rfl, hu⟩
    go_wp2_with fail
    refine Calls.mono (C1 _) ?_
    rintro e w2 ⟨rfl, rfl⟩
    go_wp2_with fail
    go_ret
    exact ⟨by simp, hu⟩
  · have P1 := fun w => Parts_any w b hb
    have P2 := fun w => RefParts_any w b hb
    have O1 := fun w => Of_any w b hb
    have C1 := fun w => RefClass_any w b hb
    have d1 : ((cls b : Int) == 0) = false := by simp; omega
    generalize pm (rng b) = m at P1 P2
    generalize pe (rng b) = p at P1 P2
    generalize sgn b = s at P1 P2
    generalize cls b = c at *
    clear hn
    go_enter Try.func3, Try.ntmps3
    go_wp2_with fail
    refine Calls.mono (P1 _) ?_
    rintro e w1 ⟨rfl, rfl⟩
    go_wp2_with fail
    refine Calls.mono (P2 _) ?_
    rintro e w1 ⟨rfl, rfl⟩
    go_wp2_with fail
    refine Calls.mono (O1 _) ?_
    rintro e w1 ⟨rfl, rfl⟩
    go_wp2_with fail
    refine Calls.mono (wakes_any _) ?_
    rintro e w1 ⟨rfl, hu⟩
    go_wp2_with fail
    refine Calls.mono (O1 _) ?_
    rintro e w2 ⟨rfl, rfl⟩
    go_wp2_with fail
    refine Calls.mono (C1 _) ?_
    rintro e w2 ⟨rfl, rfl⟩
    go_wp2_with fail
    go_ret
    exact ⟨by simp, hu⟩
end Go.Proofs.Ytpdecbhlkblpfaa
