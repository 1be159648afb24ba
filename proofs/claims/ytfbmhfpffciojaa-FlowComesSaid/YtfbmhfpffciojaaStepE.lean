/- The method step, all of its ways. -/
import Derived.Test.YtfbmhfpffciojaaStepA
import Derived.Test.YtfbmhfpffciojaaStepB
import Derived.Test.YtfbmhfpffciojaaStepC
import Derived.Test.YtfbmhfpffciojaaStepD
set_option maxRecDepth 100000
namespace Go.Proofs.Ytfbmhfpffciojaa
open Go.RowKit Go.Lat

theorem step_any (w : World) (eb : Nat) (own : Nat → Nat) (V : Bool → Vs) (s : Bool → Sd) (dv at_ : Int) (c : Bool) (hE : EndsAt w eb own V s) (sm : Small s) :
    Calls Try.prog 9 #[.pointer (some ⟨eb, 0, none⟩), .agg #[.int .i64 dv, .int .i64 at_, .bool c]] w (StepPost w eb own c s) := by
  have hw : wrap64 (dv.tmod 7 + 7) = dv.tmod 7 + 7 := by
    have h1 := Int.tmod_lt_of_pos dv (show (0 : Int) < 7 by omega)
    have h2 := Int.lt_tmod_of_pos dv (show (0 : Int) < 7 by omega)
    exact IntWalk.wrap64_in _ (by omega)
  have h1 := Int.tmod_lt_of_pos dv (show (0 : Int) < 7 by omega)
  have h2 := Int.lt_tmod_of_pos dv (show (0 : Int) < 7 by omega)
  have h3 : (wrap64 (dv.tmod 7 + 7)).tmod 7 = (dv.tmod 7 + 7) % 7 := by rw [hw, Int.tmod_eq_emod_of_nonneg (by omega)]
  have h4 := Int.emod_lt_of_pos (dv.tmod 7 + 7) (show (0 : Int) < 7 by omega)
  have h5 := Int.emod_nonneg (dv.tmod 7 + 7) (show (7 : Int) ≠ 0 by omega)
  rw [← h3] at h4 h5
  generalize hK : (wrap64 (dv.tmod 7 + 7)).tmod 7 = K at h4 h5
  by_cases hn : 0 < (s c).way.length
  · rcases (show K = 0 ∨ K = 1 ∨ K = 2 ∨ K = 3 ∨ K = 4 ∨ K = 5 ∨ K = 6 by omega) with rfl | rfl | rfl | rfl | rfl | rfl | rfl <;> cases c
    · exact step_send_f w eb own V s dv at_ hE sm hK
    · exact step_send_t w eb own V s dv at_ hE sm hK
    · exact step_ready_f w eb own V s dv at_ hE sm hK
    · exact step_ready_t w eb own V s dv at_ hE sm hK
    · exact step_tick_f w eb own V s dv at_ hE sm hK
    · exact step_tick_t w eb own V s dv at_ hE sm hK
    · exact step_lost_f w eb own V s dv at_ hE sm hK hn
    · exact step_lost_t w eb own V s dv at_ hE sm hK hn
    · exact step_drop_f w eb own V s dv at_ hE sm hK hn
    · exact step_drop_t w eb own V s dv at_ hE sm hK hn
    · exact step_dup_f w eb own V s dv at_ hE sm hK hn
    · exact step_dup_t w eb own V s dv at_ hE sm hK hn
    · exact step_stay_f w eb own V s dv at_ hE sm hK hn
    · exact step_stay_t w eb own V s dv at_ hE sm hK hn
  · have he : (s c).way = [] := List.eq_nil_of_length_eq_zero (by omega)
    by_cases h3' : 3 ≤ K
    · cases c
      · exact step_none_f w eb own V s dv at_ hE sm K hK h3' he
      · exact step_none_t w eb own V s dv at_ hE sm K hK h3' he
    · rcases (show K = 0 ∨ K = 1 ∨ K = 2 by omega) with rfl | rfl | rfl <;> cases c
      · exact step_send_f w eb own V s dv at_ hE sm hK
      · exact step_send_t w eb own V s dv at_ hE sm hK
      · exact step_ready_f w eb own V s dv at_ hE sm hK
      · exact step_ready_t w eb own V s dv at_ hE sm hK
      · exact step_tick_f w eb own V s dv at_ hE sm hK
      · exact step_tick_t w eb own V s dv at_ hE sm hK
end Go.Proofs.Ytfbmhfpffciojaa
