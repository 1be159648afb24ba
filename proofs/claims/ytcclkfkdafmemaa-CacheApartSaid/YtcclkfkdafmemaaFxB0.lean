/- The walks of package fixed: sizes; what the reference lets be. -/
import Derived.Test.YtcclkfkdafmemaaFxA0
set_option maxRecDepth 100000
namespace Go.Proofs.Ytcclkfkdafmemaa
open Go.RowKit Go.Lat

theorem okNum_neg (b : Int) : okNum (-b) = okNum b := by
  unfold okNum
  rw [Bool.eq_iff_iff]
  simp only [Bool.and_eq_true, decide_eq_true_eq]
  omega

theorem RefGood_any (w : World) (a : Int) : Calls Try.prog 59 #[.int .i64 a] w fun e w' => e = .returned (.bool (okNum a)) ∧ w' = w := by
  unfold okNum
  by_cases h1 : -9000000000000000000 ≤ a
  · have d1 : decide (-9000000000000000000 ≤ a) = true := by simpa using h1
    rw [d1]
    go_enter Try.func59, Try.ntmps59
    go_wp2_with fail
    go_ret
    exact ⟨by simp, rfl⟩
  · have d1 : decide (-9000000000000000000 ≤ a) = false := by simpa using h1
    rw [d1]
    go_enter Try.func59, Try.ntmps59
    go_wp2_with fail
    go_ret
    exact ⟨rfl, rfl⟩

end Go.Proofs.Ytcclkfkdafmemaa
