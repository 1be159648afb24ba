/- GraphLong holds: for every argument the law returns true and leaves its arguments as they were. No condition. -/
import Derived.Test.YtnhggncpebifhaaGtF
import Derived.Test.YtnhggncpebifhaaGtArg
set_option maxRecDepth 100000
namespace Go.Proofs.Ytnhggncpebifhaa
open Go.ChangeShapes Go.WideShapes Go.ChangeAt Go.RowKit Go.Deep Go.Lat

set_option maxRecDepth 100000 in
theorem GraphLong_lifted (os : Os) (started : os.Started) (H : Type) (enc : TypeId × Value → H) :
    ReturnsInHanded {} Try.checked os 7 .any (Rows.graphLongSpec.pre6 enc Try.prog Try.f7 Rows.graphLongRow.domain false) (Rows.graphLongSpec.post enc Try.prog Try.f7 false true false false) := by
  refine returnsInHanded_of_change (C := Try.checked) Try.own started (by kernel_rfl) Try.func7
    (ChangeSpec.witness6 (enc := enc) (C := Try.checked) false ⟨#[], #[.int .u16 0, .bool false], []⟩ 8 (by kernel_rfl) (by kernel_rfl) (by kernel_rfl) (by kernel_rfl)) ?_
  intro W base args ds gs before hval0 hW hcnd _
  have hval : ∀ (j : Nat) t v, Try.f7.params[j]? = some t → args[j]? = some v → Value.okWide Try.prog W .any base t v := hval0
  have hW' := hW
  obtain ⟨p, q, hA0, hV, rfl, hfz, hnd⟩ := hW
  have hA : DataW.TrodAll enc Try.prog W 0 (fun _ => true) true Try.f7.params.toList args.toList ds p := hA0
  rw [Try.params7] at hA hval
  obtain ⟨v0, v1, d0, d1, p0, p1, rfl, rfl, rfl, h0, h1⟩ := trodAll_two hA
  obtain ⟨rfl, rfl⟩ := trodVars_none hV
  obtain ⟨x0, rfl, rfl, rfl, wx⟩ := open_int Try.underlying38 (hval 0 38 v0 rfl rfl) h0
  obtain ⟨b1, rfl, rfl, rfl⟩ := open_bool Try.underlying4 (hval 1 4 v1 rfl rfl) h1
  clear hA0 hval0
  refine (GraphLong_walk W x0 (bounds_u16 wx) b1).mono fun e W' ⟨he, hu⟩ => ?_
  exact ⟨_, he, law_post Try.laidOut hW' rfl rfl (by kernel_rfl) rfl Try.underlying4 hu⟩

theorem GraphLong_holds : Rows.GraphLongSaid :=
  OpenClaim.holds_of_wide 7 Try.f7 rfl rfl rfl rfl rfl rfl rfl ⟨rfl, rfl, rfl, rfl, rfl⟩ rfl rfl rfl rfl rfl (by kernel_rfl) Try.func7 (by kernel_rfl)
    (of_decide_eq_true (by kernel_rfl)) (by unfold Func.isWrapper; rw [if_neg (of_decide_eq_false (by kernel_rfl))]; exact ⟨rfl, rfl⟩)
    (fun os started H enc _ => GraphLong_lifted os started H enc)
#print axioms GraphLong_holds
end Go.Proofs.Ytnhggncpebifhaa
