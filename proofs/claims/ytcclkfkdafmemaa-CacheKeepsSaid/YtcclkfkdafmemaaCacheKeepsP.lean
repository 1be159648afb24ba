/- CacheKeeps holds: for all links and every number the law returns true and leaves its arguments as they were. No condition. -/
import Derived.Test.YtcclkfkdafmemaaCrP
set_option maxRecDepth 100000
namespace Go.Proofs.Ytcclkfkdafmemaa
open Go.ChangeShapes Go.WideShapes Go.ChangeAt Go.RowKit Go.Deep Go.Lat

set_option maxRecDepth 100000 in
theorem CacheKeeps_lifted (os : Os) (started : os.Started) (H : Type) (enc : TypeId × Value → H) :
    ReturnsInHanded {} Try.checked os 5 .any (Rows.cacheKeepsSpec.pre6 enc Try.prog Try.f5 Rows.cacheKeepsRow.domain false) (Rows.cacheKeepsSpec.post enc Try.prog Try.f5 false true false false) := by
  refine returnsInHanded_of_change (C := Try.checked) Try.own started (by kernel_rfl) Try.func5
    (ChangeSpec.witness6 (enc := enc) (C := Try.checked) false ⟨#[], #[.slice none 0 0, .slice none 0 0, .int .u8 0], []⟩ 8 (by kernel_rfl) (by kernel_rfl) (by kernel_rfl) (by kernel_rfl)) ?_
  intro W base args ds gs before hval0 hW hcnd _
  have hval : ∀ (j : Nat) t v, Try.f5.params[j]? = some t → args[j]? = some v → Value.okWide Try.prog W .any base t v := hval0
  have hW' := hW
  obtain ⟨p, q, hA0, hV, rfl, hfz, hnd⟩ := hW
  have hA : DataW.TrodAll enc Try.prog W 0 (fun _ => true) true Try.f5.params.toList args.toList ds p := hA0
  rw [Try.params5] at hA hval
  obtain ⟨v0, v1, v2, d0, d1, d2, p0, p1, p2, rfl, rfl, rfl, h0, h1, h2⟩ := trodAll_three hA
  obtain ⟨rfl, rfl⟩ := trodVars_none hV
  obtain ⟨a0, l0, c0, rfl⟩ := okWide_slice Try.underlying37 (hval 0 37 v0 rfl rfl)
  obtain ⟨f0, hf0⟩ := h0
  obtain ⟨l, hl⟩ := places_open hf0
  obtain ⟨a1, l1, c1, rfl⟩ := okWide_slice Try.underlying37 (hval 1 37 v1 rfl rfl)
  obtain ⟨f1, hf1⟩ := h1
  obtain ⟨m, hm⟩ := places_open hf1
  obtain ⟨z, rfl, rfl, rfl, wz⟩ := open_int Try.underlying5 (hval 2 5 v2 rfl rfl) h2
  have hz : 0 ≤ z ∧ z ≤ 255 := by
    simp [Lit.wf, IntKind.min, IntKind.max, IntKind.signed, IntKind.bits] at wz
    omega
  clear hA0 hval0
  have hw := CacheKeeps_walk W _ _ l m hl hm z hz.1 hz.2
  refine hw.mono fun e W' ⟨he, hu⟩ => ?_
  exact ⟨_, he, law_post Try.laidOut hW' rfl rfl (by kernel_rfl) rfl Try.underlying4 hu⟩

theorem CacheKeeps_holds : Rows.CacheKeepsSaid :=
  OpenClaim.holds_of_wide 5 Try.f5 rfl rfl rfl rfl rfl rfl rfl ⟨rfl, rfl, rfl, rfl, rfl⟩ rfl rfl rfl rfl rfl (by kernel_rfl) Try.func5 (by kernel_rfl)
    (of_decide_eq_true (by kernel_rfl)) (by unfold Func.isWrapper; rw [if_neg (of_decide_eq_false (by kernel_rfl))]; exact ⟨rfl, rfl⟩)
    (fun os started H enc _ => CacheKeeps_lifted os started H enc)
#print axioms CacheKeeps_holds
end Go.Proofs.Ytcclkfkdafmemaa
