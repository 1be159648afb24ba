/- WebNil holds: for every name, all cells and every place the law returns true and leaves its arguments as they were. No condition. -/
import Derived.Test.YtcdimledeomahaaWebS
import Derived.Test.YtcdimledeomahaaWebArg
import Derived.Test.YtcdimledeomahaaRows
import Derived.ChangeMaps5
set_option maxRecDepth 100000
namespace Go.Proofs.Ytcdimledeomahaa
open Go.ChangeShapes Go.WideShapes Go.ChangeAt Go.RowKit Go.Deep Go.Lat

theorem Try.own : ownKnob Try.prog.godebug = none := by kernel_rfl

set_option maxRecDepth 100000 in
theorem WebNil_lifted (os : Os) (started : os.Started) (H : Type) (enc : TypeId × Value → H) :
    ReturnsInHanded {} Try.checked os 5 .any (Rows.webNilSpec.pre6 enc Try.prog Try.f5 Rows.webNilRow.domain false) (Rows.webNilSpec.post enc Try.prog Try.f5 false true false false) := by
  refine returnsInHanded_of_change (C := Try.checked) Try.own started (by kernel_rfl) Try.func5
    (ChangeSpec.witness6 (enc := enc) (C := Try.checked) false ⟨#[], #[.string ⟨#[]⟩, .slice none 0 0, .agg #[.string ⟨#[]⟩, .string ⟨#[]⟩, .int .i64 0, .int .i64 0]], []⟩ 8 (by kernel_rfl) (by kernel_rfl) (by kernel_rfl) (by kernel_rfl)) ?_
  intro W base args ds gs before hval0 hW hcnd _
  have hval : ∀ (j : Nat) t v, Try.f5.params[j]? = some t → args[j]? = some v → Value.okWide Try.prog W .any base t v := hval0
  have hW' := hW
  obtain ⟨p, q, hA0, hV, rfl, hfz, hnd⟩ := hW
  have hA : DataW.TrodAll enc Try.prog W 0 (fun _ => true) true Try.f5.params.toList args.toList ds p := hA0
  rw [Try.params5] at hA hval
  obtain ⟨v0, v1, v2, d0, d1, d2, p0, p1, p2, rfl, rfl, rfl, h0, h1, h2⟩ := trodAll_three hA
  obtain ⟨rfl, rfl⟩ := trodVars_none hV
  obtain ⟨x0, rfl, rfl, rfl, wx⟩ := Go.ChangeMaps.open_string Try.underlying9 (hval 0 9 v0 rfl rfl) h0
  obtain ⟨a1, l1, c1, rfl⟩ := okWide_slice Try.underlying59 (hval 1 59 v1 rfl rfl)
  obtain ⟨f1, hf1⟩ := h1
  obtain ⟨cs, hcs⟩ := cells_open hf1
  have o2 := hval 2 75 v2 rfl rfl
  obtain ⟨f2, hf2⟩ := h2
  obtain ⟨bs, rfl, -⟩ := okWide_struct Try.underlying75 o2
  obtain ⟨x, hx⟩ := place_open hf2
  have hbs : bs = #[encStr x.b, encStr x.s, .int .i64 x.c, .int .i64 x.r] := Array.ext' hx
  subst hbs
  clear hA0 hval0
  refine (WebNil_walk W x0 _ cs hcs x.b x.s x.c x.r).mono fun e W' ⟨he, hu⟩ => ?_
  exact ⟨_, he, law_post Try.laidOut hW' rfl rfl (by kernel_rfl) rfl Try.underlying4 hu⟩

theorem WebNil_holds : Rows.WebNilSaid :=
  OpenClaim.holds_of_wide 5 Try.f5 rfl rfl rfl rfl rfl rfl rfl ⟨rfl, rfl, rfl, rfl, rfl⟩ rfl rfl rfl rfl rfl (by kernel_rfl) Try.func5 (by kernel_rfl)
    (of_decide_eq_true (by kernel_rfl)) (by unfold Func.isWrapper; rw [if_neg (of_decide_eq_false (by kernel_rfl))]; exact ⟨rfl, rfl⟩)
    (fun os started H enc _ => WebNil_lifted os started H enc)
#print axioms WebNil_holds
end Go.Proofs.Ytcdimledeomahaa
