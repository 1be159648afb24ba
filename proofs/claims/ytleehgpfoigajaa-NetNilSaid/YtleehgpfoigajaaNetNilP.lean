/- NetNil holds: for every script and every name the law returns true and leaves its arguments as they were. No condition. -/
import Derived.Test.YtleehgpfoigajaaNtG
import Derived.Test.YtleehgpfoigajaaNtArg
set_option maxRecDepth 100000
namespace Go.Proofs.Ytleehgpfoigajaa
open Go.ChangeShapes Go.WideShapes Go.ChangeAt Go.RowKit Go.Deep Go.Lat

set_option maxRecDepth 100000 in
theorem NetNil_lifted (os : Os) (started : os.Started) (H : Type) (enc : TypeId × Value → H) :
    ReturnsInHanded {} Try.checked os 6 .any (Rows.netNilSpec.pre6 enc Try.prog Try.f6 Rows.netNilRow.domain false) (Rows.netNilSpec.post enc Try.prog Try.f6 false true false false) := by
  refine returnsInHanded_of_change (C := Try.checked) Try.own started (by kernel_rfl) Try.func6
    (ChangeSpec.witness6 (enc := enc) (C := Try.checked) false ⟨#[], #[.slice none 0 0, .string ⟨#[]⟩], []⟩ 8 (by kernel_rfl) (by kernel_rfl) (by kernel_rfl) (by kernel_rfl)) ?_
  intro W base args ds gs before hval0 hW hcnd _
  have hval : ∀ (j : Nat) t v, Try.f6.params[j]? = some t → args[j]? = some v → Value.okWide Try.prog W .any base t v := hval0
  have hW' := hW
  obtain ⟨p, q, hA0, hV, rfl, hfz, hnd⟩ := hW
  have hA : DataW.TrodAll enc Try.prog W 0 (fun _ => true) true Try.f6.params.toList args.toList ds p := hA0
  rw [Try.params6] at hA hval
  obtain ⟨v0, v1, d0, d1, p0, p1, rfl, rfl, rfl, h0, h1⟩ := trodAll_two hA
  obtain ⟨rfl, rfl⟩ := trodVars_none hV
  obtain ⟨l, hl⟩ := acts_open (hval 0 31 v0 rfl rfl) h0
  obtain ⟨x1, rfl, rfl, rfl, wy⟩ := Go.ChangeMaps.open_string Try.underlying9 (hval 1 9 v1 rfl rfl) h1
  have es : Value.string x1 = encStr x1.data.toList := by
    show Value.string x1 = .string ⟨x1.data.toList.toArray⟩
    simp
  clear hA0 hval0
  have hw := NetNil_walk W v0 l hl x1.data.toList
  rw [← es] at hw
  refine hw.mono fun e W' ⟨he, hu⟩ => ?_
  exact ⟨_, he, law_post Try.laidOut hW' rfl rfl (by kernel_rfl) rfl Try.underlying4 hu⟩

theorem NetNil_holds : Rows.NetNilSaid :=
  OpenClaim.holds_of_wide 6 Try.f6 rfl rfl rfl rfl rfl rfl rfl ⟨rfl, rfl, rfl, rfl, rfl⟩ rfl rfl rfl rfl rfl (by kernel_rfl) Try.func6 (by kernel_rfl)
    (of_decide_eq_true (by kernel_rfl)) (by unfold Func.isWrapper; rw [if_neg (of_decide_eq_false (by kernel_rfl))]; exact ⟨rfl, rfl⟩)
    (fun os started H enc _ => NetNil_lifted os started H enc)
#print axioms NetNil_holds
end Go.Proofs.Ytleehgpfoigajaa
