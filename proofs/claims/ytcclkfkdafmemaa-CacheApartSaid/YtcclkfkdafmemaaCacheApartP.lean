/- CacheApart holds: for every script, name and truth value the law returns true and leaves its arguments as they were. No condition. -/
import Derived.Test.YtcclkfkdafmemaaCrQT
import Derived.Test.YtcclkfkdafmemaaCrQF
set_option maxRecDepth 100000
namespace Go.Proofs.Ytcclkfkdafmemaa
open Go.ChangeShapes Go.WideShapes Go.ChangeAt Go.RowKit Go.Deep Go.Lat

set_option maxRecDepth 100000 in
theorem CacheApart_lifted (os : Os) (started : os.Started) (H : Type) (enc : TypeId × Value → H) :
    ReturnsInHanded {} Try.checked os 6 .any (Rows.cacheApartSpec.pre6 enc Try.prog Try.f6 Rows.cacheApartRow.domain false) (Rows.cacheApartSpec.post enc Try.prog Try.f6 false true false false) := by
  refine returnsInHanded_of_change (C := Try.checked) Try.own started (by kernel_rfl) Try.func6
    (ChangeSpec.witness6 (enc := enc) (C := Try.checked) false ⟨#[], #[.slice none 0 0, .string ⟨#[]⟩, .bool false], []⟩ 8 (by kernel_rfl) (by kernel_rfl) (by kernel_rfl) (by kernel_rfl)) ?_
  intro W base args ds gs before hval0 hW hcnd _
  have hval : ∀ (j : Nat) t v, Try.f6.params[j]? = some t → args[j]? = some v → Value.okWide Try.prog W .any base t v := hval0
  have hW' := hW
  obtain ⟨p, q, hA0, hV, rfl, hfz, hnd⟩ := hW
  have hA : DataW.TrodAll enc Try.prog W 0 (fun _ => true) true Try.f6.params.toList args.toList ds p := hA0
  rw [Try.params6] at hA hval
  obtain ⟨v0, v1, v2, d0, d1, d2, p0, p1, p2, rfl, rfl, rfl, h0, h1, h2⟩ := trodAll_three hA
  obtain ⟨rfl, rfl⟩ := trodVars_none hV
  obtain ⟨a0, l0, c0, rfl⟩ := okWide_slice Try.underlying24 (hval 0 24 v0 rfl rfl)
  obtain ⟨f0, hf0⟩ := h0
  obtain ⟨l, hl⟩ := acts_open hf0
  obtain ⟨x1, rfl, rfl, rfl, wy⟩ := Go.ChangeMaps.open_string Try.underlying9 (hval 1 9 v1 rfl rfl) h1
  obtain ⟨q, rfl⟩ := okWide_bool Try.underlying4 (hval 2 4 v2 rfl rfl)
  clear hA0 hval0
  have es : enS x1.data.toList = .string x1 := by
    show Value.string ⟨x1.data.toList.toArray⟩ = .string x1
    simp
  have hw : Calls Try.prog 6 #[.slice a0 l0 c0, .string x1, .bool q] W fun e w' => e = .returned (.bool true) ∧ Upd W w' (fun _ => False) := by
    have hn : x1.data.toList.length ≤ maxLen := by simpa using wy
    cases q with
    | true =>
      have k := CacheApart_walkT W _ l hl x1.data.toList hn
      rwa [es] at k
    | false =>
      have k := CacheApart_walkF W _ l hl x1.data.toList hn
      rwa [es] at k
  refine hw.mono fun e W' ⟨he, hu⟩ => ?_
  exact ⟨_, he, law_post Try.laidOut hW' rfl rfl (by kernel_rfl) rfl Try.underlying4 hu⟩

theorem CacheApart_holds : Rows.CacheApartSaid :=
  OpenClaim.holds_of_wide 6 Try.f6 rfl rfl rfl rfl rfl rfl rfl ⟨rfl, rfl, rfl, rfl, rfl⟩ rfl rfl rfl rfl rfl (by kernel_rfl) Try.func6 (by kernel_rfl)
    (of_decide_eq_true (by kernel_rfl)) (by unfold Func.isWrapper; rw [if_neg (of_decide_eq_false (by kernel_rfl))]; exact ⟨rfl, rfl⟩)
    (fun os started H enc _ => CacheApart_lifted os started H enc)
#print axioms CacheApart_holds
end Go.Proofs.Ytcclkfkdafmemaa
