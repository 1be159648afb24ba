/- FloatChain holds: for all bits the law returns true and leaves its argument as it was. No condition. -/
import Derived.Test.YtpdecbhlkblpfaaChain
import Derived.OpenShut
import Derived.Test.YtpdecbhlkblpfaaTop
set_option maxRecDepth 100000
namespace Go.Proofs.Ytpdecbhlkblpfaa
open Go.ChangeShapes Go.WideShapes Go.ChangeAt Go.RowKit Go.Deep Go.Lat

theorem Try.own : ownKnob Try.prog.godebug = none := by kernel_rfl
theorem Try.laidOut : laidOutB Try.prog = true := by kernel_rfl

theorem bounds_u64 {n : Int} (h : (Lit.int .u64 n).wf = true) : ∃ b : Nat, n = b ∧ b < 18446744073709551616 := by
  simp [Lit.wf, IntKind.min, IntKind.max, IntKind.signed, IntKind.bits] at h
  exact ⟨n.toNat, by omega, by omega⟩

/-- An argument of type [3]uint64. -/
theorem arr3_open {H : Type} {enc : TypeId × Value → H} {W : World} {base0 base : Nat} {spare : Nat → Bool} {held : Bool} {v : Value} {d : DataW H} {ps : List MemPlace} {r : Reach}
    (hv : Value.okWide Try.prog W r base0 49 v) (h : DataW.Trod enc Try.prog W base spare held 49 v d ps) :
    ∃ a b c : Nat, v = .agg #[.int .u64 a, .int .u64 b, .int .u64 c] ∧ a < 18446744073709551616 ∧ b < 18446744073709551616 ∧ c < 18446744073709551616 := by
  simp only [Value.okWide, Try.underlying49] at hv
  obtain ⟨cs, rfl, hs, _⟩ := hv
  obtain ⟨fuel, hf⟩ := h
  obtain ⟨xs, m, _, _, hl, hn, hi⟩ := DataW.trod_array Try.underlying49 hf
  have hC : Try.prog.cellsOf 22 = 1 := by kernel_rfl
  have hC3 : Try.prog.cellsOf 49 = 3 := by kernel_rfl
  rw [hC3] at hl
  simp only [Value.cells] at hl hi
  have one : ∀ i, i < 3 → ∃ a : Nat, cs.toList[i]? = some (.int .u64 a) ∧ a < 18446744073709551616 := by
    intro i hi3
    have h1 := hi i hi3
    rw [hC] at h1
    obtain ⟨y, hy⟩ : ∃ y, xs[i]? = some y := ⟨_, List.getElem?_eq_getElem (by omega)⟩
    rw [hy, Nat.mul_one, List.drop_eq_getElem_cons (by omega)] at h1
    obtain ⟨n, he, _, wf⟩ := DataW.trod_int Try.underlying22 h1
    obtain ⟨a, rfl, ha⟩ := bounds_u64 wf
    simp at he
    refine ⟨a, ?_, ha⟩
    rw [List.getElem?_eq_getElem (by omega)]
    simpa using he
  obtain ⟨a, ea, ha⟩ := one 0 (by omega)
  obtain ⟨b, eb, hb⟩ := one 1 (by omega)
  obtain ⟨c, ec, hc⟩ := one 2 (by omega)
  refine ⟨a, b, c, ?_, ha, hb, hc⟩
  congr 1
  apply Array.ext'
  obtain ⟨l⟩ := cs
  simp only at ea eb ec hl ⊢
  match l, hl with
  | [x, y, z], _ => simp at ea eb ec; rw [ea, eb, ec]

theorem FloatChain_lifted (os : Os) (started : os.Started) (H : Type) (enc : TypeId × Value → H) :
    ReturnsInHanded {} Try.checked os 9 .any (Rows.floatChainSpec.pre6 enc Try.prog Try.f9 Rows.floatChainRow.domain false) (Rows.floatChainSpec.post enc Try.prog Try.f9 false true false false) := by
  refine returnsInHanded_of_change (C := Try.checked) Try.own started (by kernel_rfl) Try.func9
    (ChangeSpec.witness6 (enc := enc) (C := Try.checked) false ⟨#[], #[.agg #[.int .u64 0, .int .u64 0, .int .u64 0]], []⟩ 8 (by kernel_rfl) (by kernel_rfl) (by kernel_rfl) (by kernel_rfl)) ?_
  intro W base args ds gs before hval0 hW hcnd _
  have hval : ∀ (j : Nat) t v, Try.f9.params[j]? = some t → args[j]? = some v → Value.okWide Try.prog W .any base t v := hval0
  have hW' := hW
  obtain ⟨p, q, hA0, hV, rfl, hfz, hnd⟩ := hW
  have hA : DataW.TrodAll enc Try.prog W 0 (fun _ => true) true Try.f9.params.toList args.toList ds p := hA0
  rw [Try.params9] at hA hval
  obtain ⟨v0, d0, rfl, rfl, h0⟩ := trodAll_one hA
  obtain ⟨rfl, rfl⟩ := trodVars_none hV
  obtain ⟨b, c, d, rfl, hb, hc, hd⟩ := arr3_open (hval 0 49 v0 rfl rfl) h0
  clear hA0 hval0
  refine (FloatChain_any W b c d hb hc hd).mono fun e W' ⟨he, hu⟩ => ?_
  exact ⟨_, he, law_post Try.laidOut hW' rfl rfl (by kernel_rfl) rfl Try.underlying4 hu⟩

theorem FloatChain_holds : Rows.FloatChainSaid :=
  OpenClaim.holds_of_wide 9 Try.f9 rfl rfl rfl rfl rfl rfl rfl ⟨rfl, rfl, rfl, rfl, rfl⟩ rfl rfl rfl rfl rfl (by kernel_rfl) Try.func9 (by kernel_rfl)
    (of_decide_eq_true (by kernel_rfl)) (by unfold Func.isWrapper; rw [if_neg (of_decide_eq_false (by kernel_rfl))]; exact ⟨rfl, rfl⟩)
    (fun os started H enc _ => FloatChain_lifted os started H enc)
#print axioms FloatChain_holds
end Go.Proofs.Ytpdecbhlkblpfaa
