/- FlowComes holds: for every window and every script the law returns true and leaves its arguments as they were. No condition. -/
import Derived.Test.YtfbmhfpffciojaaComes
import Derived.Test.YtfbmhfpffciojaaTop
set_option maxRecDepth 100000
namespace Go.Proofs.Ytfbmhfpffciojaa
open Go.ChangeShapes Go.WideShapes Go.ChangeAt Go.RowKit Go.Deep Go.Lat

theorem Try.own : ownKnob Try.prog.godebug = none := by kernel_rfl
theorem Try.laidOut : laidOutB Try.prog = true := by kernel_rfl

/-- An argument of type []Step. -/
theorem steps_open {H : Type} {enc : TypeId × Value → H} {W : World} {base0 base : Nat} {spare : Nat → Bool} {held : Bool} {v : Value} {d : DataW H} {ps : List MemPlace} {r : Reach}
    (hv : Value.okWide Try.prog W r base0 22 v) (h : DataW.Trod enc Try.prog W base spare held 22 v d ps) :
    ∃ (n : Nat) (A : Nat → StepD), StepsAt W v n A := by
  obtain ⟨a0, len, cap, rfl⟩ := okWide_slice Try.underlying22 hv
  obtain ⟨fuel, hf⟩ := h
  rcases open_slice_fields Try.underlying22 Try.underlying28 (by kernel_rfl) (by kernel_rfl) hf with h0 | ⟨a, len', cap', hcs, hl, hm, hi⟩
  · simp [Value.cells] at h0
    obtain ⟨rfl, rfl, rfl⟩ := h0
    exact ⟨0, fun _ => ⟨0, 0, false⟩, ⟨none, 0, rfl, by omega, by omega, by omega⟩⟩
  · simp [Value.cells] at hcs
    obtain ⟨rfl, rfl, rfl⟩ := hcs
    have hx : ∀ i, i < len → ∃ x : StepD, W.cell? (a.add (i * 3)) = some (.int .i64 x.dov) ∧ W.cell? (a.add (i * 3 + 1)) = some (.int .i64 x.at_) ∧ W.cell? (a.add (i * 3 + 2)) = some (.bool x.other) := by
      intro i hil
      obtain ⟨n, hn⟩ := hi i hil
      obtain ⟨v0, y0, k0, t0⟩ := hn 0 _ rfl
      obtain ⟨v1, y1, k1, t1⟩ := hn 1 _ rfl
      obtain ⟨v2, y2, k2, t2⟩ := hn 2 _ rfl
      obtain ⟨n0, e0, _, wf0⟩ := DataW.trod_int Try.underlying3 t0
      obtain ⟨n1, e1, _, wf1⟩ := DataW.trod_int Try.underlying3 t1
      obtain ⟨s2, e2, _⟩ := DataW.trod_bool Try.underlying4 t2
      simp at e0 e1 e2
      subst e0 e1 e2
      exact ⟨⟨n0, n1, s2⟩, by simpa using k0, by simpa using k1, by simpa using k2⟩
    obtain ⟨A, hA⟩ := choose_fn (⟨0, 0, false⟩ : StepD) hx
    refine ⟨len, A, ⟨some a, cap, rfl, hl, by unfold maxLen at hm; omega, fun h0 => ?_⟩⟩
    obtain ⟨k0, _, _⟩ := hA 0 h0
    have hs := cell_spot k0
    obtain ⟨ab, ao, asp⟩ := a
    have hsp : asp = none := by
      cases asp with
      | none => rfl
      | some q => simp [Addr.add] at hs
    subst hsp
    refine ⟨ab, ao, rfl, World.block_lt_of_cell? W _ k0, fun i hil => ?_⟩
    obtain ⟨c0, c1, c2⟩ := hA i hil
    rw [add_off] at c0 c1 c2
    exact ⟨c0, c1, c2⟩

set_option maxRecDepth 100000 in
theorem FlowComes_lifted (os : Os) (started : os.Started) (H : Type) (enc : TypeId × Value → H) :
    ReturnsInHanded {} Try.checked os 5 .any (Rows.flowComesSpec.pre6 enc Try.prog Try.f5 Rows.flowComesRow.domain false) (Rows.flowComesSpec.post enc Try.prog Try.f5 false true false false) := by
  refine returnsInHanded_of_change (C := Try.checked) Try.own started (by kernel_rfl) Try.func5
    (ChangeSpec.witness6 (enc := enc) (C := Try.checked) false ⟨#[], #[.int .i64 0, .slice none 0 0], []⟩ 8 (by kernel_rfl) (by kernel_rfl) (by kernel_rfl) (by kernel_rfl)) ?_
  intro W base args ds gs before hval0 hW hcnd _
  have hval : ∀ (j : Nat) t v, Try.f5.params[j]? = some t → args[j]? = some v → Value.okWide Try.prog W .any base t v := hval0
  have hW' := hW
  obtain ⟨p, q, hA0, hV, rfl, hfz, hnd⟩ := hW
  have hA : DataW.TrodAll enc Try.prog W 0 (fun _ => true) true Try.f5.params.toList args.toList ds p := hA0
  rw [Try.params5] at hA hval
  obtain ⟨v0, v1, d0, d1, p0, p1, rfl, rfl, rfl, h0, h1⟩ := trodAll_two hA
  obtain ⟨rfl, rfl⟩ := trodVars_none hV
  obtain ⟨x0, rfl, rfl, rfl, wx⟩ := open_int Try.underlying3 (hval 0 3 v0 rfl rfl) h0
  obtain ⟨n, A, hAt⟩ := steps_open (hval 1 22 v1 rfl rfl) h1
  clear hA0 hval0
  refine (FlowComes_any W x0 v1 n A hAt).mono fun e W' ⟨he, hu⟩ => ?_
  exact ⟨_, he, law_post Try.laidOut hW' rfl rfl (by kernel_rfl) rfl Try.underlying4 hu⟩

theorem FlowComes_holds : Rows.FlowComesSaid :=
  OpenClaim.holds_of_wide 5 Try.f5 rfl rfl rfl rfl rfl rfl rfl ⟨rfl, rfl, rfl, rfl, rfl⟩ rfl rfl rfl rfl rfl (by kernel_rfl) Try.func5 (by kernel_rfl)
    (of_decide_eq_true (by kernel_rfl)) (by unfold Func.isWrapper; rw [if_neg (of_decide_eq_false (by kernel_rfl))]; exact ⟨rfl, rfl⟩)
    (fun os started H enc _ => FlowComes_lifted os started H enc)
#print axioms FlowComes_holds
end Go.Proofs.Ytfbmhfpffciojaa
