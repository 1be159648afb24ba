/- FlowPlays holds: for every window and every script the law returns true and leaves its arguments as they were. No condition. -/
import Derived.Test.YtfbmhfpffciojaaPlays
import Derived.Test.YtfbmhfpffciojaaTop
set_option maxRecDepth 100000
namespace Go.Proofs.Ytfbmhfpffciojaa
open Go.ChangeShapes Go.WideShapes Go.ChangeAt Go.RowKit Go.Deep Go.Lat

theorem Try.own : ownKnob Try.prog.godebug = none := by kernel_rfl
theorem Try.laidOut : laidOutB Try.prog = true := by kernel_rfl

/-- An argument of type []Act. -/
theorem acts_open {H : Type} {enc : TypeId × Value → H} {W : World} {base0 base : Nat} {spare : Nat → Bool} {held : Bool} {v : Value} {d : DataW H} {ps : List MemPlace} {r : Reach}
    (hv : Value.okWide Try.prog W r base0 31 v) (h : DataW.Trod enc Try.prog W base spare held 31 v d ps) :
    ∃ (n : Nat) (A : Nat → ActD), ActsAt W v n A ∧ ∀ i, i < n → -9223372036854775808 ≤ (A i).dov ∧ (A i).dov ≤ 9223372036854775807 := by
  obtain ⟨a0, len, cap, rfl⟩ := okWide_slice Try.underlying31 hv
  obtain ⟨fuel, hf⟩ := h
  rcases open_slice_fields Try.underlying31 Try.underlying37 (by kernel_rfl) (by kernel_rfl) hf with h0 | ⟨a, len', cap', hcs, hl, hm, hi⟩
  · simp [Value.cells] at h0
    obtain ⟨rfl, rfl, rfl⟩ := h0
    exact ⟨0, fun _ => ⟨0, 0, ByteArray.empty⟩, ⟨none, 0, rfl, by omega, by omega, by omega⟩, by omega⟩
  · simp [Value.cells] at hcs
    obtain ⟨rfl, rfl, rfl⟩ := hcs
    have hx : ∀ i, i < len → ∃ x : ActD, (W.cell? (a.add (i * 3)) = some (.int .i64 x.dov) ∧ W.cell? (a.add (i * 3 + 1)) = some (.int .i64 x.seq) ∧ W.cell? (a.add (i * 3 + 2)) = some (.string x.body)) ∧ -9223372036854775808 ≤ x.dov ∧ x.dov ≤ 9223372036854775807 := by
      intro i hil
      obtain ⟨n, hn⟩ := hi i hil
      obtain ⟨v0, y0, k0, t0⟩ := hn 0 _ rfl
      obtain ⟨v1, y1, k1, t1⟩ := hn 1 _ rfl
      obtain ⟨v2, y2, k2, t2⟩ := hn 2 _ rfl
      obtain ⟨n0, e0, _, wf0⟩ := DataW.trod_int Try.underlying3 t0
      obtain ⟨n1, e1, _, wf1⟩ := DataW.trod_int Try.underlying2 t1
      obtain ⟨s2, e2, _, wf2⟩ := DataW.trod_string Try.underlying9 t2
      simp at e0 e1 e2
      subst e0 e1 e2
      exact ⟨⟨n0, n1, s2⟩, ⟨by simpa using k0, by simpa using k1, by simpa using k2⟩, bounds_int wf0⟩
    obtain ⟨A, hA⟩ := choose_fn (⟨0, 0, ByteArray.empty⟩ : ActD) hx
    refine ⟨len, A, ⟨some a, cap, rfl, hl, by unfold maxLen at hm; omega, fun h0 => ?_⟩, fun i hil => (hA i hil).2⟩
    obtain ⟨⟨k0, _, _⟩, _⟩ := hA 0 h0
    have hs := cell_spot k0
    obtain ⟨ab, ao, asp⟩ := a
    have hsp : asp = none := by
      cases asp with
      | none => rfl
      | some q => simp [Addr.add] at hs
    subst hsp
    refine ⟨ab, ao, rfl, World.block_lt_of_cell? W _ k0, fun i hil => ?_⟩
    obtain ⟨⟨c0, c1, c2⟩, _⟩ := hA i hil
    rw [add_off] at c0 c1 c2
    exact ⟨c0, c1, c2⟩

set_option maxRecDepth 100000 in
theorem FlowPlays_lifted (os : Os) (started : os.Started) (H : Type) (enc : TypeId × Value → H) :
    ReturnsInHanded {} Try.checked os 6 .any (Rows.flowPlaysSpec.pre6 enc Try.prog Try.f6 Rows.flowPlaysRow.domain false) (Rows.flowPlaysSpec.post enc Try.prog Try.f6 false true false false) := by
  refine returnsInHanded_of_change (C := Try.checked) Try.own started (by kernel_rfl) Try.func6
    (ChangeSpec.witness6 (enc := enc) (C := Try.checked) false ⟨#[], #[.int .i64 0, .slice none 0 0], []⟩ 8 (by kernel_rfl) (by kernel_rfl) (by kernel_rfl) (by kernel_rfl)) ?_
  intro W base args ds gs before hval0 hW hcnd _
  have hval : ∀ (j : Nat) t v, Try.f6.params[j]? = some t → args[j]? = some v → Value.okWide Try.prog W .any base t v := hval0
  have hW' := hW
  obtain ⟨p, q, hA0, hV, rfl, hfz, hnd⟩ := hW
  have hA : DataW.TrodAll enc Try.prog W 0 (fun _ => true) true Try.f6.params.toList args.toList ds p := hA0
  rw [Try.params6] at hA hval
  obtain ⟨v0, v1, d0, d1, p0, p1, rfl, rfl, rfl, h0, h1⟩ := trodAll_two hA
  obtain ⟨rfl, rfl⟩ := trodVars_none hV
  obtain ⟨x0, rfl, rfl, rfl, wx⟩ := open_int Try.underlying3 (hval 0 3 v0 rfl rfl) h0
  obtain ⟨n, A, hAt, hbd⟩ := acts_open (hval 1 31 v1 rfl rfl) h1
  clear hA0 hval0
  refine (FlowPlays_any W x0 v1 n A hAt hbd).mono fun e W' ⟨he, hu⟩ => ?_
  exact ⟨_, he, law_post Try.laidOut hW' rfl rfl (by kernel_rfl) rfl Try.underlying4 hu⟩

theorem FlowPlays_holds : Rows.FlowPlaysSaid :=
  OpenClaim.holds_of_wide 6 Try.f6 rfl rfl rfl rfl rfl rfl rfl ⟨rfl, rfl, rfl, rfl, rfl⟩ rfl rfl rfl rfl rfl (by kernel_rfl) Try.func6 (by kernel_rfl)
    (of_decide_eq_true (by kernel_rfl)) (by unfold Func.isWrapper; rw [if_neg (of_decide_eq_false (by kernel_rfl))]; exact ⟨rfl, rfl⟩)
    (fun os started H enc _ => FlowPlays_lifted os started H enc)
#print axioms FlowPlays_holds
end Go.Proofs.Ytfbmhfpffciojaa
