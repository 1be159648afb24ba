/- WebWhole holds: for every list of edges the law returns true and leaves its argument as it was. No condition. -/
import Derived.Test.YtcdimledeomahaaWholeI
import Derived.Test.YtcdimledeomahaaRows
import Derived.ChangeMaps5
set_option maxRecDepth 100000
namespace Go.Proofs.Ytcdimledeomahaa
open Go.ChangeShapes Go.WideShapes Go.ChangeAt Go.RowKit Go.Deep Go.Lat

theorem Try.own : ownKnob Try.prog.godebug = none := by kernel_rfl

theorem bounds_u8 {n : Int} (h : (Lit.int .u8 n).wf = true) : 0 ≤ n ∧ n < 256 := by
  have h' : IntKind.u8.min ≤ n ∧ n ≤ IntKind.u8.max := by simpa [Lit.wf] using h
  have e1 : IntKind.u8.min = 0 := by decide
  have e2 : IntKind.u8.max = 255 := by decide
  omega

/-- An argument of edges. -/
theorem edges_open {H : Type} {enc : TypeId × Value → H} {W : World} {base0 base : Nat} {spare : Nat → Bool} {held : Bool} {v : Value} {d : DataW H} {ps : List MemPlace} {r : Reach}
    (hv : Value.okWide Try.prog W r base0 22 v) (h : DataW.Trod enc Try.prog W base spare held 22 v d ps) : EgArg W v := by
  obtain ⟨a0, len, cap, rfl⟩ := okWide_slice Try.underlying22 hv
  obtain ⟨fuel, hf⟩ := h
  rcases open_slice_fields Try.underlying22 Try.underlying26 (by kernel_rfl) (by kernel_rfl) hf with h0 | ⟨a, len', cap', hcs, hl, hm, hi⟩
  · simp [Value.cells] at h0
    obtain ⟨rfl, rfl, rfl⟩ := h0
    exact ⟨none, 0, 0, rfl, by omega, by simp, fun _ => rfl, by omega⟩
  · simp [Value.cells] at hcs
    obtain ⟨rfl, rfl, rfl⟩ := hcs
    refine ⟨some a, len, cap, rfl, hl, hm, by simp, fun i hil => ?_⟩
    obtain ⟨n, hn⟩ := hi i hil
    obtain ⟨v0, y0, k0, t0⟩ := hn 0 _ rfl
    obtain ⟨v1, y1, k1, t1⟩ := hn 1 _ rfl
    obtain ⟨n0, e0, _, wf0⟩ := DataW.trod_int Try.underlying5 t0
    obtain ⟨n1, e1, _, wf1⟩ := DataW.trod_int Try.underlying5 t1
    simp at e0 e1
    subst e0 e1
    obtain ⟨b0, b1⟩ := bounds_u8 wf0
    obtain ⟨b2, b3⟩ := bounds_u8 wf1
    obtain ⟨m, hm0⟩ := hi 0 (by omega)
    obtain ⟨u0, z0, l0, _⟩ := hm0 0 _ rfl
    have hs := cell_spot l0
    obtain ⟨ab, ao, asp⟩ := a
    have hsp : asp = none := by
      cases asp with
      | none => rfl
      | some q => simp [Addr.add] at hs
    subst hsp
    have c0 : W.cell? ((⟨ab, ao, none⟩ : Addr).add (i * 2)) = some (.int .u8 n0) := by simpa using k0
    have c1 : W.cell? ((⟨ab, ao, none⟩ : Addr).add (i * 2 + 1)) = some (.int .u8 n1) := by simpa using k1
    rw [add_off] at c0 c1
    refine ⟨ab, ao, n0.toNat, n1.toNat, rfl, World.block_lt_of_cell? W _ c0, by omega, by omega, ?_, ?_⟩
    · rw [show ((n0.toNat : Nat) : Int) = n0 by omega]; exact c0
    · rw [show ((n1.toNat : Nat) : Int) = n1 by omega]; exact c1

set_option maxRecDepth 100000 in
theorem WebWhole_lifted (os : Os) (started : os.Started) (H : Type) (enc : TypeId × Value → H) :
    ReturnsInHanded {} Try.checked os 3 .any (Rows.webWholeSpec.pre6 enc Try.prog Try.f3 Rows.webWholeRow.domain false) (Rows.webWholeSpec.post enc Try.prog Try.f3 false true false false) := by
  refine returnsInHanded_of_change (C := Try.checked) Try.own started (by kernel_rfl) Try.func3
    (ChangeSpec.witness6 (enc := enc) (C := Try.checked) false ⟨#[], #[.slice none 0 0], []⟩ 8 (by kernel_rfl) (by kernel_rfl) (by kernel_rfl) (by kernel_rfl)) ?_
  intro W base args ds gs before hval0 hW hcnd _
  have hval : ∀ (j : Nat) t v, Try.f3.params[j]? = some t → args[j]? = some v → Value.okWide Try.prog W .any base t v := hval0
  have hW' := hW
  obtain ⟨p, q, hA0, hV, rfl, hfz, hnd⟩ := hW
  have hA : DataW.TrodAll enc Try.prog W 0 (fun _ => true) true Try.f3.params.toList args.toList ds p := hA0
  rw [Try.params3] at hA hval
  obtain ⟨v0, d0, rfl, rfl, h0⟩ := trodAll_one hA
  obtain ⟨rfl, rfl⟩ := trodVars_none hV
  have hAt := edges_open (hval 0 22 v0 rfl rfl) h0
  clear hA0 hval0
  refine (WebWhole_walk W v0 hAt).mono fun e W' ⟨he, hu⟩ => ?_
  exact ⟨_, he, law_post Try.laidOut hW' rfl rfl (by kernel_rfl) rfl Try.underlying4 hu⟩

theorem WebWhole_holds : Rows.WebWholeSaid :=
  OpenClaim.holds_of_wide 3 Try.f3 rfl rfl rfl rfl rfl rfl rfl ⟨rfl, rfl, rfl, rfl, rfl⟩ rfl rfl rfl rfl rfl (by kernel_rfl) Try.func3 (by kernel_rfl)
    (of_decide_eq_true (by kernel_rfl)) (by unfold Func.isWrapper; rw [if_neg (of_decide_eq_false (by kernel_rfl))]; exact ⟨rfl, rfl⟩)
    (fun os started H enc _ => WebWhole_lifted os started H enc)
#print axioms WebWhole_holds
end Go.Proofs.Ytcdimledeomahaa
