/- The net laws' argument of calls, opened. -/
import Derived.Test.YtleehgpfoigajaaNtF
import Derived.Test.YtleehgpfoigajaaRows
import Derived.ChangeMaps5
set_option maxRecDepth 100000
namespace Go.Proofs.Ytleehgpfoigajaa
open Go.ChangeShapes Go.WideShapes Go.ChangeAt Go.RowKit Go.Deep Go.Lat

theorem Try.own : ownKnob Try.prog.godebug = none := by kernel_rfl

theorem acts_open {H : Type} {enc : TypeId × Value → H} {W : World} {base0 base : Nat} {spare : Nat → Bool} {held : Bool} {v : Value} {d : DataW H} {ps : List MemPlace} {r : Reach}
    (hv : Value.okWide Try.prog W r base0 31 v) (h : DataW.Trod enc Try.prog W base spare held 31 v d ps) : ∃ l, AcArg W v l := by
  obtain ⟨a0, len, cap, rfl⟩ := okWide_slice Try.underlying31 hv
  obtain ⟨fuel, hf⟩ := h
  rcases open_slice_fields Try.underlying31 Try.underlying34 (by kernel_rfl) (by kernel_rfl) hf with h0 | ⟨a, len', cap', hcs, hl, hm, hi⟩
  · simp [Value.cells] at h0
    obtain ⟨rfl, rfl, rfl⟩ := h0
    exact ⟨[], none, 0, rfl, by simp, by simp, fun _ => rfl, fun i x hx => by simp at hx⟩
  · simp [Value.cells] at hcs
    obtain ⟨rfl, rfl, rfl⟩ := hcs
    have hx : ∀ i, i < len → ∃ x : AcD, (W.cell? (a.add (i * 5)) = some (.int .i64 x.dov) ∧ W.cell? (a.add (i * 5 + 1)) = some (.int .i64 x.i) ∧ W.cell? (a.add (i * 5 + 2)) = some (encStr x.f) ∧ W.cell? (a.add (i * 5 + 3)) = some (encStr x.t) ∧ W.cell? (a.add (i * 5 + 4)) = some (encStr x.s)) ∧
        x.f.length ≤ maxLen ∧ x.t.length ≤ maxLen ∧ x.s.length ≤ maxLen ∧ -9223372036854775808 ≤ x.dov ∧ x.dov ≤ 9223372036854775807 ∧ -9223372036854775808 ≤ x.i ∧ x.i ≤ 9223372036854775807 := by
      intro i hil
      obtain ⟨n, hn⟩ := hi i hil
      obtain ⟨v0, y0, k0, t0⟩ := hn 0 _ rfl
      obtain ⟨v1, y1, k1, t1⟩ := hn 1 _ rfl
      obtain ⟨v2, y2, k2, t2⟩ := hn 2 _ rfl
      obtain ⟨v3, y3, k3, t3⟩ := hn 3 _ rfl
      obtain ⟨v4, y4, k4, t4⟩ := hn 4 _ rfl
      obtain ⟨n0, e0, _, wf0⟩ := DataW.trod_int Try.underlying3 t0
      obtain ⟨n1, e1, _, wf1⟩ := DataW.trod_int Try.underlying3 t1
      obtain ⟨s2, e2, _, wf2⟩ := DataW.trod_string Try.underlying9 t2
      obtain ⟨s3, e3, _, wf3⟩ := DataW.trod_string Try.underlying9 t3
      obtain ⟨s4, e4, _, wf4⟩ := DataW.trod_string Try.underlying9 t4
      simp at e0 e1 e2 e3 e4
      subst e0 e1 e2 e3 e4
      obtain ⟨b0, b1⟩ := bounds_int wf0
      obtain ⟨b2, b3⟩ := bounds_int wf1
      have es : ∀ s : ByteArray, encStr s.data.toList = .string s := fun s => by
        show Value.string ⟨s.data.toList.toArray⟩ = .string s
        simp
      refine ⟨⟨n0, n1, s2.data.toList, s3.data.toList, s4.data.toList⟩, ⟨by simpa using k0, by simpa using k1, ?_, ?_, ?_⟩, ?_, ?_, ?_, b0, b1, b2, b3⟩
      · rw [es]; simpa using k2
      · rw [es]; simpa using k3
      · rw [es]; simpa using k4
      · exact wf2
      · exact wf3
      · exact wf4
    obtain ⟨A, hA⟩ := choose_fn (⟨0, 0, [], [], []⟩ : AcD) hx
    refine ⟨(List.range len).map A, some a, cap, by simp, by simpa using hl, hm, by simp, fun i x hx => ?_⟩
    have hil : i < len := by have := (List.getElem?_eq_some_iff.1 hx).1; simpa using this
    have hxA : A i = x := by simpa [hil] using hx
    subst hxA
    obtain ⟨⟨l0, _⟩, _⟩ := hA 0 (by omega)
    have hs := cell_spot l0
    obtain ⟨ab, ao, asp⟩ := a
    have hsp : asp = none := by
      cases asp with
      | none => rfl
      | some q => simp [Addr.add] at hs
    subst hsp
    obtain ⟨⟨k0, k1, k2, k3, k4⟩, o⟩ := hA i hil
    simp only [add_off, ← Nat.add_assoc] at k0 k1 k2 k3 k4
    exact ⟨ab, ao, rfl, World.block_lt_of_cell? W _ k0, k0, k1, k2, k3, k4, o⟩
end Go.Proofs.Ytleehgpfoigajaa
