/- The graph laws' arguments, opened: edges, nodes. -/
import Derived.Test.YtnhggncpebifhaaGtA
import Derived.Test.YtnhggncpebifhaaRows
import Derived.ChangeMaps5
import Derived.OpenShut
set_option maxRecDepth 100000
namespace Go.Proofs.Ytnhggncpebifhaa
open Go.ChangeShapes Go.WideShapes Go.ChangeAt Go.RowKit Go.Deep Go.Lat

theorem Try.own : ownKnob Try.prog.godebug = none := by kernel_rfl
theorem Try.laidOut : laidOutB Try.prog = true := by kernel_rfl
theorem plain_spot {W : World} {a : Addr} {v : Value} (h : W.cell? (a.add 0) = some v) : ∃ b o, a = ⟨b, o, none⟩ := by
  have hs := cell_spot h
  obtain ⟨ab, ao, asp⟩ := a
  cases asp with
  | none => exact ⟨ab, ao, rfl⟩
  | some q => simp [Addr.add] at hs
theorem ints_open {H : Type} {enc : TypeId × Value → H} {W : World} {base0 base : Nat} {spare : Nat → Bool} {held : Bool} {v : Value} {d : DataW H} {ps : List MemPlace} {r : Reach}
    (hv : Value.okWide Try.prog W r base0 29 v) (h : DataW.Trod enc Try.prog W base spare held 29 v d ps) : ∃ a L c l, v = .slice a L c ∧ l.length = L ∧ L ≤ c ∧ L ≤ 9223372036854775807 ∧ RdI W a l := by
  obtain ⟨a0, len, cap, rfl⟩ := okWide_slice Try.underlying29 hv
  obtain ⟨fuel, hf⟩ := h
  rcases open_ints Try.underlying29 Try.underlying3 (by kernel_rfl) hf with ⟨hcs, _⟩ | ⟨a, len', cap', zs, hcs, hb, hl, hm, hz, hxd, hcell, hwz⟩
  · simp [Value.cells] at hcs
    obtain ⟨rfl, rfl, rfl⟩ := hcs
    exact ⟨none, 0, 0, [], rfl, rfl, Nat.le_refl _, by omega, RdI.nil _ _⟩
  · simp [Value.cells] at hcs
    obtain ⟨rfl, rfl, rfl⟩ := hcs
    have hzl : len ≤ zs.length := by rw [hz]; split <;> omega
    refine ⟨some a, len, cap, zs.take len, rfl, by rw [List.length_take, Nat.min_eq_left hzl], hl, by unfold maxLen at hm; omega, fun i x hx => ?_⟩
    have hi : i < len := by
      have := (List.getElem?_eq_some_iff.1 hx).1
      rw [List.length_take] at this
      omega
    rw [List.getElem?_take_of_lt hi] at hx
    have hc := hcell i (by omega)
    obtain ⟨b, o, rfl⟩ := plain_spot (hcell 0 (by omega))
    rw [add_off] at hc
    refine ⟨b, o, rfl, World.block_lt_of_cell? W _ hc, ?_⟩
    rw [hc, List.getD_eq_getElem?_getD, hx]
    rfl
theorem edges_open {H : Type} {enc : TypeId × Value → H} {W : World} {base0 base : Nat} {spare : Nat → Bool} {held : Bool} {v : Value} {d : DataW H} {ps : List MemPlace} {r : Reach}
    (hv : Value.okWide Try.prog W r base0 22 v) (h : DataW.Trod enc Try.prog W base spare held 22 v d ps) : ∃ a L c l, v = .slice a L c ∧ l.length = L ∧ L ≤ c ∧ EdRd W a l := by
  obtain ⟨a0, len, cap, rfl⟩ := okWide_slice Try.underlying22 hv
  obtain ⟨fuel, hf⟩ := h
  have hC : Try.prog.cellsOf 37 = 2 := by kernel_rfl
  have hC1 : Try.prog.cellsOf 3 = 1 := by kernel_rfl
  rcases open_slice Try.underlying22 hf with ⟨hcs, _⟩ | ⟨a, len', cap', m, n, D, Pl, hcs, hb, hl, hm, hmm, hx, hi⟩
  · simp [Value.cells] at hcs
    obtain ⟨rfl, rfl, rfl⟩ := hcs
    exact ⟨none, 0, 0, [], rfl, rfl, Nat.le_refl _, fun i x hx => by simp at hx⟩
  · simp [Value.cells] at hcs
    obtain ⟨rfl, rfl, rfl⟩ := hcs
    have key : ∀ i, i < len → ∃ x : Int × Int, W.cell? (a.add (i * 2)) = some (.int .i64 x.1) ∧ W.cell? (a.add (i * 2 + 1)) = some (.int .i64 x.2) := by
      intro i hil
      obtain ⟨cs', hc, ht'⟩ := hi i (by rw [hmm]; split <;> omega)
      rw [hC] at hc
      obtain ⟨xs, m', hm', hx', hcl, hxl, hat⟩ := DataW.trod_array Try.underlying37 ht'
      obtain ⟨_, hcl2, hce⟩ := World.cells?_some hc
      rw [hC1] at hat
      have h0 := hat 0 (by omega)
      have h1 := hat 1 (by omega)
      match cs', hcl2, hce, h0, h1 with
      | [c0, c1], _, hce, h0, h1 =>
        have q0 := hce 0 (by omega)
        have q1 := hce 1 (by omega)
        match xs, hxl, h0, h1 with
        | [x0, x1], _, h0, h1 =>
          obtain ⟨n0, e0, _, _⟩ := DataW.trod_int Try.underlying3 h0
          obtain ⟨n1, e1, _, _⟩ := DataW.trod_int Try.underlying3 h1
          simp at e0 e1
          subst e0 e1
          refine ⟨(n0, n1), ?_, ?_⟩
          · rw [Go.Deep.add_add] at q0
            simpa using q0
          · rw [Go.Deep.add_add] at q1
            simpa using q1
    obtain ⟨A, hA⟩ := choose_fn ((0, 0) : Int × Int) key
    refine ⟨some a, len, cap, (List.range len).map A, rfl, by simp, hl, fun i x hx => ?_⟩
    have hil : i < len := by have := (List.getElem?_eq_some_iff.1 hx).1; simpa using this
    have hxA : A i = x := by simpa [hil] using hx
    subst hxA
    obtain ⟨k0, k1⟩ := hA i hil
    have k9 := (hA 0 (by omega)).1
    rw [Nat.zero_mul] at k9
    obtain ⟨b, o, rfl⟩ := plain_spot k9
    rw [add_off] at k0 k1
    exact ⟨b, o, rfl, World.block_lt_of_cell? W _ k0, k0, by rw [Nat.add_assoc]; exact k1⟩
end Go.Proofs.Ytnhggncpebifhaa
