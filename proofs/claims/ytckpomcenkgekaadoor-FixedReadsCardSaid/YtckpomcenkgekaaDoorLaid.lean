/- What the row's listed variables give the walks: the table of the powers of 10. -/
import Derived.Test.YtckpomcenkgekaaDoorFmt
import Derived.Test.YtckpomcenkgekaaDoorTop
import Derived.Test.YtckpomcenkgekaaDoorRows
import Derived.ProofKit
import Derived.OpenShut
import Derived.LaidMore
import Derived.Lay
import Derived.Stop.Joined
set_option maxRecDepth 100000
namespace Go.Proofs.YtckpomcenkgekaaDoor
open Go.ChangeShapes Go.WideShapes Go.ChangeAt Go.RowKit Go.Lat

theorem Tryd.own : ownKnob Tryd.prog.godebug = none := by kernel_rfl
theorem Tryd.laidOut : laidOutB Tryd.prog = true := by kernel_rfl

theorem pow_of_laid {W : World} (h : laidMetH Tryd.prog Rows.fixedSumsRow.laid W) : Pow W := by
  rw [MakeChecks.laidMetH_plain _ _ _ (by kernel_rfl)] at h
  obtain ⟨ps, ⟨g0, t0, cs0, f0, p0, q0, hg0, ht0, hv0, hd0, ⟨g1, t1, cs1, f1, p1, q1, hg1, ht1, hv1, hd1, ⟨g, t, cs, fuel, p, q, hg, ht, hv, hd, _, _⟩, _⟩, _⟩, _, _⟩ := h
  have h5 : (some 5 : Option Nat) = some g := by rw [← hg]; kernel_rfl
  obtain rfl := Option.some.inj h5
  have h6 : (some 108 : Option Nat) = some t := by rw [← ht]; kernel_rfl
  obtain rfl := Option.some.inj h6
  obtain ⟨xs, m, _, ex, _, hl, hel⟩ := DataW.trod_array Tryd.underlying108 hd
  have c5 : Tryd.prog.cellsOf 47 = 1 := by kernel_rfl
  have e3 : (xs.map (·.1)) = (List.range 20).map fun r => (.lit (.int .u64 ((10 ^ r : Nat) : Int)) : DataW Unit) := (DataW.agg.inj (Prod.mk.inj ex).1).symm.trans (by kernel_rfl)
  have key : ∀ r : Nat, r < 20 → W.cell? ⟨5, r, none⟩ = some (.int .u64 ((10 ^ r : Nat) : Int)) := by
    intro r hr
    have hE := hel r hr
    rw [c5, Nat.mul_one, List.getElem?_eq_getElem (by omega)] at hE
    obtain ⟨z, e1, e2, _⟩ := DataW.trod_int Tryd.underlying47 hE
    have e4 : (xs.map (·.1))[r]? = ((List.range 20).map fun r => (.lit (.int .u64 ((10 ^ r : Nat) : Int)) : DataW Unit))[r]? := by rw [e3]
    rw [List.getElem?_map, List.getElem?_map, List.getElem?_eq_getElem (by omega : r < xs.length), List.getElem?_range hr, e2] at e4
    have hz : z = ((10 ^ r : Nat) : Int) := by
      simp only [Option.map_some, Option.some.injEq, DataW.lit.injEq, Lit.int.injEq, true_and] at e4
      exact e4
    rw [World.var?_cell hg hv r, ← hz]
    have : cs.toList[r]? = some (.int .u64 z) := by
      have h0 : ((cs.toList.drop r).take 1)[0]? = some (.int .u64 z) := by rw [e1]; rfl
      simpa using h0
    simpa using this
  refine ⟨?_, key⟩
  have h0 := key 0 (by omega)
  exact World.block_lt_of_cell? _ _ h0
end Go.Proofs.YtckpomcenkgekaaDoor
