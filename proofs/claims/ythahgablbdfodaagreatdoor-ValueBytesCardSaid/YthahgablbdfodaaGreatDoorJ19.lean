/- Arguments that are values; what the row's listed variables give the walks. -/
import Derived.Test.YthahgablbdfodaaGreatDoorJ05
import Derived.Test.YthahgablbdfodaaGreatDoorJ10
import Derived.Test.YthahgablbdfodaaGreatDoorJ18
import Derived.Test.YthahgablbdfodaaGreatDoorRows
import Derived.ProofKit
import Derived.OpenShut
import Derived.LaidMore
import Derived.Lay
import Derived.Stop.Joined
import Derived.ChangeMaps5
set_option maxRecDepth 100000
namespace Go.Proofs.YthahgablbdfodaaGreatDoor
open Go.ChangeShapes Go.WideShapes Go.ChangeAt Go.RowKit Go.Lat

theorem Tryz.own : ownKnob Tryz.prog.godebug = none := by kernel_rfl
theorem Tryz.laidOut : laidOutB Tryz.prog = true := by kernel_rfl

theorem pow_of_laid {W : World} (h : laidMetH Tryz.prog Rows.valueOrdersRow.laid W) : Pow W := by
  rw [MakeChecks.laidMetH_plain _ _ _ (by kernel_rfl)] at h
  obtain ⟨ps, ⟨g0, t0, cs0, f0, p0, q0, hg0, ht0, hv0, hd0, ⟨g1, t1, cs1, f1, p1, q1, hg1, ht1, hv1, hd1, ⟨g, t, cs, fuel, p, q, hg, ht, hv, hd, _, _⟩, _⟩, _⟩, _, _⟩ := h
  have h5 : (some 6 : Option Nat) = some g := by rw [← hg]; kernel_rfl
  obtain rfl := Option.some.inj h5
  have h6 : (some 159 : Option Nat) = some t := by rw [← ht]; kernel_rfl
  obtain rfl := Option.some.inj h6
  obtain ⟨xs, m, _, ex, _, hl, hel⟩ := DataW.trod_array Tryz.underlying159 hd
  have c5 : Tryz.prog.cellsOf 97 = 1 := by kernel_rfl
  have e3 : (xs.map (·.1)) = (List.range 20).map fun r => (.lit (.int .u64 ((10 ^ r : Nat) : Int)) : DataW Unit) := (DataW.agg.inj (Prod.mk.inj ex).1).symm.trans (by kernel_rfl)
  have key : ∀ r : Nat, r < 20 → W.cell? ⟨6, r, none⟩ = some (.int .u64 ((10 ^ r : Nat) : Int)) := by
    intro r hr
    have hE := hel r hr
    rw [c5, Nat.mul_one, List.getElem?_eq_getElem (by omega)] at hE
    obtain ⟨z, e1, e2, _⟩ := DataW.trod_int Tryz.underlying97 hE
    have e4 : (xs.map (·.1))[r]? = ((List.range 20).map fun r => (.lit (.int .u64 ((10 ^ r : Nat) : Int)) : DataW Unit))[r]? := by rw [e3]
    rw [List.getElem?_map, List.getElem?_map, List.getElem?_eq_getElem (by omega : r < xs.length), List.getElem?_range hr, e2] at e4
    have hz : z = ((10 ^ r : Nat) : Int) := by
      simp only [Option.map_some, Option.some.injEq, DataW.lit.injEq, Lit.int.injEq, true_and] at e4
      exact e4
    rw [World.var?_cell hg hv r, ← hz]
    have : cs.toList[r]? = some (.int .u64 z) := by
      have h0 : ((cs.toList.drop r).take 1)[0]? = some (.int .u64 z) := by rw [e1]; rfl
      simpa using h0
    simpa using this
  refine ⟨?_, key⟩
  have h0 := key 0 (by omega)
  exact World.block_lt_of_cell? _ _ h0

theorem sig_of_laid {W : World} (h : laidMetH Tryz.prog Rows.valueOrdersRow.laid W) : Sig W := by
  rw [MakeChecks.laidMetH_plain _ _ _ (by kernel_rfl)] at h
  obtain ⟨ps, ⟨g0, t0, cs0, f0, p0, q0, hg0, ht0, hv0, hd0, ⟨g1, t1, cs1, f1, p1, q1, hg1, ht1, hv1, hd1, ⟨g2, t2, cs2, f2, p2, q2, hg2, ht2, hv2, hd2, ⟨g3, t3, cs3, f3, p3, q3, hg3, ht3, hv3, hd3, ⟨g4, t4, cs4, f4, p4, q4, hg4, ht4, hv4, hd4, ⟨g5, t5, cs5, f5, p5, q5, hg5, ht5, hv5, hd5, ⟨g, t, cs, fuel, p, q, hg, ht, hv, hd, _, _⟩, _⟩, _⟩, _⟩, _⟩, _⟩, _⟩, _, _⟩ := h
  have h5 : (some 0 : Option Nat) = some g := by rw [← hg]; kernel_rfl
  obtain rfl := Option.some.inj h5
  have h6 : (some 78 : Option Nat) = some t := by rw [← ht]; kernel_rfl
  obtain rfl := Option.some.inj h6
  obtain ⟨xs, m, _, ex, _, hl, hel⟩ := DataW.trod_array Tryz.underlying78 hd
  have c5 : Tryz.prog.cellsOf 9 = 1 := by kernel_rfl
  have e3 : (xs.map (·.1)) = signL.map fun x => (.lit (.string x) : DataW Unit) := (DataW.agg.inj (Prod.mk.inj ex).1).symm.trans (by kernel_rfl)
  have key : ∀ (r : Nat) (x : List UInt8), signL[r]? = some x → W.cell? ⟨0, r, none⟩ = some (enS x) := by
    intro r x hx
    have hr : r < 9 := (List.getElem?_eq_some_iff.1 hx).1
    have hE := hel r hr
    rw [c5, Nat.mul_one, List.getElem?_eq_getElem (by omega)] at hE
    obtain ⟨z, e1, e2, _⟩ := DataW.trod_string Tryz.underlying9 hE
    have e4 : (xs.map (·.1))[r]? = (signL.map fun x => (.lit (.string x) : DataW Unit))[r]? := by rw [e3]
    rw [List.getElem?_map, List.getElem?_map, List.getElem?_eq_getElem (by omega : r < xs.length), hx, e2] at e4
    have hz : z.data.toList = x := by
      simp only [Option.map_some, Option.some.injEq, DataW.lit.injEq, Lit.string.injEq] at e4
      exact e4
    rw [World.var?_cell hg hv r]
    have : cs.toList[r]? = some (.string z) := by
      have h0 : ((cs.toList.drop r).take 1)[0]? = some (.string z) := by rw [e1]; rfl
      simpa using h0
    have h2 : enS x = .string z := by rw [← hz]
    rw [h2]
    simpa using this
  refine ⟨?_, key⟩
  have h0 := key 0 [] rfl
  exact World.block_lt_of_cell? _ _ h0

theorem take1c {cs : List Value} {j : Nat} (h : j < cs.length) : (cs.drop j).take 1 = [cs[j]] := by
  rw [List.drop_eq_getElem_cons h]
  rfl
theorem i64ok_of_wf {z : Int} (h : (Lit.int .i64 z).wf = true) : i64ok z := by
  simp [Lit.wf, IntKind.min, IntKind.max, IntKind.signed, IntKind.bits] at h
  exact ⟨by omega, by omega⟩
theorem value_open {H : Type} {enc : TypeId × Value → H} {W : World} {base : Nat} {sp : Nat → Bool} {held : Bool} {r : Reach} {b0 : Nat} {v : Value} {d : DataW H} {ps : List MemPlace}
    (hval : Value.okWide Tryz.prog W r b0 23 v) (hd : DataW.Trod enc Tryz.prog W base sp held 23 v d ps) : ∃ x : Vl, v = x.val ∧ x.ok := by
  obtain ⟨cs, rfl, -⟩ := okWide_struct Tryz.underlying23 hval
  obtain ⟨fuel, h0⟩ := hd
  have h : DataW.trod enc Tryz.prog W base sp held fuel 23 cs.toList = some (d, ps) := h0
  obtain ⟨ys, m, -, -, hl, hyl, hf⟩ := DataW.trod_struct Tryz.underlying23 h
  have h5 : Tryz.prog.cellsOf 23 = 5 := by kernel_rfl
  have hs : Tryz.prog.cellsOf 9 = 1 := by kernel_rfl
  have hi : Tryz.prog.cellsOf 3 = 1 := by kernel_rfl
  have hn : Tryz.prog.cellsOf 2 = 1 := by kernel_rfl
  have hb : Tryz.prog.cellsOf 4 = 1 := by kernel_rfl
  rw [h5] at hl
  have f0 := hf 0 _ rfl
  have f1 := hf 1 _ rfl
  have f2 := hf 2 _ rfl
  have f3 := hf 3 _ rfl
  have f4 := hf 4 _ rfl
  change DataW.trod enc Tryz.prog W base sp held _ 3 ((cs.toList.drop 0).take (Tryz.prog.cellsOf 3)) = _ at f0
  change DataW.trod enc Tryz.prog W base sp held _ 2 ((cs.toList.drop 1).take (Tryz.prog.cellsOf 2)) = _ at f1
  change DataW.trod enc Tryz.prog W base sp held _ 9 ((cs.toList.drop 2).take (Tryz.prog.cellsOf 9)) = _ at f2
  change DataW.trod enc Tryz.prog W base sp held _ 4 ((cs.toList.drop 3).take (Tryz.prog.cellsOf 4)) = _ at f3
  change DataW.trod enc Tryz.prog W base sp held _ 3 ((cs.toList.drop 4).take (Tryz.prog.cellsOf 3)) = _ at f4
  rw [hi] at f0 f4
  rw [hn] at f1
  rw [hs] at f2
  rw [hb] at f3
  have hyl5 : ys.length = 5 := hyl
  rw [take1c (by omega), List.getElem?_eq_getElem (by omega)] at f0 f1 f2 f3 f4
  obtain ⟨k, e0, _, wk⟩ := DataW.trod_int Tryz.underlying3 f0
  obtain ⟨n, e1, _, wn⟩ := DataW.trod_int Tryz.underlying2 f1
  obtain ⟨s, e2, _, ws⟩ := DataW.trod_string Tryz.underlying9 f2
  obtain ⟨b, e3, _⟩ := DataW.trod_bool Tryz.underlying4 f3
  obtain ⟨f, e4, _, wf⟩ := DataW.trod_int Tryz.underlying3 f4
  simp only [List.cons.injEq, and_true] at e0 e1 e2 e3 e4
  have es : enS s.data.toList = .string s := by
    show Value.string ⟨s.data.toList.toArray⟩ = .string s
    simp
  refine ⟨⟨k, n, s.data.toList, b, f⟩, ?_, ⟨i64ok_of_wf wk, i64ok_of_wf wn, ws, i64ok_of_wf wf⟩⟩
  unfold Vl.val
  simp only [es]
  congr 1
  apply Array.ext'
  apply List.ext_getElem?
  intro j
  match j with
  | 0 => rw [List.getElem?_eq_getElem (by omega), e0]; rfl
  | 1 => rw [List.getElem?_eq_getElem (by omega), e1]; rfl
  | 2 => rw [List.getElem?_eq_getElem (by omega), e2]; rfl
  | 3 => rw [List.getElem?_eq_getElem (by omega), e3]; rfl
  | 4 => rw [List.getElem?_eq_getElem (by omega), e4]; rfl
  | j + 5 => rw [List.getElem?_eq_none (by omega), List.getElem?_eq_none (by simp)]
end Go.Proofs.YthahgablbdfodaaGreatDoor
