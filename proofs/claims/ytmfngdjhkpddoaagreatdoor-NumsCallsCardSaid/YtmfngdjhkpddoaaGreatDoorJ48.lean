/- From a law's walk to its row: the parts that are alike for every law. -/
import Derived.Test.YtmfngdjhkpddoaaGreatDoorJ01
import Derived.ProofKit
import Derived.Deep.Slices
import Derived.Deep.Fields
import Derived.ChangeSame
import Derived.Test.YtmfngdjhkpddoaaGreatDoorJ14
import Derived.Test.YtmfngdjhkpddoaaGreatDoorJ02
import Derived.Test.YtmfngdjhkpddoaaGreatDoorRows
import Derived.OpenShut
import Derived.LaidMore
import Derived.Lay
import Derived.Stop.Joined
import Derived.ChangeMaps5
/- From a law's walk to its row: the parts that are alike for every law. -/
namespace Go.Lat
open Go.ChangeShapes Go.WideShapes Go.ChangeAt Go.RowKit Go.Deep

theorem trodAll_below {H : Type} {enc : TypeId × Value → H} {P : Program} (hl : laidOutB P = true) {W W' : World} (hb : Below W.heap.size W W') :
    ∀ (ts : List TypeId) (vs : List Value) (ds : List (DataW H)) (ps : List MemPlace), (∀ t ∈ ts, P.readableRec t = true ∧ t < P.types.size) →
      DataW.TrodAll enc P W 0 (fun _ => true) true ts vs ds ps → (∀ x ∈ ps, x.block < W.heap.size) → DataW.TrodAll enc P W' 0 (fun b => decide (b < W.heap.size)) true ts vs ds ps
  | [], [], [], ps, _, h, _ => h
  | t :: ts, v :: vs, d :: ds, ps, hr, h, hlt => by
    obtain ⟨p, q, h1, h2, rfl⟩ := h
    refine ⟨p, q, Below.trod hl (hr t (by simp)).1 (hr t (by simp)).2 h1 hb (fun x hx => hlt x (by simp [hx])), ?_, rfl⟩
    exact trodAll_below hl hb ts vs ds q (fun t ht => hr t (by simp [ht])) h2 (fun x hx => hlt x (by simp [hx]))
  | [], [], _ :: _, _, _, h, _ => h.elim
  | [], _ :: _, _, _, _, h, _ => h.elim
  | _ :: _, [], _, _, _, h, _ => h.elim
  | _ :: _, _ :: _, [], _, _, h, _ => h.elim

/-- A law that leaves all that was there alone and answers true. -/
theorem law_post {H : Type} {enc : TypeId × Value → H} {P : Program} {f : Func} {s : ChangeSpec} {W W' : World} {args : Array Value} {ds gs : List (DataW H)} {before : List MemPlace} {tb : TypeId}
    (hl : laidOutB P = true) (hW : DataW.Whole enc P f.params.toList s.vars false W args.toList ds gs before) (hvars : s.vars = [])
    (hfn : s.fn H (ds ++ gs) = { results := [.lit (.bool true)], args := ds }) (hread0 : f.params.toList.all (fun t => P.readableRec t && decide (t < P.types.size)) = true)
    (hrt : f.resultTypes = #[tb]) (htb : P.underlying tb = some .bool) (hb : Upd W W' (fun _ => False)) :
    s.post enc P f false true false false W args (.bool true) W' := by
  have hread : ∀ t ∈ f.params.toList, P.readableRec t = true ∧ t < P.types.size := fun t ht => by have := List.all_eq_true.1 hread0 t ht; simpa using this
  have hlt := hW.lt
  obtain ⟨p, q, h1, h2, rfl, hz, ha⟩ := hW
  have hrt' : f.resultTypes.toList = [tb] := by rw [hrt]
  have hrs : f.resultTypes.size = 1 := by rw [hrt]; rfl
  refine ⟨ds, gs, _, [], p, [], ⟨p, q, h1, h2, rfl, hz, ha⟩, ?_, ?_, ?_, hb.below.frame _, fun h => by cases h⟩
  · rw [hfn, hrt', hrs]
    exact trodAll_mk1 (shut_bool htb true)
  · rw [hfn]
    exact trodAll_below hl hb.below _ _ _ _ hread h1 (fun x hx => hlt x (by simp [hx]))
  · rw [hfn, hvars]
    rfl

section
variable {H : Type} {enc : TypeId × Value → H} {P : Program} {w : World} {base : Nat} {spare : Nat → Bool} {held : Bool}
end
/-- A cell that is there has a plain address. -/
theorem cell_spot {w : World} {a : Addr} {v : Value} (h : w.cell? a = some v) : a.spot = none := by
  unfold World.cell? at h
  split at h
  · split at h
    · cases h
    · rename_i h'; simpa using h'
  · cases h

theorem choose_fn {α : Type} (d : α) {n : Nat} {p : Nat → α → Prop} (h : ∀ i, i < n → ∃ x, p i x) : ∃ f : Nat → α, ∀ i, i < n → p i (f i) := by
  classical
  exact ⟨fun i => if hi : i < n then (h i hi).choose else d, fun i hi => by simp only [hi, dif_pos]; exact (h i hi).choose_spec⟩
end Go.Lat
/- Arguments that are values; what the row's listed variables give the walks. -/
set_option maxRecDepth 100000
namespace Go.Proofs.YtmfngdjhkpddoaaGreatDoor
open Go.ChangeShapes Go.WideShapes Go.ChangeAt Go.RowKit Go.Lat

theorem Tryz.own : ownKnob Tryz.prog.godebug = none := by kernel_rfl
theorem Tryz.laidOut : laidOutB Tryz.prog = true := by kernel_rfl

theorem pow_of_laid {W : World} (h : laidMetH Tryz.prog Rows.numsPowerRow.laid W) : Pow W := by
  rw [MakeChecks.laidMetH_plain _ _ _ (by kernel_rfl)] at h
  obtain ⟨ps, ⟨g0, t0, cs0, f0, p0, q0, hg0, ht0, hv0, hd0, ⟨g1, t1, cs1, f1, p1, q1, hg1, ht1, hv1, hd1, ⟨g, t, cs, fuel, p, q, hg, ht, hv, hd, _, _⟩, _⟩, _⟩, _, _⟩ := h
  have h5 : (some 9 : Option Nat) = some g := by rw [← hg]; kernel_rfl
  obtain rfl := Option.some.inj h5
  have h6 : (some 226 : Option Nat) = some t := by rw [← ht]; kernel_rfl
  obtain rfl := Option.some.inj h6
  obtain ⟨xs, m, _, ex, _, hl, hel⟩ := DataW.trod_array Tryz.underlying226 hd
  have c5 : Tryz.prog.cellsOf 124 = 1 := by kernel_rfl
  have e3 : (xs.map (·.1)) = (List.range 20).map fun r => (.lit (.int .u64 ((10 ^ r : Nat) : Int)) : DataW Unit) := (DataW.agg.inj (Prod.mk.inj ex).1).symm.trans (by kernel_rfl)
  have key : ∀ r : Nat, r < 20 → W.cell? ⟨9, r, none⟩ = some (.int .u64 ((10 ^ r : Nat) : Int)) := by
    intro r hr
    have hE := hel r hr
    rw [c5, Nat.mul_one, List.getElem?_eq_getElem (by omega)] at hE
    obtain ⟨z, e1, e2, _⟩ := DataW.trod_int Tryz.underlying124 hE
    have e4 : (xs.map (·.1))[r]? = ((List.range 20).map fun r => (.lit (.int .u64 ((10 ^ r : Nat) : Int)) : DataW Unit))[r]? := by rw [e3]
    rw [List.getElem?_map, List.getElem?_map, List.getElem?_eq_getElem (by omega : r < xs.length), List.getElem?_range hr, e2] at e4
    have hz : z = ((10 ^ r : Nat) : Int) := by
      simp only [Option.map_some, Option.some.injEq, DataW.lit.injEq, Lit.int.injEq, true_and] at e4
      exact e4
    rw [World.var?_cell hg hv r, ← hz]
    have : cs.toList[r]? = some (.int .u64 z) := by
      have h0 : ((cs.toList.drop r).take 1)[0]? = some (.int .u64 z) := by rw [e1]; rfl
      simpa using h0
    simpa using this
  refine ⟨?_, key⟩
  have h0 := key 0 (by omega)
  exact World.block_lt_of_cell? _ _ h0

theorem sig_of_laid {W : World} (h : laidMetH Tryz.prog Rows.numsPowerRow.laid W) : Sig W := by
  rw [MakeChecks.laidMetH_plain _ _ _ (by kernel_rfl)] at h
  obtain ⟨ps, ⟨g0, t0, cs0, f0, p0, q0, hg0, ht0, hv0, hd0, ⟨g1, t1, cs1, f1, p1, q1, hg1, ht1, hv1, hd1, ⟨g2, t2, cs2, f2, p2, q2, hg2, ht2, hv2, hd2, ⟨g3, t3, cs3, f3, p3, q3, hg3, ht3, hv3, hd3, ⟨g4, t4, cs4, f4, p4, q4, hg4, ht4, hv4, hd4, ⟨g5, t5, cs5, f5, p5, q5, hg5, ht5, hv5, hd5, ⟨g, t, cs, fuel, p, q, hg, ht, hv, hd, _, _⟩, _⟩, _⟩, _⟩, _⟩, _⟩, _⟩, _, _⟩ := h
  have h5 : (some 3 : Option Nat) = some g := by rw [← hg]; kernel_rfl
  obtain rfl := Option.some.inj h5
  have h6 : (some 196 : Option Nat) = some t := by rw [← ht]; kernel_rfl
  obtain rfl := Option.some.inj h6
  obtain ⟨xs, m, _, ex, _, hl, hel⟩ := DataW.trod_array Tryz.underlying196 hd
  have c5 : Tryz.prog.cellsOf 9 = 1 := by kernel_rfl
  have e3 : (xs.map (·.1)) = signL.map fun x => (.lit (.string x) : DataW Unit) := (DataW.agg.inj (Prod.mk.inj ex).1).symm.trans (by kernel_rfl)
  have key : ∀ (r : Nat) (x : List UInt8), signL[r]? = some x → W.cell? ⟨3, r, none⟩ = some (enS x) := by
    intro r x hx
    have hr : r < 9 := (List.getElem?_eq_some_iff.1 hx).1
    have hE := hel r hr
    rw [c5, Nat.mul_one, List.getElem?_eq_getElem (by omega)] at hE
    obtain ⟨z, e1, e2, _⟩ := DataW.trod_string Tryz.underlying9 hE
    have e4 : (xs.map (·.1))[r]? = (signL.map fun x => (.lit (.string x) : DataW Unit))[r]? := by rw [e3]
    rw [List.getElem?_map, List.getElem?_map, List.getElem?_eq_getElem (by omega : r < xs.length), hx, e2] at e4
    have hz : z.data.toList = x := by
      simp only [Option.map_some, Option.some.injEq, DataW.lit.injEq, Lit.string.injEq] at e4
      exact e4
    rw [World.var?_cell hg hv r]
    have : cs.toList[r]? = some (.string z) := by
      have h0 : ((cs.toList.drop r).take 1)[0]? = some (.string z) := by rw [e1]; rfl
      simpa using h0
    have h2 : enS x = .string z := by rw [← hz]
    rw [h2]
    simpa using this
  refine ⟨?_, key⟩
  have h0 := key 0 [] rfl
  exact World.block_lt_of_cell? _ _ h0

theorem take1c {cs : List Value} {j : Nat} (h : j < cs.length) : (cs.drop j).take 1 = [cs[j]] := by
  rw [List.drop_eq_getElem_cons h]
  rfl
theorem i64ok_of_wf {z : Int} (h : (Lit.int .i64 z).wf = true) : i64ok z := by
  simp [Lit.wf, IntKind.min, IntKind.max, IntKind.signed, IntKind.bits] at h
  exact ⟨by omega, by omega⟩
end Go.Proofs.YtmfngdjhkpddoaaGreatDoor
