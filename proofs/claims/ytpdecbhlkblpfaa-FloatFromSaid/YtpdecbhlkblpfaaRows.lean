/-
  No cell of these rows narrows 'for every input' (looked for: loops, veiled, ifaces, maps, wideKeys, modest, calm, conditions, laid).
  DERIVED. THE GIVEN ROWS OF THIS SEAT. 7 by the template 'for every input the law returns true; each argument reads behind the call as it read before'; 0 by the template 'total and deterministic' (their statements: YtpdecbhlkblpfaaTotals.lean).
  GIVEN WITH THE SEED: the statements are not yours to turn. If you find one false, say at which input.
  Laid BY PROGRAM, IN A SANDBOX (cutbox-rows.mjs): the forced cells as the released guide's own fill.sh prints them over the translation 394f0d62682bd51a… (all of the seat's roots in one cut). By AI agents, Wed Nov 11 2026. No macro, syntax, notation, axiom, sorry.
-/
import Derived.Test.YtpdecbhlkblpfaaChecked
import GoSem.Claim
import GoSem.ClaimJoined
import GoSem.ClaimMapViews
import Derived.JoinedTies
import Derived.KernelRfl
namespace Go.Proofs.Ytpdecbhlkblpfaa
/- THE CELL 'sum', in the pinned program and in every row, IS THE sha256 OF THE DUMP (.gsa) THAT YtpdecbhlkblpfaaProg.lean LOADS. Nothing in Lean hashes anything: it is a label: what it is worth is what the hold of that sum in a sandbox is worth. -/
noncomputable def Try.pinned : Pinned := { name := "ytpdecbhlkblpfaa", sum := "394f0d62682bd51af308d01cfa5bdcc6f87ef0a24da5e097016b06418e102965", checked := Try.checked }
namespace Rows
def none {H : Type} : Left H := { results := [], args := [] }

/-- 'latticelaw02.FloatClasses': WHATEVER THE INPUT: true; the input reads as it did. -/
def floatClassesSpec : ChangeSpec := { name := "floatClasses", fn := fun _ => fun
  | [d] => { results := [.lit (.bool true)], args := [d] }
  | _ => none }
def floatClassesRow : OpenClaim := { program := "ytpdecbhlkblpfaa", sum := "394f0d62682bd51af308d01cfa5bdcc6f87ef0a24da5e097016b06418e102965", func := "lattice/latticelaw02.FloatClasses", spec := "floatClasses", inPlace := ["math.Float64frombits", "math.Float64bits", "math/bits.Add64", "math.sqrt"], apart := false }
def FloatClassesSaid : Prop := floatClassesRow.holds Try.pinned (OpenSpec.ofChange floatClassesSpec)

/-- ITS FALSE NEIGHBOUR: 'it returns false'. Refute it at one input. -/
def floatClassesWrong : ChangeSpec := { name := "floatClasses", fn := fun _ => fun
  | [d] => { results := [.lit (.bool false)], args := [d] }
  | _ => none }
def FloatClassesWrongFalsely : Prop := floatClassesRow.holds Try.pinned (OpenSpec.ofChange floatClassesWrong)

/-- 'latticelaw02.FloatFrom': WHATEVER THE INPUT: true; the input reads as it did. -/
def floatFromSpec : ChangeSpec := { name := "floatFrom", fn := fun _ => fun
  | [d] => { results := [.lit (.bool true)], args := [d] }
  | _ => none }
def floatFromRow : OpenClaim := { program := "ytpdecbhlkblpfaa", sum := "394f0d62682bd51af308d01cfa5bdcc6f87ef0a24da5e097016b06418e102965", func := "lattice/latticelaw02.FloatFrom", spec := "floatFrom", inPlace := ["math.Float64frombits", "math.Float64bits", "math/bits.Add64", "math.sqrt"], apart := false }
def FloatFromSaid : Prop := floatFromRow.holds Try.pinned (OpenSpec.ofChange floatFromSpec)

/-- ITS FALSE NEIGHBOUR: 'it returns false'. Refute it at one input. -/
def floatFromWrong : ChangeSpec := { name := "floatFrom", fn := fun _ => fun
  | [d] => { results := [.lit (.bool false)], args := [d] }
  | _ => none }
def FloatFromWrongFalsely : Prop := floatFromRow.holds Try.pinned (OpenSpec.ofChange floatFromWrong)

/-- 'latticelaw02.FloatSqrt': WHATEVER THE INPUT: true; the input reads as it did. -/
def floatSqrtSpec : ChangeSpec := { name := "floatSqrt", fn := fun _ => fun
  | [d] => { results := [.lit (.bool true)], args := [d] }
  | _ => none }
def floatSqrtRow : OpenClaim := { program := "ytpdecbhlkblpfaa", sum := "394f0d62682bd51af308d01cfa5bdcc6f87ef0a24da5e097016b06418e102965", func := "lattice/latticelaw02.FloatSqrt", spec := "floatSqrt", inPlace := ["math.sqrt", "math.Float64bits", "math.Float64frombits", "math/bits.Add64"], apart := false }
def FloatSqrtSaid : Prop := floatSqrtRow.holds Try.pinned (OpenSpec.ofChange floatSqrtSpec)

/-- ITS FALSE NEIGHBOUR: 'it returns false'. Refute it at one input. -/
def floatSqrtWrong : ChangeSpec := { name := "floatSqrt", fn := fun _ => fun
  | [d] => { results := [.lit (.bool false)], args := [d] }
  | _ => none }
def FloatSqrtWrongFalsely : Prop := floatSqrtRow.holds Try.pinned (OpenSpec.ofChange floatSqrtWrong)

/-- 'latticelaw02.FloatBack': WHATEVER THE INPUT: true; the input reads as it did. -/
def floatBackSpec : ChangeSpec := { name := "floatBack", fn := fun _ => fun
  | [d1, d2] => { results := [.lit (.bool true)], args := [d1, d2] }
  | _ => none }
def floatBackRow : OpenClaim := { program := "ytpdecbhlkblpfaa", sum := "394f0d62682bd51af308d01cfa5bdcc6f87ef0a24da5e097016b06418e102965", func := "lattice/latticelaw02.FloatBack", spec := "floatBack", inPlace := ["math.Float64bits", "math.Float64frombits", "math/bits.Add64", "math.sqrt"], apart := false }
def FloatBackSaid : Prop := floatBackRow.holds Try.pinned (OpenSpec.ofChange floatBackSpec)

/-- ITS FALSE NEIGHBOUR: 'it returns false'. Refute it at one input. -/
def floatBackWrong : ChangeSpec := { name := "floatBack", fn := fun _ => fun
  | [d1, d2] => { results := [.lit (.bool false)], args := [d1, d2] }
  | _ => none }
def FloatBackWrongFalsely : Prop := floatBackRow.holds Try.pinned (OpenSpec.ofChange floatBackWrong)

/-- 'latticelaw02.FloatRatio': WHATEVER THE INPUT: true; the input reads as it did. -/
def floatRatioSpec : ChangeSpec := { name := "floatRatio", fn := fun _ => fun
  | [d1, d2] => { results := [.lit (.bool true)], args := [d1, d2] }
  | _ => none }
def floatRatioRow : OpenClaim := { program := "ytpdecbhlkblpfaa", sum := "394f0d62682bd51af308d01cfa5bdcc6f87ef0a24da5e097016b06418e102965", func := "lattice/latticelaw02.FloatRatio", spec := "floatRatio", inPlace := ["math.Float64bits", "math.Float64frombits", "math/bits.Add64", "math.sqrt"], apart := false }
def FloatRatioSaid : Prop := floatRatioRow.holds Try.pinned (OpenSpec.ofChange floatRatioSpec)

/-- ITS FALSE NEIGHBOUR: 'it returns false'. Refute it at one input. -/
def floatRatioWrong : ChangeSpec := { name := "floatRatio", fn := fun _ => fun
  | [d1, d2] => { results := [.lit (.bool false)], args := [d1, d2] }
  | _ => none }
def FloatRatioWrongFalsely : Prop := floatRatioRow.holds Try.pinned (OpenSpec.ofChange floatRatioWrong)

/-- 'latticelaw02.FloatOrder': WHATEVER THE INPUT: true; the input reads as it did. -/
def floatOrderSpec : ChangeSpec := { name := "floatOrder", fn := fun _ => fun
  | [d1, d2] => { results := [.lit (.bool true)], args := [d1, d2] }
  | _ => none }
def floatOrderRow : OpenClaim := { program := "ytpdecbhlkblpfaa", sum := "394f0d62682bd51af308d01cfa5bdcc6f87ef0a24da5e097016b06418e102965", func := "lattice/latticelaw02.FloatOrder", spec := "floatOrder", inPlace := ["math.Float64bits", "math.Float64frombits", "math/bits.Add64", "math.sqrt"], apart := false }
def FloatOrderSaid : Prop := floatOrderRow.holds Try.pinned (OpenSpec.ofChange floatOrderSpec)

/-- ITS FALSE NEIGHBOUR: 'it returns false'. Refute it at one input. -/
def floatOrderWrong : ChangeSpec := { name := "floatOrder", fn := fun _ => fun
  | [d1, d2] => { results := [.lit (.bool false)], args := [d1, d2] }
  | _ => none }
def FloatOrderWrongFalsely : Prop := floatOrderRow.holds Try.pinned (OpenSpec.ofChange floatOrderWrong)

/-- 'latticelaw02.FloatChain': WHATEVER THE INPUT: true; the input reads as it did. -/
def floatChainSpec : ChangeSpec := { name := "floatChain", fn := fun _ => fun
  | [d] => { results := [.lit (.bool true)], args := [d] }
  | _ => none }
def floatChainRow : OpenClaim := { program := "ytpdecbhlkblpfaa", sum := "394f0d62682bd51af308d01cfa5bdcc6f87ef0a24da5e097016b06418e102965", func := "lattice/latticelaw02.FloatChain", spec := "floatChain", inPlace := ["math.Float64frombits", "math.Float64bits", "math/bits.Add64", "math.sqrt"], apart := false }
def FloatChainSaid : Prop := floatChainRow.holds Try.pinned (OpenSpec.ofChange floatChainSpec)

/-- ITS FALSE NEIGHBOUR: 'it returns false'. Refute it at one input. -/
def floatChainWrong : ChangeSpec := { name := "floatChain", fn := fun _ => fun
  | [d] => { results := [.lit (.bool false)], args := [d] }
  | _ => none }
def FloatChainWrongFalsely : Prop := floatChainRow.holds Try.pinned (OpenSpec.ofChange floatChainWrong)

/- THE SECOND FORM. 'bulk': how many values and letters a reading holds, each counted each time it is reached (what is shared counts as often as it is met; a slice's spare places count too). A statement '..UptoSaid' is the law's where the arguments, and the package variables that the reading takes, are together of bulk at most 1048576: NARROWER than '..Said'. Prove '..Said' where nothing that the law and all that it calls make is longer than what came in: it says more and counts as full. Else prove '..UptoSaid'. A law counts once. -/
mutual
def uptoBulk {H : Type} : DataW H → Nat
  | .lit (.string bytes) => bytes.length + 1
  | .lit _ => 1
  | .nil => 1
  | .ptr d => uptoBulk d + 1
  | .slice elems spare => uptoBulkAll elems + uptoBulkAll spare + 1
  | .agg parts => uptoBulkAll parts + 1
  | .iface _ d => uptoBulk d + 1
  | .map entries => uptoBulkEntries entries + 1
  | .held _ => 1
def uptoBulkAll {H : Type} : List (DataW H) → Nat
  | [] => 0
  | d :: r => uptoBulk d + uptoBulkAll r
def uptoBulkEntries {H : Type} : List (Lit × DataW H) → Nat
  | [] => 0
  | x :: r => uptoBulkEntry x + uptoBulkEntries r
def uptoBulkEntry {H : Type} : Lit × DataW H → Nat
  | (.string bytes, d) => bytes.length + uptoBulk d + 1
  | (_, d) => uptoBulk d + 1
 end
def uptoSmall : (H : Type) → List (DataW H) → Bool := fun _ ds => decide (uptoBulkAll ds ≤ 1048576)
def OpenSpec.upto (s : _root_.Go.ChangeSpec) : _root_.Go.OpenSpec := { _root_.Go.OpenSpec.ofChange s with cond := some uptoSmall }

/-- 'latticelaw02.FloatClasses', WHERE WHAT IT READS IS OF BULK AT MOST 1048576: true; the input reads as it did. -/
def floatClassesUptoRow : OpenClaim := { program := "ytpdecbhlkblpfaa", sum := "394f0d62682bd51af308d01cfa5bdcc6f87ef0a24da5e097016b06418e102965", func := "lattice/latticelaw02.FloatClasses", spec := "floatClasses", inPlace := ["math.Float64frombits", "math.Float64bits", "math/bits.Add64", "math.sqrt"], apart := false, narrowed := true }
def FloatClassesUptoSaid : Prop := floatClassesUptoRow.holds Try.pinned (OpenSpec.upto floatClassesSpec)

/-- 'latticelaw02.FloatFrom', WHERE WHAT IT READS IS OF BULK AT MOST 1048576: true; the input reads as it did. -/
def floatFromUptoRow : OpenClaim := { program := "ytpdecbhlkblpfaa", sum := "394f0d62682bd51af308d01cfa5bdcc6f87ef0a24da5e097016b06418e102965", func := "lattice/latticelaw02.FloatFrom", spec := "floatFrom", inPlace := ["math.Float64frombits", "math.Float64bits", "math/bits.Add64", "math.sqrt"], apart := false, narrowed := true }
def FloatFromUptoSaid : Prop := floatFromUptoRow.holds Try.pinned (OpenSpec.upto floatFromSpec)

/-- 'latticelaw02.FloatSqrt', WHERE WHAT IT READS IS OF BULK AT MOST 1048576: true; the input reads as it did. -/
def floatSqrtUptoRow : OpenClaim := { program := "ytpdecbhlkblpfaa", sum := "394f0d62682bd51af308d01cfa5bdcc6f87ef0a24da5e097016b06418e102965", func := "lattice/latticelaw02.FloatSqrt", spec := "floatSqrt", inPlace := ["math.sqrt", "math.Float64bits", "math.Float64frombits", "math/bits.Add64"], apart := false, narrowed := true }
def FloatSqrtUptoSaid : Prop := floatSqrtUptoRow.holds Try.pinned (OpenSpec.upto floatSqrtSpec)

/-- 'latticelaw02.FloatBack', WHERE WHAT IT READS IS OF BULK AT MOST 1048576: true; the input reads as it did. -/
def floatBackUptoRow : OpenClaim := { program := "ytpdecbhlkblpfaa", sum := "394f0d62682bd51af308d01cfa5bdcc6f87ef0a24da5e097016b06418e102965", func := "lattice/latticelaw02.FloatBack", spec := "floatBack", inPlace := ["math.Float64bits", "math.Float64frombits", "math/bits.Add64", "math.sqrt"], apart := false, narrowed := true }
def FloatBackUptoSaid : Prop := floatBackUptoRow.holds Try.pinned (OpenSpec.upto floatBackSpec)

/-- 'latticelaw02.FloatRatio', WHERE WHAT IT READS IS OF BULK AT MOST 1048576: true; the input reads as it did. -/
def floatRatioUptoRow : OpenClaim := { program := "ytpdecbhlkblpfaa", sum := "394f0d62682bd51af308d01cfa5bdcc6f87ef0a24da5e097016b06418e102965", func := "lattice/latticelaw02.FloatRatio", spec := "floatRatio", inPlace := ["math.Float64bits", "math.Float64frombits", "math/bits.Add64", "math.sqrt"], apart := false, narrowed := true }
def FloatRatioUptoSaid : Prop := floatRatioUptoRow.holds Try.pinned (OpenSpec.upto floatRatioSpec)

/-- 'latticelaw02.FloatOrder', WHERE WHAT IT READS IS OF BULK AT MOST 1048576: true; the input reads as it did. -/
def floatOrderUptoRow : OpenClaim := { program := "ytpdecbhlkblpfaa", sum := "394f0d62682bd51af308d01cfa5bdcc6f87ef0a24da5e097016b06418e102965", func := "lattice/latticelaw02.FloatOrder", spec := "floatOrder", inPlace := ["math.Float64bits", "math.Float64frombits", "math/bits.Add64", "math.sqrt"], apart := false, narrowed := true }
def FloatOrderUptoSaid : Prop := floatOrderUptoRow.holds Try.pinned (OpenSpec.upto floatOrderSpec)

/-- 'latticelaw02.FloatChain', WHERE WHAT IT READS IS OF BULK AT MOST 1048576: true; the input reads as it did. -/
def floatChainUptoRow : OpenClaim := { program := "ytpdecbhlkblpfaa", sum := "394f0d62682bd51af308d01cfa5bdcc6f87ef0a24da5e097016b06418e102965", func := "lattice/latticelaw02.FloatChain", spec := "floatChain", inPlace := ["math.Float64frombits", "math.Float64bits", "math/bits.Add64", "math.sqrt"], apart := false, narrowed := true }
def FloatChainUptoSaid : Prop := floatChainUptoRow.holds Try.pinned (OpenSpec.upto floatChainSpec)

end Rows
end Go.Proofs.Ytpdecbhlkblpfaa
