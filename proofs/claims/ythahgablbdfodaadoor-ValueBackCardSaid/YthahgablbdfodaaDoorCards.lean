/-
  DERIVED. GIVEN WITH THE SEED: THE CARDS: each row of YthahgablbdfodaaDoorRows.lean that lists a variable, with what it lists TIED to the program's text (the seventh form; the later family's looks); each row that meets fmt, with fmt's text TOLD by the authors' own Lean function (tested against real Go, not proved from fmt's source: count such statements apart). THE CARD IS WHAT COUNTS. Prove the row's statement (the work); the ties are given (YthahgablbdfodaaDoorTie.lean); close each card by the builder's one call (the guide's Derived/Test/ToyasCard.lean, 'card_holds'). Laid BY PROGRAM, IN A SANDBOX (cutbox-door.mjs). By AI agents, Wed Nov 11 2026. No macro, syntax, notation, axiom, sorry.
-/
import Derived.Test.YthahgablbdfodaaDoorRows
import GoSem.ClaimSeven
namespace Go.Proofs.YthahgablbdfodaaDoor
namespace Rows

/-- THE TIED CARD OF 'latticelaw03.ValueChain'. -/
def valueChainCard : Claim7 := { stood := { row := valueChainRow, standIns := [], harness := (true, "1f6046f8b7232bc67289daaea56c518b689c95b55e10711a23bf71e403e1236a"), looks := true }, kinds := [], alts := [], laidByText := true, laidKinds := [.data, .data, .data, .data, .sentinel, .sentinel, .data, .pinned], laidTests := true, laidLooks := .later }
def ValueChainCardSaid : Prop := Claim7.holds Tryd.pinned (.plain (OpenSpec.ofChange valueChainSpec)) valueChainCard

/-- THE TIED CARD OF 'latticelaw03.ValueBack'. -/
def valueBackCard : Claim7 := { stood := { row := valueBackRow, standIns := [], harness := (true, "1f6046f8b7232bc67289daaea56c518b689c95b55e10711a23bf71e403e1236a"), looks := true }, kinds := [], alts := [], laidByText := true, laidKinds := [.data, .data, .data, .data, .sentinel, .sentinel, .data, .pinned], laidTests := true, laidLooks := .later }
def ValueBackCardSaid : Prop := Claim7.holds Tryd.pinned (.plain (OpenSpec.ofChange valueBackSpec)) valueBackCard

/-- THE SECOND FORM's CARD OF 'latticelaw03.ValueChain'. -/
def valueChainUptoCard : Claim7 := { stood := { row := valueChainUptoRow, standIns := [], harness := (true, "1f6046f8b7232bc67289daaea56c518b689c95b55e10711a23bf71e403e1236a"), looks := true }, kinds := [], alts := [], laidByText := true, laidKinds := [.data, .data, .data, .data, .sentinel, .sentinel, .data, .pinned], laidTests := true, laidLooks := .later }
def ValueChainUptoCardSaid : Prop := Claim7.holds Tryd.pinned (.plain (OpenSpec.upto valueChainSpec)) valueChainUptoCard

/-- THE SECOND FORM's CARD OF 'latticelaw03.ValueBack'. -/
def valueBackUptoCard : Claim7 := { stood := { row := valueBackUptoRow, standIns := [], harness := (true, "1f6046f8b7232bc67289daaea56c518b689c95b55e10711a23bf71e403e1236a"), looks := true }, kinds := [], alts := [], laidByText := true, laidKinds := [.data, .data, .data, .data, .sentinel, .sentinel, .data, .pinned], laidTests := true, laidLooks := .later }
def ValueBackUptoCardSaid : Prop := Claim7.holds Tryd.pinned (.plain (OpenSpec.upto valueBackSpec)) valueBackUptoCard
end Rows
end Go.Proofs.YthahgablbdfodaaDoor
