/-
  DERIVED. GIVEN WITH THE SEED: THE CARDS: each row of YtckpomcenkgekaaDoorRows.lean that lists a variable, with what it lists TIED to the program's text (the seventh form; the later family's looks); each row that meets fmt, with fmt's text TOLD by the authors' own Lean function (tested against real Go, not proved from fmt's source: count such statements apart). THE CARD IS WHAT COUNTS. Prove the row's statement (the work); the ties are given (YtckpomcenkgekaaDoorTie.lean); close each card by the builder's one call (the guide's Derived/Test/ToyasCard.lean, 'card_holds'). Laid BY PROGRAM, IN A SANDBOX (cutbox-door.mjs). By AI agents, Wed Nov 11 2026. No macro, syntax, notation, axiom, sorry.
-/
import Derived.Test.YtckpomcenkgekaaDoorRows
import GoSem.ClaimSeven
namespace Go.Proofs.YtckpomcenkgekaaDoor
namespace Rows

/-- THE TIED CARD OF 'latticelaw01.FixedProducts'. -/
def fixedProductsCard : Claim7 := { stood := { row := fixedProductsRow, standIns := [], harness := (true, "896c152e60d3396517fae4bb92919567377d08d8187c9e5ed2a25b9d4d945287"), looks := true }, kinds := [], alts := [], laidByText := true, laidKinds := [.data, .data, .data, .data, .sentinel, .sentinel, .pinned], laidTests := true, laidLooks := .later }
def FixedProductsCardSaid : Prop := Claim7.holds Tryd.pinned (.plain (OpenSpec.ofChange fixedProductsSpec)) fixedProductsCard

/-- THE TIED CARD OF 'latticelaw01.FixedReads'. -/
def fixedReadsCard : Claim7 := { stood := { row := fixedReadsRow, standIns := [], harness := (true, "896c152e60d3396517fae4bb92919567377d08d8187c9e5ed2a25b9d4d945287"), looks := true }, kinds := [], alts := [], laidByText := true, laidKinds := [.data, .data, .data, .data, .sentinel, .sentinel, .pinned], laidTests := true, laidLooks := .later }
def FixedReadsCardSaid : Prop := Claim7.holds Tryd.pinned (.plain (OpenSpec.ofChange fixedReadsSpec)) fixedReadsCard

/-- THE TIED CARD OF 'latticelaw01.FixedBack'. -/
def fixedBackCard : Claim7 := { stood := { row := fixedBackRow, standIns := [], harness := (true, "896c152e60d3396517fae4bb92919567377d08d8187c9e5ed2a25b9d4d945287"), looks := true }, kinds := [], alts := [], laidByText := true, laidKinds := [.data, .data, .data, .data, .sentinel, .sentinel, .pinned], laidTests := true, laidLooks := .later }
def FixedBackCardSaid : Prop := Claim7.holds Tryd.pinned (.plain (OpenSpec.ofChange fixedBackSpec)) fixedBackCard

/-- THE TIED CARD OF 'latticelaw01.FixedSums'. -/
def fixedSumsCard : Claim7 := { stood := { row := fixedSumsRow, standIns := [], harness := (true, "896c152e60d3396517fae4bb92919567377d08d8187c9e5ed2a25b9d4d945287"), looks := true }, kinds := [], alts := [], laidByText := true, laidKinds := [.data, .data, .data, .data, .sentinel, .sentinel, .pinned], laidTests := true, laidLooks := .later }
def FixedSumsCardSaid : Prop := Claim7.holds Tryd.pinned (.plain (OpenSpec.ofChange fixedSumsSpec)) fixedSumsCard

/-- THE TIED CARD OF 'latticelaw01.FixedOrder'. -/
def fixedOrderCard : Claim7 := { stood := { row := fixedOrderRow, standIns := [], harness := (true, "896c152e60d3396517fae4bb92919567377d08d8187c9e5ed2a25b9d4d945287"), looks := true }, kinds := [], alts := [], laidByText := true, laidKinds := [.data, .data, .data, .data, .sentinel, .sentinel, .pinned], laidTests := true, laidLooks := .later }
def FixedOrderCardSaid : Prop := Claim7.holds Tryd.pinned (.plain (OpenSpec.ofChange fixedOrderSpec)) fixedOrderCard

/-- THE TIED CARD OF 'latticelaw01.FixedRounds'. -/
def fixedRoundsCard : Claim7 := { stood := { row := fixedRoundsRow, standIns := [], harness := (true, "896c152e60d3396517fae4bb92919567377d08d8187c9e5ed2a25b9d4d945287"), looks := true }, kinds := [], alts := [], laidByText := true, laidKinds := [.data, .data, .data, .data, .sentinel, .sentinel, .pinned], laidTests := true, laidLooks := .later }
def FixedRoundsCardSaid : Prop := Claim7.holds Tryd.pinned (.plain (OpenSpec.ofChange fixedRoundsSpec)) fixedRoundsCard

/-- THE SECOND FORM's CARD OF 'latticelaw01.FixedProducts'. -/
def fixedProductsUptoCard : Claim7 := { stood := { row := fixedProductsUptoRow, standIns := [], harness := (true, "896c152e60d3396517fae4bb92919567377d08d8187c9e5ed2a25b9d4d945287"), looks := true }, kinds := [], alts := [], laidByText := true, laidKinds := [.data, .data, .data, .data, .sentinel, .sentinel, .pinned], laidTests := true, laidLooks := .later }
def FixedProductsUptoCardSaid : Prop := Claim7.holds Tryd.pinned (.plain (OpenSpec.upto fixedProductsSpec)) fixedProductsUptoCard

/-- THE SECOND FORM's CARD OF 'latticelaw01.FixedReads'. -/
def fixedReadsUptoCard : Claim7 := { stood := { row := fixedReadsUptoRow, standIns := [], harness := (true, "896c152e60d3396517fae4bb92919567377d08d8187c9e5ed2a25b9d4d945287"), looks := true }, kinds := [], alts := [], laidByText := true, laidKinds := [.data, .data, .data, .data, .sentinel, .sentinel, .pinned], laidTests := true, laidLooks := .later }
def FixedReadsUptoCardSaid : Prop := Claim7.holds Tryd.pinned (.plain (OpenSpec.upto fixedReadsSpec)) fixedReadsUptoCard

/-- THE SECOND FORM's CARD OF 'latticelaw01.FixedBack'. -/
def fixedBackUptoCard : Claim7 := { stood := { row := fixedBackUptoRow, standIns := [], harness := (true, "896c152e60d3396517fae4bb92919567377d08d8187c9e5ed2a25b9d4d945287"), looks := true }, kinds := [], alts := [], laidByText := true, laidKinds := [.data, .data, .data, .data, .sentinel, .sentinel, .pinned], laidTests := true, laidLooks := .later }
def FixedBackUptoCardSaid : Prop := Claim7.holds Tryd.pinned (.plain (OpenSpec.upto fixedBackSpec)) fixedBackUptoCard

/-- THE SECOND FORM's CARD OF 'latticelaw01.FixedSums'. -/
def fixedSumsUptoCard : Claim7 := { stood := { row := fixedSumsUptoRow, standIns := [], harness := (true, "896c152e60d3396517fae4bb92919567377d08d8187c9e5ed2a25b9d4d945287"), looks := true }, kinds := [], alts := [], laidByText := true, laidKinds := [.data, .data, .data, .data, .sentinel, .sentinel, .pinned], laidTests := true, laidLooks := .later }
def FixedSumsUptoCardSaid : Prop := Claim7.holds Tryd.pinned (.plain (OpenSpec.upto fixedSumsSpec)) fixedSumsUptoCard

/-- THE SECOND FORM's CARD OF 'latticelaw01.FixedOrder'. -/
def fixedOrderUptoCard : Claim7 := { stood := { row := fixedOrderUptoRow, standIns := [], harness := (true, "896c152e60d3396517fae4bb92919567377d08d8187c9e5ed2a25b9d4d945287"), looks := true }, kinds := [], alts := [], laidByText := true, laidKinds := [.data, .data, .data, .data, .sentinel, .sentinel, .pinned], laidTests := true, laidLooks := .later }
def FixedOrderUptoCardSaid : Prop := Claim7.holds Tryd.pinned (.plain (OpenSpec.upto fixedOrderSpec)) fixedOrderUptoCard

/-- THE SECOND FORM's CARD OF 'latticelaw01.FixedRounds'. -/
def fixedRoundsUptoCard : Claim7 := { stood := { row := fixedRoundsUptoRow, standIns := [], harness := (true, "896c152e60d3396517fae4bb92919567377d08d8187c9e5ed2a25b9d4d945287"), looks := true }, kinds := [], alts := [], laidByText := true, laidKinds := [.data, .data, .data, .data, .sentinel, .sentinel, .pinned], laidTests := true, laidLooks := .later }
def FixedRoundsUptoCardSaid : Prop := Claim7.holds Tryd.pinned (.plain (OpenSpec.upto fixedRoundsSpec)) fixedRoundsUptoCard
end Rows
end Go.Proofs.YtckpomcenkgekaaDoor
