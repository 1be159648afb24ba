/-
  DERIVED. GIVEN WITH THE SEED: THE CARDS: each row of YtmfngdjhkpddoaaGreatDoorRows.lean that lists a variable, with what it lists TIED to the program's text (the seventh form; the later family's looks); each row that meets fmt, with fmt's text TOLD by the authors' own Lean function (tested against real Go, not proved from fmt's source: count such statements apart). THE CARD IS WHAT COUNTS. Prove the row's statement (the work); the ties are given (YtmfngdjhkpddoaaGreatDoorTie.lean); close each card by the builder's one call (the guide's Derived/Test/ToyasCard.lean, 'card_holds'). Laid BY PROGRAM, IN A SANDBOX (cutbox-door.mjs). By AI agents, Wed Nov 11 2026. No macro, syntax, notation, axiom, sorry.
-/
import Derived.Test.YtmfngdjhkpddoaaGreatDoorRows
import GoSem.ClaimSeven
namespace Go.Proofs.YtmfngdjhkpddoaaGreatDoor
namespace Rows

/-- THE TIED CARD OF 'latticetop.TopRatio'. -/
def topRatioCard : Claim7 := { stood := { row := topRatioRow, standIns := [], harness := (true, "9b74f86848fdd8b296aec640c8ab554780d5e84b876cfab8fc02adadf6be7df1"), looks := true }, kinds := [], alts := [], laidByText := true, laidKinds := [.data, .data, .data, .data, .sentinel, .sentinel, .data, .pinned], laidTests := true, laidLooks := .later }
def TopRatioCardSaid : Prop := Claim7.holds Tryz.pinned (.plain (OpenSpec.ofChange topRatioSpec)) topRatioCard

/-- THE TIED CARD OF 'latticelaw09.NumsPower'. -/
def numsPowerCard : Claim7 := { stood := { row := numsPowerRow, standIns := [], harness := (true, "9b74f86848fdd8b296aec640c8ab554780d5e84b876cfab8fc02adadf6be7df1"), looks := true }, kinds := [], alts := [], laidByText := true, laidKinds := [.data, .data, .data, .data, .sentinel, .sentinel, .data, .pinned], laidTests := true, laidLooks := .later }
def NumsPowerCardSaid : Prop := Claim7.holds Tryz.pinned (.plain (OpenSpec.ofChange numsPowerSpec)) numsPowerCard

/-- THE TIED CARD OF 'latticelaw09.NumsCalls'. -/
def numsCallsCard : Claim7 := { stood := { row := numsCallsRow, standIns := [], harness := (true, "9b74f86848fdd8b296aec640c8ab554780d5e84b876cfab8fc02adadf6be7df1"), looks := true }, kinds := [], alts := [], laidByText := true, laidKinds := [.data, .data, .data, .data, .sentinel, .sentinel, .data, .pinned], laidTests := true, laidLooks := .later }
def NumsCallsCardSaid : Prop := Claim7.holds Tryz.pinned (.plain (OpenSpec.ofChange numsCallsSpec)) numsCallsCard

/-- THE TIED CARD OF 'latticelaw09.NumsWhole'. -/
def numsWholeCard : Claim7 := { stood := { row := numsWholeRow, standIns := [], harness := (true, "9b74f86848fdd8b296aec640c8ab554780d5e84b876cfab8fc02adadf6be7df1"), looks := true }, kinds := [], alts := [], laidByText := true, laidKinds := [.data, .data, .data, .data, .sentinel, .sentinel, .data, .pinned], laidTests := true, laidLooks := .later }
def NumsWholeCardSaid : Prop := Claim7.holds Tryz.pinned (.plain (OpenSpec.ofChange numsWholeSpec)) numsWholeCard

/-- THE TIED CARD OF 'latticelaw09.NumsRounds'. -/
def numsRoundsCard : Claim7 := { stood := { row := numsRoundsRow, standIns := [], harness := (true, "9b74f86848fdd8b296aec640c8ab554780d5e84b876cfab8fc02adadf6be7df1"), looks := true }, kinds := [], alts := [], laidByText := true, laidKinds := [.data, .data, .data, .data, .sentinel, .sentinel, .data, .pinned], laidTests := true, laidLooks := .later }
def NumsRoundsCardSaid : Prop := Claim7.holds Tryz.pinned (.plain (OpenSpec.ofChange numsRoundsSpec)) numsRoundsCard

/-- THE TIED CARD OF 'latticelaw09.NumsTurns'. -/
def numsTurnsCard : Claim7 := { stood := { row := numsTurnsRow, standIns := [], harness := (true, "9b74f86848fdd8b296aec640c8ab554780d5e84b876cfab8fc02adadf6be7df1"), looks := true }, kinds := [], alts := [], laidByText := true, laidKinds := [.data, .data, .data, .data, .sentinel, .sentinel, .data, .pinned], laidTests := true, laidLooks := .later }
def NumsTurnsCardSaid : Prop := Claim7.holds Tryz.pinned (.plain (OpenSpec.ofChange numsTurnsSpec)) numsTurnsCard

/-- THE TIED CARD OF 'latticelaw09.NumsBin'. -/
def numsBinCard : Claim7 := { stood := { row := numsBinRow, standIns := [], harness := (true, "9b74f86848fdd8b296aec640c8ab554780d5e84b876cfab8fc02adadf6be7df1"), looks := true }, kinds := [], alts := [], laidByText := true, laidKinds := [.data, .data, .data, .data, .sentinel, .sentinel, .data, .pinned], laidTests := true, laidLooks := .later }
def NumsBinCardSaid : Prop := Claim7.holds Tryz.pinned (.plain (OpenSpec.ofChange numsBinSpec)) numsBinCard

/-- THE SECOND FORM's CARD OF 'latticetop.TopRatio'. -/
def topRatioUptoCard : Claim7 := { stood := { row := topRatioUptoRow, standIns := [], harness := (true, "9b74f86848fdd8b296aec640c8ab554780d5e84b876cfab8fc02adadf6be7df1"), looks := true }, kinds := [], alts := [], laidByText := true, laidKinds := [.data, .data, .data, .data, .sentinel, .sentinel, .data, .pinned], laidTests := true, laidLooks := .later }
def TopRatioUptoCardSaid : Prop := Claim7.holds Tryz.pinned (.plain (OpenSpec.upto topRatioSpec)) topRatioUptoCard

/-- THE SECOND FORM's CARD OF 'latticelaw09.NumsPower'. -/
def numsPowerUptoCard : Claim7 := { stood := { row := numsPowerUptoRow, standIns := [], harness := (true, "9b74f86848fdd8b296aec640c8ab554780d5e84b876cfab8fc02adadf6be7df1"), looks := true }, kinds := [], alts := [], laidByText := true, laidKinds := [.data, .data, .data, .data, .sentinel, .sentinel, .data, .pinned], laidTests := true, laidLooks := .later }
def NumsPowerUptoCardSaid : Prop := Claim7.holds Tryz.pinned (.plain (OpenSpec.upto numsPowerSpec)) numsPowerUptoCard

/-- THE SECOND FORM's CARD OF 'latticelaw09.NumsCalls'. -/
def numsCallsUptoCard : Claim7 := { stood := { row := numsCallsUptoRow, standIns := [], harness := (true, "9b74f86848fdd8b296aec640c8ab554780d5e84b876cfab8fc02adadf6be7df1"), looks := true }, kinds := [], alts := [], laidByText := true, laidKinds := [.data, .data, .data, .data, .sentinel, .sentinel, .data, .pinned], laidTests := true, laidLooks := .later }
def NumsCallsUptoCardSaid : Prop := Claim7.holds Tryz.pinned (.plain (OpenSpec.upto numsCallsSpec)) numsCallsUptoCard

/-- THE SECOND FORM's CARD OF 'latticelaw09.NumsWhole'. -/
def numsWholeUptoCard : Claim7 := { stood := { row := numsWholeUptoRow, standIns := [], harness := (true, "9b74f86848fdd8b296aec640c8ab554780d5e84b876cfab8fc02adadf6be7df1"), looks := true }, kinds := [], alts := [], laidByText := true, laidKinds := [.data, .data, .data, .data, .sentinel, .sentinel, .data, .pinned], laidTests := true, laidLooks := .later }
def NumsWholeUptoCardSaid : Prop := Claim7.holds Tryz.pinned (.plain (OpenSpec.upto numsWholeSpec)) numsWholeUptoCard

/-- THE SECOND FORM's CARD OF 'latticelaw09.NumsRounds'. -/
def numsRoundsUptoCard : Claim7 := { stood := { row := numsRoundsUptoRow, standIns := [], harness := (true, "9b74f86848fdd8b296aec640c8ab554780d5e84b876cfab8fc02adadf6be7df1"), looks := true }, kinds := [], alts := [], laidByText := true, laidKinds := [.data, .data, .data, .data, .sentinel, .sentinel, .data, .pinned], laidTests := true, laidLooks := .later }
def NumsRoundsUptoCardSaid : Prop := Claim7.holds Tryz.pinned (.plain (OpenSpec.upto numsRoundsSpec)) numsRoundsUptoCard

/-- THE SECOND FORM's CARD OF 'latticelaw09.NumsTurns'. -/
def numsTurnsUptoCard : Claim7 := { stood := { row := numsTurnsUptoRow, standIns := [], harness := (true, "9b74f86848fdd8b296aec640c8ab554780d5e84b876cfab8fc02adadf6be7df1"), looks := true }, kinds := [], alts := [], laidByText := true, laidKinds := [.data, .data, .data, .data, .sentinel, .sentinel, .data, .pinned], laidTests := true, laidLooks := .later }
def NumsTurnsUptoCardSaid : Prop := Claim7.holds Tryz.pinned (.plain (OpenSpec.upto numsTurnsSpec)) numsTurnsUptoCard

/-- THE SECOND FORM's CARD OF 'latticelaw09.NumsBin'. -/
def numsBinUptoCard : Claim7 := { stood := { row := numsBinUptoRow, standIns := [], harness := (true, "9b74f86848fdd8b296aec640c8ab554780d5e84b876cfab8fc02adadf6be7df1"), looks := true }, kinds := [], alts := [], laidByText := true, laidKinds := [.data, .data, .data, .data, .sentinel, .sentinel, .data, .pinned], laidTests := true, laidLooks := .later }
def NumsBinUptoCardSaid : Prop := Claim7.holds Tryz.pinned (.plain (OpenSpec.upto numsBinSpec)) numsBinUptoCard
end Rows
end Go.Proofs.YtmfngdjhkpddoaaGreatDoor
