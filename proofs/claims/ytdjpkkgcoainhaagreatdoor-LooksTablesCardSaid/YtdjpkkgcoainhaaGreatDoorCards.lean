/-
  DERIVED. GIVEN WITH THE SEED: THE CARDS: each row of YtdjpkkgcoainhaaGreatDoorRows.lean that lists a variable, with what it lists TIED to the program's text (the seventh form; the later family's looks); each row that meets fmt, with fmt's text TOLD by the authors' own Lean function (tested against real Go, not proved from fmt's source: count such statements apart). THE CARD IS WHAT COUNTS. Prove the row's statement (the work); the ties are given (YtdjpkkgcoainhaaGreatDoorTie.lean); close each card by the builder's one call (the guide's Derived/Test/ToyasCard.lean, 'card_holds'). Laid BY PROGRAM, IN A SANDBOX (cutbox-door.mjs). By AI agents, Wed Nov 11 2026. No macro, syntax, notation, axiom, sorry.
-/
import Derived.Test.YtdjpkkgcoainhaaGreatDoorRows
import GoSem.ClaimSeven
namespace Go.Proofs.YtdjpkkgcoainhaaGreatDoor
namespace Rows

/-- THE TIED CARD OF 'latticelaw12.LooksPlaces'. -/
def looksPlacesCard : Claim7 := { stood := { row := looksPlacesRow, standIns := [], harness := (true, "d0cdd28afd8fa55b936263029771a5767bc04687cffa60ebe3339efa43f59b43"), looks := true }, kinds := [], alts := [], laidByText := true, laidKinds := [.data, .data, .data, .data, .sentinel, .sentinel, .pinned], laidTests := true, laidLooks := .later }
def LooksPlacesCardSaid : Prop := Claim7.holds Tryz.pinned (.plain (OpenSpec.ofChange looksPlacesSpec)) looksPlacesCard

/-- THE TIED CARD OF 'latticelaw12.LooksCalls'. -/
def looksCallsCard : Claim7 := { stood := { row := looksCallsRow, standIns := [], harness := (true, "d0cdd28afd8fa55b936263029771a5767bc04687cffa60ebe3339efa43f59b43"), looks := true }, kinds := [], alts := [], laidByText := true, laidKinds := [.data, .data, .data, .data, .sentinel, .sentinel, .pinned], laidTests := true, laidLooks := .later }
def LooksCallsCardSaid : Prop := Claim7.holds Tryz.pinned (.plain (OpenSpec.ofChange looksCallsSpec)) looksCallsCard

/-- THE TIED CARD OF 'latticelaw12.LooksTables'. -/
def looksTablesCard : Claim7 := { stood := { row := looksTablesRow, standIns := [], harness := (true, "d0cdd28afd8fa55b936263029771a5767bc04687cffa60ebe3339efa43f59b43"), looks := true }, kinds := [], alts := [], laidByText := true, laidKinds := [.data, .data, .data, .data, .sentinel, .sentinel, .pinned], laidTests := true, laidLooks := .later }
def LooksTablesCardSaid : Prop := Claim7.holds Tryz.pinned (.plain (OpenSpec.ofChange looksTablesSpec)) looksTablesCard

/-- THE TIED CARD OF 'latticelaw12.LooksFinds'. -/
def looksFindsCard : Claim7 := { stood := { row := looksFindsRow, standIns := [], harness := (true, "d0cdd28afd8fa55b936263029771a5767bc04687cffa60ebe3339efa43f59b43"), looks := true }, kinds := [], alts := [], laidByText := true, laidKinds := [.data, .data, .data, .data, .sentinel, .sentinel, .pinned], laidTests := true, laidLooks := .later }
def LooksFindsCardSaid : Prop := Claim7.holds Tryz.pinned (.plain (OpenSpec.ofChange looksFindsSpec)) looksFindsCard

/-- THE TIED CARD OF 'latticelaw12.LooksTurned'. -/
def looksTurnedCard : Claim7 := { stood := { row := looksTurnedRow, standIns := [], harness := (true, "d0cdd28afd8fa55b936263029771a5767bc04687cffa60ebe3339efa43f59b43"), looks := true }, kinds := [], alts := [], laidByText := true, laidKinds := [.data, .data, .data, .data, .sentinel, .sentinel, .pinned], laidTests := true, laidLooks := .later }
def LooksTurnedCardSaid : Prop := Claim7.holds Tryz.pinned (.plain (OpenSpec.ofChange looksTurnedSpec)) looksTurnedCard

/-- THE SECOND FORM's CARD OF 'latticelaw12.LooksPlaces'. -/
def looksPlacesUptoCard : Claim7 := { stood := { row := looksPlacesUptoRow, standIns := [], harness := (true, "d0cdd28afd8fa55b936263029771a5767bc04687cffa60ebe3339efa43f59b43"), looks := true }, kinds := [], alts := [], laidByText := true, laidKinds := [.data, .data, .data, .data, .sentinel, .sentinel, .pinned], laidTests := true, laidLooks := .later }
def LooksPlacesUptoCardSaid : Prop := Claim7.holds Tryz.pinned (.plain (OpenSpec.upto looksPlacesSpec)) looksPlacesUptoCard

/-- THE SECOND FORM's CARD OF 'latticelaw12.LooksCalls'. -/
def looksCallsUptoCard : Claim7 := { stood := { row := looksCallsUptoRow, standIns := [], harness := (true, "d0cdd28afd8fa55b936263029771a5767bc04687cffa60ebe3339efa43f59b43"), looks := true }, kinds := [], alts := [], laidByText := true, laidKinds := [.data, .data, .data, .data, .sentinel, .sentinel, .pinned], laidTests := true, laidLooks := .later }
def LooksCallsUptoCardSaid : Prop := Claim7.holds Tryz.pinned (.plain (OpenSpec.upto looksCallsSpec)) looksCallsUptoCard

/-- THE SECOND FORM's CARD OF 'latticelaw12.LooksTables'. -/
def looksTablesUptoCard : Claim7 := { stood := { row := looksTablesUptoRow, standIns := [], harness := (true, "d0cdd28afd8fa55b936263029771a5767bc04687cffa60ebe3339efa43f59b43"), looks := true }, kinds := [], alts := [], laidByText := true, laidKinds := [.data, .data, .data, .data, .sentinel, .sentinel, .pinned], laidTests := true, laidLooks := .later }
def LooksTablesUptoCardSaid : Prop := Claim7.holds Tryz.pinned (.plain (OpenSpec.upto looksTablesSpec)) looksTablesUptoCard

/-- THE SECOND FORM's CARD OF 'latticelaw12.LooksFinds'. -/
def looksFindsUptoCard : Claim7 := { stood := { row := looksFindsUptoRow, standIns := [], harness := (true, "d0cdd28afd8fa55b936263029771a5767bc04687cffa60ebe3339efa43f59b43"), looks := true }, kinds := [], alts := [], laidByText := true, laidKinds := [.data, .data, .data, .data, .sentinel, .sentinel, .pinned], laidTests := true, laidLooks := .later }
def LooksFindsUptoCardSaid : Prop := Claim7.holds Tryz.pinned (.plain (OpenSpec.upto looksFindsSpec)) looksFindsUptoCard

/-- THE SECOND FORM's CARD OF 'latticelaw12.LooksTurned'. -/
def looksTurnedUptoCard : Claim7 := { stood := { row := looksTurnedUptoRow, standIns := [], harness := (true, "d0cdd28afd8fa55b936263029771a5767bc04687cffa60ebe3339efa43f59b43"), looks := true }, kinds := [], alts := [], laidByText := true, laidKinds := [.data, .data, .data, .data, .sentinel, .sentinel, .pinned], laidTests := true, laidLooks := .later }
def LooksTurnedUptoCardSaid : Prop := Claim7.holds Tryz.pinned (.plain (OpenSpec.upto looksTurnedSpec)) looksTurnedUptoCard
end Rows
end Go.Proofs.YtdjpkkgcoainhaaGreatDoor
