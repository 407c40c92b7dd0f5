/-
  DERIVED. GIVEN WITH THE SEED: THE CARDS: each row of YtfcnjbkoneinpaaDoorRows.lean that lists a variable, with what it lists TIED to the program's text (the seventh form; the later family's looks); each row that meets fmt, with fmt's text TOLD by the authors' own Lean function (tested against real Go, not proved from fmt's source: count such statements apart). THE CARD IS WHAT COUNTS. Prove the row's statement (the work); the ties are given (YtfcnjbkoneinpaaDoorTie.lean); close each card by the builder's one call (the guide's Derived/Test/ToyasCard.lean, 'card_holds'). Laid BY PROGRAM, IN A SANDBOX (cutbox-door.mjs). By AI agents, Wed Nov 11 2026. No macro, syntax, notation, axiom, sorry.
-/
import Derived.Test.YtfcnjbkoneinpaaDoorRows
import GoSem.ClaimSeven
namespace Go.Proofs.YtfcnjbkoneinpaaDoor
namespace Rows

/-- THE TIED CARD OF 'kiosklaw2.DiskPlays'. -/
def diskPlaysCard : Claim7 := { stood := { row := diskPlaysRow, standIns := [], harness := (true, "a40ff5a0f0c1e916bf57f761178edfb3c15d9576a65fa8a6e6a506fb7d249df3"), looks := false }, kinds := [], alts := [], laidByText := true, laidKinds := [.data, .pinned], laidTests := true, laidLooks := .later }
def DiskPlaysCardSaid : Prop := Claim7.holds Tryd.pinned (.plain (OpenSpec.ofChange diskPlaysSpec)) diskPlaysCard

/-- THE TIED CARD OF 'kiosklaw2.DiskSynced'. -/
def diskSyncedCard : Claim7 := { stood := { row := diskSyncedRow, standIns := [], harness := (true, "a40ff5a0f0c1e916bf57f761178edfb3c15d9576a65fa8a6e6a506fb7d249df3"), looks := false }, kinds := [], alts := [], laidByText := true, laidKinds := [.data, .pinned], laidTests := true, laidLooks := .later }
def DiskSyncedCardSaid : Prop := Claim7.holds Tryd.pinned (.plain (OpenSpec.ofChange diskSyncedSpec)) diskSyncedCard

/-- THE TIED CARD OF 'kiosklaw2.DiskHolds'. -/
def diskHoldsCard : Claim7 := { stood := { row := diskHoldsRow, standIns := [], harness := (true, "a40ff5a0f0c1e916bf57f761178edfb3c15d9576a65fa8a6e6a506fb7d249df3"), looks := false }, kinds := [], alts := [], laidByText := true, laidKinds := [.data, .pinned], laidTests := true, laidLooks := .later }
def DiskHoldsCardSaid : Prop := Claim7.holds Tryd.pinned (.plain (OpenSpec.ofChange diskHoldsSpec)) diskHoldsCard

/-- THE TIED CARD OF 'kiosklaw2.DiskOthers'. -/
def diskOthersCard : Claim7 := { stood := { row := diskOthersRow, standIns := [], harness := (true, "a40ff5a0f0c1e916bf57f761178edfb3c15d9576a65fa8a6e6a506fb7d249df3"), looks := false }, kinds := [], alts := [], laidByText := true, laidKinds := [.data, .pinned], laidTests := true, laidLooks := .later }
def DiskOthersCardSaid : Prop := Claim7.holds Tryd.pinned (.plain (OpenSpec.ofChange diskOthersSpec)) diskOthersCard

/-- THE TIED CARD OF 'kiosklaw2.DiskMoves'. -/
def diskMovesCard : Claim7 := { stood := { row := diskMovesRow, standIns := [], harness := (true, "a40ff5a0f0c1e916bf57f761178edfb3c15d9576a65fa8a6e6a506fb7d249df3"), looks := false }, kinds := [], alts := [], laidByText := true, laidKinds := [.data, .pinned], laidTests := true, laidLooks := .later }
def DiskMovesCardSaid : Prop := Claim7.holds Tryd.pinned (.plain (OpenSpec.ofChange diskMovesSpec)) diskMovesCard

/-- THE TIED CARD OF 'kiosklaw2.DiskFuses'. -/
def diskFusesCard : Claim7 := { stood := { row := diskFusesRow, standIns := [], harness := (true, "a40ff5a0f0c1e916bf57f761178edfb3c15d9576a65fa8a6e6a506fb7d249df3"), looks := false }, kinds := [], alts := [], laidByText := true, laidKinds := [.data, .pinned], laidTests := true, laidLooks := .later }
def DiskFusesCardSaid : Prop := Claim7.holds Tryd.pinned (.plain (OpenSpec.ofChange diskFusesSpec)) diskFusesCard

/-- THE SECOND FORM's CARD OF 'kiosklaw2.DiskPlays'. -/
def diskPlaysUptoCard : Claim7 := { stood := { row := diskPlaysUptoRow, standIns := [], harness := (true, "a40ff5a0f0c1e916bf57f761178edfb3c15d9576a65fa8a6e6a506fb7d249df3"), looks := false }, kinds := [], alts := [], laidByText := true, laidKinds := [.data, .pinned], laidTests := true, laidLooks := .later }
def DiskPlaysUptoCardSaid : Prop := Claim7.holds Tryd.pinned (.plain (OpenSpec.upto diskPlaysSpec)) diskPlaysUptoCard

/-- THE SECOND FORM's CARD OF 'kiosklaw2.DiskSynced'. -/
def diskSyncedUptoCard : Claim7 := { stood := { row := diskSyncedUptoRow, standIns := [], harness := (true, "a40ff5a0f0c1e916bf57f761178edfb3c15d9576a65fa8a6e6a506fb7d249df3"), looks := false }, kinds := [], alts := [], laidByText := true, laidKinds := [.data, .pinned], laidTests := true, laidLooks := .later }
def DiskSyncedUptoCardSaid : Prop := Claim7.holds Tryd.pinned (.plain (OpenSpec.upto diskSyncedSpec)) diskSyncedUptoCard

/-- THE SECOND FORM's CARD OF 'kiosklaw2.DiskHolds'. -/
def diskHoldsUptoCard : Claim7 := { stood := { row := diskHoldsUptoRow, standIns := [], harness := (true, "a40ff5a0f0c1e916bf57f761178edfb3c15d9576a65fa8a6e6a506fb7d249df3"), looks := false }, kinds := [], alts := [], laidByText := true, laidKinds := [.data, .pinned], laidTests := true, laidLooks := .later }
def DiskHoldsUptoCardSaid : Prop := Claim7.holds Tryd.pinned (.plain (OpenSpec.upto diskHoldsSpec)) diskHoldsUptoCard

/-- THE SECOND FORM's CARD OF 'kiosklaw2.DiskOthers'. -/
def diskOthersUptoCard : Claim7 := { stood := { row := diskOthersUptoRow, standIns := [], harness := (true, "a40ff5a0f0c1e916bf57f761178edfb3c15d9576a65fa8a6e6a506fb7d249df3"), looks := false }, kinds := [], alts := [], laidByText := true, laidKinds := [.data, .pinned], laidTests := true, laidLooks := .later }
def DiskOthersUptoCardSaid : Prop := Claim7.holds Tryd.pinned (.plain (OpenSpec.upto diskOthersSpec)) diskOthersUptoCard

/-- THE SECOND FORM's CARD OF 'kiosklaw2.DiskMoves'. -/
def diskMovesUptoCard : Claim7 := { stood := { row := diskMovesUptoRow, standIns := [], harness := (true, "a40ff5a0f0c1e916bf57f761178edfb3c15d9576a65fa8a6e6a506fb7d249df3"), looks := false }, kinds := [], alts := [], laidByText := true, laidKinds := [.data, .pinned], laidTests := true, laidLooks := .later }
def DiskMovesUptoCardSaid : Prop := Claim7.holds Tryd.pinned (.plain (OpenSpec.upto diskMovesSpec)) diskMovesUptoCard

/-- THE SECOND FORM's CARD OF 'kiosklaw2.DiskFuses'. -/
def diskFusesUptoCard : Claim7 := { stood := { row := diskFusesUptoRow, standIns := [], harness := (true, "a40ff5a0f0c1e916bf57f761178edfb3c15d9576a65fa8a6e6a506fb7d249df3"), looks := false }, kinds := [], alts := [], laidByText := true, laidKinds := [.data, .pinned], laidTests := true, laidLooks := .later }
def DiskFusesUptoCardSaid : Prop := Claim7.holds Tryd.pinned (.plain (OpenSpec.upto diskFusesSpec)) diskFusesUptoCard
end Rows
end Go.Proofs.YtfcnjbkoneinpaaDoor
