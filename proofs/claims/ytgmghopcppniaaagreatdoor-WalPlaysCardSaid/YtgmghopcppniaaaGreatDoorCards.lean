/-
  DERIVED. GIVEN WITH THE SEED: THE CARDS: each row of YtgmghopcppniaaaGreatDoorRows.lean that lists a variable, with what it lists TIED to the program's text (the seventh form; the later family's looks); each row that meets fmt, with fmt's text TOLD by the authors' own Lean function (tested against real Go, not proved from fmt's source: count such statements apart). THE CARD IS WHAT COUNTS. Prove the row's statement (the work); the ties are given (YtgmghopcppniaaaGreatDoorTie.lean); close each card by the builder's one call (the guide's Derived/Test/ToyasCard.lean, 'card_holds'). Laid BY PROGRAM, IN A SANDBOX (cutbox-door.mjs). By AI agents, Wed Nov 11 2026. No macro, syntax, notation, axiom, sorry.
-/
import Derived.Test.YtgmghopcppniaaaGreatDoorRows
import GoSem.ClaimSeven
namespace Go.Proofs.YtgmghopcppniaaaGreatDoor
namespace Rows

/-- THE TIED CARD OF 'kiosklaw4.SnapReads'. -/
def snapReadsCard : Claim7 := { stood := { row := snapReadsRow, standIns := [], harness := (true, "b32357663a7d4d61b22cc15202e41f5eca9b780a041e6fb9d5b1300ebce1d0ce"), looks := true }, kinds := [], alts := [], laidByText := true, laidKinds := [.data, .data, .data, .data, .sentinel, .sentinel, .pinned], laidTests := true, laidLooks := .later }
def SnapReadsCardSaid : Prop := Claim7.holds Tryz.pinned (.plain (OpenSpec.ofChange snapReadsSpec)) snapReadsCard

/-- THE TIED CARD OF 'kiosklaw4.SnapPacks'. -/
def snapPacksCard : Claim7 := { stood := { row := snapPacksRow, standIns := [], harness := (true, "b32357663a7d4d61b22cc15202e41f5eca9b780a041e6fb9d5b1300ebce1d0ce"), looks := true }, kinds := [], alts := [], laidByText := true, laidKinds := [.data, .data, .data, .data, .sentinel, .sentinel, .pinned], laidTests := true, laidLooks := .later }
def SnapPacksCardSaid : Prop := Claim7.holds Tryz.pinned (.plain (OpenSpec.ofChange snapPacksSpec)) snapPacksCard

/-- THE TIED CARD OF 'kiosklaw4.SnapBack'. -/
def snapBackCard : Claim7 := { stood := { row := snapBackRow, standIns := [], harness := (true, "b32357663a7d4d61b22cc15202e41f5eca9b780a041e6fb9d5b1300ebce1d0ce"), looks := true }, kinds := [], alts := [], laidByText := true, laidKinds := [.data, .data, .data, .data, .sentinel, .sentinel, .pinned], laidTests := true, laidLooks := .later }
def SnapBackCardSaid : Prop := Claim7.holds Tryz.pinned (.plain (OpenSpec.ofChange snapBackSpec)) snapBackCard

/-- THE TIED CARD OF 'kiosklaw4.SnapLengths'. -/
def snapLengthsCard : Claim7 := { stood := { row := snapLengthsRow, standIns := [], harness := (true, "b32357663a7d4d61b22cc15202e41f5eca9b780a041e6fb9d5b1300ebce1d0ce"), looks := true }, kinds := [], alts := [], laidByText := true, laidKinds := [.data, .data, .data, .data, .sentinel, .sentinel, .pinned], laidTests := true, laidLooks := .later }
def SnapLengthsCardSaid : Prop := Claim7.holds Tryz.pinned (.plain (OpenSpec.ofChange snapLengthsSpec)) snapLengthsCard

/-- THE TIED CARD OF 'kiosklaw4.SnapKeeps'. -/
def snapKeepsCard : Claim7 := { stood := { row := snapKeepsRow, standIns := [], harness := (true, "b32357663a7d4d61b22cc15202e41f5eca9b780a041e6fb9d5b1300ebce1d0ce"), looks := true }, kinds := [], alts := [], laidByText := true, laidKinds := [.data, .data, .data, .data, .sentinel, .sentinel, .pinned], laidTests := true, laidLooks := .later }
def SnapKeepsCardSaid : Prop := Claim7.holds Tryz.pinned (.plain (OpenSpec.ofChange snapKeepsSpec)) snapKeepsCard

/-- THE TIED CARD OF 'kiosklaw3.WalOpens'. -/
def walOpensCard : Claim7 := { stood := { row := walOpensRow, standIns := [], harness := (true, "b32357663a7d4d61b22cc15202e41f5eca9b780a041e6fb9d5b1300ebce1d0ce"), looks := true }, kinds := [], alts := [], laidByText := true, laidKinds := [.data, .data, .data, .data, .sentinel, .sentinel, .pinned], laidTests := true, laidLooks := .later }
def WalOpensCardSaid : Prop := Claim7.holds Tryz.pinned (.plain (OpenSpec.ofChange walOpensSpec)) walOpensCard

/-- THE TIED CARD OF 'kiosklaw3.WalPlays'. -/
def walPlaysCard : Claim7 := { stood := { row := walPlaysRow, standIns := [], harness := (true, "b32357663a7d4d61b22cc15202e41f5eca9b780a041e6fb9d5b1300ebce1d0ce"), looks := true }, kinds := [], alts := [], laidByText := true, laidKinds := [.data, .data, .data, .data, .sentinel, .sentinel, .pinned], laidTests := true, laidLooks := .later }
def WalPlaysCardSaid : Prop := Claim7.holds Tryz.pinned (.plain (OpenSpec.ofChange walPlaysSpec)) walPlaysCard

/-- THE TIED CARD OF 'kiosklaw3.WalKeeps'. -/
def walKeepsCard : Claim7 := { stood := { row := walKeepsRow, standIns := [], harness := (true, "b32357663a7d4d61b22cc15202e41f5eca9b780a041e6fb9d5b1300ebce1d0ce"), looks := true }, kinds := [], alts := [], laidByText := true, laidKinds := [.data, .data, .data, .data, .sentinel, .sentinel, .pinned], laidTests := true, laidLooks := .later }
def WalKeepsCardSaid : Prop := Claim7.holds Tryz.pinned (.plain (OpenSpec.ofChange walKeepsSpec)) walKeepsCard

/-- THE TIED CARD OF 'kiosklaw3.WalCuts'. -/
def walCutsCard : Claim7 := { stood := { row := walCutsRow, standIns := [], harness := (true, "b32357663a7d4d61b22cc15202e41f5eca9b780a041e6fb9d5b1300ebce1d0ce"), looks := true }, kinds := [], alts := [], laidByText := true, laidKinds := [.data, .data, .data, .data, .sentinel, .sentinel, .pinned], laidTests := true, laidLooks := .later }
def WalCutsCardSaid : Prop := Claim7.holds Tryz.pinned (.plain (OpenSpec.ofChange walCutsSpec)) walCutsCard

/-- THE TIED CARD OF 'kiosklaw3.WalAgain'. -/
def walAgainCard : Claim7 := { stood := { row := walAgainRow, standIns := [], harness := (true, "b32357663a7d4d61b22cc15202e41f5eca9b780a041e6fb9d5b1300ebce1d0ce"), looks := true }, kinds := [], alts := [], laidByText := true, laidKinds := [.data, .data, .data, .data, .sentinel, .sentinel, .pinned], laidTests := true, laidLooks := .later }
def WalAgainCardSaid : Prop := Claim7.holds Tryz.pinned (.plain (OpenSpec.ofChange walAgainSpec)) walAgainCard

/-- THE TIED CARD OF 'kiosklaw3.WalFull'. -/
def walFullCard : Claim7 := { stood := { row := walFullRow, standIns := [], harness := (true, "b32357663a7d4d61b22cc15202e41f5eca9b780a041e6fb9d5b1300ebce1d0ce"), looks := true }, kinds := [], alts := [], laidByText := true, laidKinds := [.data, .data, .data, .data, .sentinel, .sentinel, .pinned], laidTests := true, laidLooks := .later }
def WalFullCardSaid : Prop := Claim7.holds Tryz.pinned (.plain (OpenSpec.ofChange walFullSpec)) walFullCard

/-- THE SECOND FORM's CARD OF 'kiosklaw4.SnapReads'. -/
def snapReadsUptoCard : Claim7 := { stood := { row := snapReadsUptoRow, standIns := [], harness := (true, "b32357663a7d4d61b22cc15202e41f5eca9b780a041e6fb9d5b1300ebce1d0ce"), looks := true }, kinds := [], alts := [], laidByText := true, laidKinds := [.data, .data, .data, .data, .sentinel, .sentinel, .pinned], laidTests := true, laidLooks := .later }
def SnapReadsUptoCardSaid : Prop := Claim7.holds Tryz.pinned (.plain (OpenSpec.upto snapReadsSpec)) snapReadsUptoCard

/-- THE SECOND FORM's CARD OF 'kiosklaw4.SnapPacks'. -/
def snapPacksUptoCard : Claim7 := { stood := { row := snapPacksUptoRow, standIns := [], harness := (true, "b32357663a7d4d61b22cc15202e41f5eca9b780a041e6fb9d5b1300ebce1d0ce"), looks := true }, kinds := [], alts := [], laidByText := true, laidKinds := [.data, .data, .data, .data, .sentinel, .sentinel, .pinned], laidTests := true, laidLooks := .later }
def SnapPacksUptoCardSaid : Prop := Claim7.holds Tryz.pinned (.plain (OpenSpec.upto snapPacksSpec)) snapPacksUptoCard

/-- THE SECOND FORM's CARD OF 'kiosklaw4.SnapBack'. -/
def snapBackUptoCard : Claim7 := { stood := { row := snapBackUptoRow, standIns := [], harness := (true, "b32357663a7d4d61b22cc15202e41f5eca9b780a041e6fb9d5b1300ebce1d0ce"), looks := true }, kinds := [], alts := [], laidByText := true, laidKinds := [.data, .data, .data, .data, .sentinel, .sentinel, .pinned], laidTests := true, laidLooks := .later }
def SnapBackUptoCardSaid : Prop := Claim7.holds Tryz.pinned (.plain (OpenSpec.upto snapBackSpec)) snapBackUptoCard

/-- THE SECOND FORM's CARD OF 'kiosklaw4.SnapLengths'. -/
def snapLengthsUptoCard : Claim7 := { stood := { row := snapLengthsUptoRow, standIns := [], harness := (true, "b32357663a7d4d61b22cc15202e41f5eca9b780a041e6fb9d5b1300ebce1d0ce"), looks := true }, kinds := [], alts := [], laidByText := true, laidKinds := [.data, .data, .data, .data, .sentinel, .sentinel, .pinned], laidTests := true, laidLooks := .later }
def SnapLengthsUptoCardSaid : Prop := Claim7.holds Tryz.pinned (.plain (OpenSpec.upto snapLengthsSpec)) snapLengthsUptoCard

/-- THE SECOND FORM's CARD OF 'kiosklaw4.SnapKeeps'. -/
def snapKeepsUptoCard : Claim7 := { stood := { row := snapKeepsUptoRow, standIns := [], harness := (true, "b32357663a7d4d61b22cc15202e41f5eca9b780a041e6fb9d5b1300ebce1d0ce"), looks := true }, kinds := [], alts := [], laidByText := true, laidKinds := [.data, .data, .data, .data, .sentinel, .sentinel, .pinned], laidTests := true, laidLooks := .later }
def SnapKeepsUptoCardSaid : Prop := Claim7.holds Tryz.pinned (.plain (OpenSpec.upto snapKeepsSpec)) snapKeepsUptoCard

/-- THE SECOND FORM's CARD OF 'kiosklaw3.WalOpens'. -/
def walOpensUptoCard : Claim7 := { stood := { row := walOpensUptoRow, standIns := [], harness := (true, "b32357663a7d4d61b22cc15202e41f5eca9b780a041e6fb9d5b1300ebce1d0ce"), looks := true }, kinds := [], alts := [], laidByText := true, laidKinds := [.data, .data, .data, .data, .sentinel, .sentinel, .pinned], laidTests := true, laidLooks := .later }
def WalOpensUptoCardSaid : Prop := Claim7.holds Tryz.pinned (.plain (OpenSpec.upto walOpensSpec)) walOpensUptoCard

/-- THE SECOND FORM's CARD OF 'kiosklaw3.WalPlays'. -/
def walPlaysUptoCard : Claim7 := { stood := { row := walPlaysUptoRow, standIns := [], harness := (true, "b32357663a7d4d61b22cc15202e41f5eca9b780a041e6fb9d5b1300ebce1d0ce"), looks := true }, kinds := [], alts := [], laidByText := true, laidKinds := [.data, .data, .data, .data, .sentinel, .sentinel, .pinned], laidTests := true, laidLooks := .later }
def WalPlaysUptoCardSaid : Prop := Claim7.holds Tryz.pinned (.plain (OpenSpec.upto walPlaysSpec)) walPlaysUptoCard

/-- THE SECOND FORM's CARD OF 'kiosklaw3.WalKeeps'. -/
def walKeepsUptoCard : Claim7 := { stood := { row := walKeepsUptoRow, standIns := [], harness := (true, "b32357663a7d4d61b22cc15202e41f5eca9b780a041e6fb9d5b1300ebce1d0ce"), looks := true }, kinds := [], alts := [], laidByText := true, laidKinds := [.data, .data, .data, .data, .sentinel, .sentinel, .pinned], laidTests := true, laidLooks := .later }
def WalKeepsUptoCardSaid : Prop := Claim7.holds Tryz.pinned (.plain (OpenSpec.upto walKeepsSpec)) walKeepsUptoCard

/-- THE SECOND FORM's CARD OF 'kiosklaw3.WalCuts'. -/
def walCutsUptoCard : Claim7 := { stood := { row := walCutsUptoRow, standIns := [], harness := (true, "b32357663a7d4d61b22cc15202e41f5eca9b780a041e6fb9d5b1300ebce1d0ce"), looks := true }, kinds := [], alts := [], laidByText := true, laidKinds := [.data, .data, .data, .data, .sentinel, .sentinel, .pinned], laidTests := true, laidLooks := .later }
def WalCutsUptoCardSaid : Prop := Claim7.holds Tryz.pinned (.plain (OpenSpec.upto walCutsSpec)) walCutsUptoCard

/-- THE SECOND FORM's CARD OF 'kiosklaw3.WalAgain'. -/
def walAgainUptoCard : Claim7 := { stood := { row := walAgainUptoRow, standIns := [], harness := (true, "b32357663a7d4d61b22cc15202e41f5eca9b780a041e6fb9d5b1300ebce1d0ce"), looks := true }, kinds := [], alts := [], laidByText := true, laidKinds := [.data, .data, .data, .data, .sentinel, .sentinel, .pinned], laidTests := true, laidLooks := .later }
def WalAgainUptoCardSaid : Prop := Claim7.holds Tryz.pinned (.plain (OpenSpec.upto walAgainSpec)) walAgainUptoCard

/-- THE SECOND FORM's CARD OF 'kiosklaw3.WalFull'. -/
def walFullUptoCard : Claim7 := { stood := { row := walFullUptoRow, standIns := [], harness := (true, "b32357663a7d4d61b22cc15202e41f5eca9b780a041e6fb9d5b1300ebce1d0ce"), looks := true }, kinds := [], alts := [], laidByText := true, laidKinds := [.data, .data, .data, .data, .sentinel, .sentinel, .pinned], laidTests := true, laidLooks := .later }
def WalFullUptoCardSaid : Prop := Claim7.holds Tryz.pinned (.plain (OpenSpec.upto walFullSpec)) walFullUptoCard
end Rows
end Go.Proofs.YtgmghopcppniaaaGreatDoor
