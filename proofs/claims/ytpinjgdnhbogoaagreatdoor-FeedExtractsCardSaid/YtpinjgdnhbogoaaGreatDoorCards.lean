/-
  DERIVED. GIVEN WITH THE SEED: THE CARDS: each row of YtpinjgdnhbogoaaGreatDoorRows.lean that lists a variable, with what it lists TIED to the program's text (the seventh form; the later family's looks); each row that meets fmt, with fmt's text TOLD by the authors' own Lean function (tested against real Go, not proved from fmt's source: count such statements apart). THE CARD IS WHAT COUNTS. Prove the row's statement (the work); the ties are given (YtpinjgdnhbogoaaGreatDoorTie.lean); close each card by the builder's one call (the guide's Derived/Test/ToyasCard.lean, 'card_holds'). Laid BY PROGRAM, IN A SANDBOX (cutbox-door.mjs). By AI agents, Wed Nov 11 2026. No macro, syntax, notation, axiom, sorry.
-/
import Derived.Test.YtpinjgdnhbogoaaGreatDoorRows
import GoSem.ClaimSeven
namespace Go.Proofs.YtpinjgdnhbogoaaGreatDoor
namespace Rows

/-- THE TIED CARD OF 'kiosklaw12.TreeBuilds'. -/
def treeBuildsCard : Claim7 := { stood := { row := treeBuildsRow, standIns := [], harness := (true, "b9cd785eaab0d100eff31bfbf35cc6e3d057da008c2e98a76fc5338197485d87"), looks := true }, kinds := [], alts := [], laidByText := true, laidKinds := [.data, .data, .data, .data, .sentinel, .sentinel, .pinned], laidTests := true, laidLooks := .later }
def TreeBuildsCardSaid : Prop := Claim7.holds Tryz.pinned (.plain (OpenSpec.ofChange treeBuildsSpec)) treeBuildsCard

/-- THE TIED CARD OF 'kiosklaw12.TreeFinds'. -/
def treeFindsCard : Claim7 := { stood := { row := treeFindsRow, standIns := [], harness := (true, "b9cd785eaab0d100eff31bfbf35cc6e3d057da008c2e98a76fc5338197485d87"), looks := true }, kinds := [], alts := [], laidByText := true, laidKinds := [.data, .data, .data, .data, .sentinel, .sentinel, .pinned], laidTests := true, laidLooks := .later }
def TreeFindsCardSaid : Prop := Claim7.holds Tryz.pinned (.plain (OpenSpec.ofChange treeFindsSpec)) treeFindsCard

/-- THE TIED CARD OF 'kiosklaw12.TreeBack'. -/
def treeBackCard : Claim7 := { stood := { row := treeBackRow, standIns := [], harness := (true, "b9cd785eaab0d100eff31bfbf35cc6e3d057da008c2e98a76fc5338197485d87"), looks := true }, kinds := [], alts := [], laidByText := true, laidKinds := [.data, .data, .data, .data, .sentinel, .sentinel, .pinned], laidTests := true, laidLooks := .later }
def TreeBackCardSaid : Prop := Claim7.holds Tryz.pinned (.plain (OpenSpec.ofChange treeBackSpec)) treeBackCard

/-- THE TIED CARD OF 'kiosklaw12.TreeWraps'. -/
def treeWrapsCard : Claim7 := { stood := { row := treeWrapsRow, standIns := [], harness := (true, "b9cd785eaab0d100eff31bfbf35cc6e3d057da008c2e98a76fc5338197485d87"), looks := true }, kinds := [], alts := [], laidByText := true, laidKinds := [.data, .data, .data, .data, .sentinel, .sentinel, .pinned], laidTests := true, laidLooks := .later }
def TreeWrapsCardSaid : Prop := Claim7.holds Tryz.pinned (.plain (OpenSpec.ofChange treeWrapsSpec)) treeWrapsCard

/-- THE TIED CARD OF 'kiosklaw11.XmlReads'. -/
def xmlReadsCard : Claim7 := { stood := { row := xmlReadsRow, standIns := [], harness := (true, "b9cd785eaab0d100eff31bfbf35cc6e3d057da008c2e98a76fc5338197485d87"), looks := true }, kinds := [], alts := [], laidByText := true, laidKinds := [.data, .data, .data, .data, .sentinel, .sentinel, .pinned], laidTests := true, laidLooks := .later }
def XmlReadsCardSaid : Prop := Claim7.holds Tryz.pinned (.plain (OpenSpec.ofChange xmlReadsSpec)) xmlReadsCard

/-- THE TIED CARD OF 'kiosklaw11.XmlEscapes'. -/
def xmlEscapesCard : Claim7 := { stood := { row := xmlEscapesRow, standIns := [], harness := (true, "b9cd785eaab0d100eff31bfbf35cc6e3d057da008c2e98a76fc5338197485d87"), looks := true }, kinds := [], alts := [], laidByText := true, laidKinds := [.data, .data, .data, .data, .sentinel, .sentinel, .pinned], laidTests := true, laidLooks := .later }
def XmlEscapesCardSaid : Prop := Claim7.holds Tryz.pinned (.plain (OpenSpec.ofChange xmlEscapesSpec)) xmlEscapesCard

/-- THE TIED CARD OF 'kiosklaw11.XmlSilent'. -/
def xmlSilentCard : Claim7 := { stood := { row := xmlSilentRow, standIns := [], harness := (true, "b9cd785eaab0d100eff31bfbf35cc6e3d057da008c2e98a76fc5338197485d87"), looks := true }, kinds := [], alts := [], laidByText := true, laidKinds := [.data, .data, .data, .data, .sentinel, .sentinel, .pinned], laidTests := true, laidLooks := .later }
def XmlSilentCardSaid : Prop := Claim7.holds Tryz.pinned (.plain (OpenSpec.ofChange xmlSilentSpec)) xmlSilentCard

/-- THE TIED CARD OF 'kiosklaw11.XmlRefs'. -/
def xmlRefsCard : Claim7 := { stood := { row := xmlRefsRow, standIns := [], harness := (true, "b9cd785eaab0d100eff31bfbf35cc6e3d057da008c2e98a76fc5338197485d87"), looks := true }, kinds := [], alts := [], laidByText := true, laidKinds := [.data, .data, .data, .data, .sentinel, .sentinel, .pinned], laidTests := true, laidLooks := .later }
def XmlRefsCardSaid : Prop := Claim7.holds Tryz.pinned (.plain (OpenSpec.ofChange xmlRefsSpec)) xmlRefsCard

/-- THE TIED CARD OF 'kiosklaw11.XmlJoins'. -/
def xmlJoinsCard : Claim7 := { stood := { row := xmlJoinsRow, standIns := [], harness := (true, "b9cd785eaab0d100eff31bfbf35cc6e3d057da008c2e98a76fc5338197485d87"), looks := true }, kinds := [], alts := [], laidByText := true, laidKinds := [.data, .data, .data, .data, .sentinel, .sentinel, .pinned], laidTests := true, laidLooks := .later }
def XmlJoinsCardSaid : Prop := Claim7.holds Tryz.pinned (.plain (OpenSpec.ofChange xmlJoinsSpec)) xmlJoinsCard

/-- THE TIED CARD OF 'kiosklaw12.TreeTells'. -/
def treeTellsCard : Claim7 := { stood := { row := treeTellsRow, standIns := [], harness := (true, "b9cd785eaab0d100eff31bfbf35cc6e3d057da008c2e98a76fc5338197485d87"), looks := true }, kinds := [], alts := [], laidByText := true, laidKinds := [.data, .data, .data, .data, .sentinel, .sentinel, .pinned], laidTests := true, laidLooks := .later }
def TreeTellsCardSaid : Prop := Claim7.holds Tryz.pinned (.plain (OpenSpec.ofChange treeTellsSpec)) treeTellsCard

/-- THE TIED CARD OF 'kiosklaw11.XmlWrites'. -/
def xmlWritesCard : Claim7 := { stood := { row := xmlWritesRow, standIns := [], harness := (true, "b9cd785eaab0d100eff31bfbf35cc6e3d057da008c2e98a76fc5338197485d87"), looks := true }, kinds := [], alts := [], laidByText := true, laidKinds := [.data, .data, .data, .data, .sentinel, .sentinel, .pinned], laidTests := true, laidLooks := .later }
def XmlWritesCardSaid : Prop := Claim7.holds Tryz.pinned (.plain (OpenSpec.ofChange xmlWritesSpec)) xmlWritesCard

/-- THE TIED CARD OF 'kiosklaw11.XmlBack'. -/
def xmlBackCard : Claim7 := { stood := { row := xmlBackRow, standIns := [], harness := (true, "b9cd785eaab0d100eff31bfbf35cc6e3d057da008c2e98a76fc5338197485d87"), looks := true }, kinds := [], alts := [], laidByText := true, laidKinds := [.data, .data, .data, .data, .sentinel, .sentinel, .pinned], laidTests := true, laidLooks := .later }
def XmlBackCardSaid : Prop := Claim7.holds Tryz.pinned (.plain (OpenSpec.ofChange xmlBackSpec)) xmlBackCard

/-- THE TIED CARD OF 'kiosklaw13.FeedExtracts'. -/
def feedExtractsCard : Claim7 := { stood := { row := feedExtractsRow, standIns := [], harness := (true, "b9cd785eaab0d100eff31bfbf35cc6e3d057da008c2e98a76fc5338197485d87"), looks := true }, kinds := [], alts := [], laidByText := true, laidKinds := [.data, .data, .data, .data, .sentinel, .sentinel, .pinned], laidTests := true, laidLooks := .later }
def FeedExtractsCardSaid : Prop := Claim7.holds Tryz.pinned (.plain (OpenSpec.ofChange feedExtractsSpec)) feedExtractsCard

/-- THE TIED CARD OF 'kiosklaw13.FeedItems'. -/
def feedItemsCard : Claim7 := { stood := { row := feedItemsRow, standIns := [], harness := (true, "b9cd785eaab0d100eff31bfbf35cc6e3d057da008c2e98a76fc5338197485d87"), looks := true }, kinds := [], alts := [], laidByText := true, laidKinds := [.data, .data, .data, .data, .sentinel, .sentinel, .pinned], laidTests := true, laidLooks := .later }
def FeedItemsCardSaid : Prop := Claim7.holds Tryz.pinned (.plain (OpenSpec.ofChange feedItemsSpec)) feedItemsCard

/-- THE TIED CARD OF 'kiosklaw13.FeedWrites'. -/
def feedWritesCard : Claim7 := { stood := { row := feedWritesRow, standIns := [], harness := (true, "b9cd785eaab0d100eff31bfbf35cc6e3d057da008c2e98a76fc5338197485d87"), looks := true }, kinds := [], alts := [], laidByText := true, laidKinds := [.data, .data, .data, .data, .sentinel, .sentinel, .pinned], laidTests := true, laidLooks := .later }
def FeedWritesCardSaid : Prop := Claim7.holds Tryz.pinned (.plain (OpenSpec.ofChange feedWritesSpec)) feedWritesCard

/-- THE TIED CARD OF 'kiosklaw13.FeedCuts'. -/
def feedCutsCard : Claim7 := { stood := { row := feedCutsRow, standIns := [], harness := (true, "b9cd785eaab0d100eff31bfbf35cc6e3d057da008c2e98a76fc5338197485d87"), looks := true }, kinds := [], alts := [], laidByText := true, laidKinds := [.data, .data, .data, .data, .sentinel, .sentinel, .pinned], laidTests := true, laidLooks := .later }
def FeedCutsCardSaid : Prop := Claim7.holds Tryz.pinned (.plain (OpenSpec.ofChange feedCutsSpec)) feedCutsCard

/-- THE TIED CARD OF 'kiosklaw13.FeedBack'. -/
def feedBackCard : Claim7 := { stood := { row := feedBackRow, standIns := [], harness := (true, "b9cd785eaab0d100eff31bfbf35cc6e3d057da008c2e98a76fc5338197485d87"), looks := true }, kinds := [], alts := [], laidByText := true, laidKinds := [.data, .data, .data, .data, .sentinel, .sentinel, .pinned], laidTests := true, laidLooks := .later }
def FeedBackCardSaid : Prop := Claim7.holds Tryz.pinned (.plain (OpenSpec.ofChange feedBackSpec)) feedBackCard

/-- THE TIED CARD OF 'kiosklaw13.FeedDoubles'. -/
def feedDoublesCard : Claim7 := { stood := { row := feedDoublesRow, standIns := [], harness := (true, "b9cd785eaab0d100eff31bfbf35cc6e3d057da008c2e98a76fc5338197485d87"), looks := true }, kinds := [], alts := [], laidByText := true, laidKinds := [.data, .data, .data, .data, .sentinel, .sentinel, .pinned], laidTests := true, laidLooks := .later }
def FeedDoublesCardSaid : Prop := Claim7.holds Tryz.pinned (.plain (OpenSpec.ofChange feedDoublesSpec)) feedDoublesCard

/-- THE TIED CARD OF 'kiosklaw13.FeedAlike'. -/
def feedAlikeCard : Claim7 := { stood := { row := feedAlikeRow, standIns := [], harness := (true, "b9cd785eaab0d100eff31bfbf35cc6e3d057da008c2e98a76fc5338197485d87"), looks := true }, kinds := [], alts := [], laidByText := true, laidKinds := [.data, .data, .data, .data, .sentinel, .sentinel, .pinned], laidTests := true, laidLooks := .later }
def FeedAlikeCardSaid : Prop := Claim7.holds Tryz.pinned (.plain (OpenSpec.ofChange feedAlikeSpec)) feedAlikeCard

/-- THE SECOND FORM's CARD OF 'kiosklaw12.TreeBuilds'. -/
def treeBuildsUptoCard : Claim7 := { stood := { row := treeBuildsUptoRow, standIns := [], harness := (true, "b9cd785eaab0d100eff31bfbf35cc6e3d057da008c2e98a76fc5338197485d87"), looks := true }, kinds := [], alts := [], laidByText := true, laidKinds := [.data, .data, .data, .data, .sentinel, .sentinel, .pinned], laidTests := true, laidLooks := .later }
def TreeBuildsUptoCardSaid : Prop := Claim7.holds Tryz.pinned (.plain (OpenSpec.upto treeBuildsSpec)) treeBuildsUptoCard

/-- THE SECOND FORM's CARD OF 'kiosklaw12.TreeFinds'. -/
def treeFindsUptoCard : Claim7 := { stood := { row := treeFindsUptoRow, standIns := [], harness := (true, "b9cd785eaab0d100eff31bfbf35cc6e3d057da008c2e98a76fc5338197485d87"), looks := true }, kinds := [], alts := [], laidByText := true, laidKinds := [.data, .data, .data, .data, .sentinel, .sentinel, .pinned], laidTests := true, laidLooks := .later }
def TreeFindsUptoCardSaid : Prop := Claim7.holds Tryz.pinned (.plain (OpenSpec.upto treeFindsSpec)) treeFindsUptoCard

/-- THE SECOND FORM's CARD OF 'kiosklaw12.TreeBack'. -/
def treeBackUptoCard : Claim7 := { stood := { row := treeBackUptoRow, standIns := [], harness := (true, "b9cd785eaab0d100eff31bfbf35cc6e3d057da008c2e98a76fc5338197485d87"), looks := true }, kinds := [], alts := [], laidByText := true, laidKinds := [.data, .data, .data, .data, .sentinel, .sentinel, .pinned], laidTests := true, laidLooks := .later }
def TreeBackUptoCardSaid : Prop := Claim7.holds Tryz.pinned (.plain (OpenSpec.upto treeBackSpec)) treeBackUptoCard

/-- THE SECOND FORM's CARD OF 'kiosklaw12.TreeWraps'. -/
def treeWrapsUptoCard : Claim7 := { stood := { row := treeWrapsUptoRow, standIns := [], harness := (true, "b9cd785eaab0d100eff31bfbf35cc6e3d057da008c2e98a76fc5338197485d87"), looks := true }, kinds := [], alts := [], laidByText := true, laidKinds := [.data, .data, .data, .data, .sentinel, .sentinel, .pinned], laidTests := true, laidLooks := .later }
def TreeWrapsUptoCardSaid : Prop := Claim7.holds Tryz.pinned (.plain (OpenSpec.upto treeWrapsSpec)) treeWrapsUptoCard

/-- THE SECOND FORM's CARD OF 'kiosklaw11.XmlReads'. -/
def xmlReadsUptoCard : Claim7 := { stood := { row := xmlReadsUptoRow, standIns := [], harness := (true, "b9cd785eaab0d100eff31bfbf35cc6e3d057da008c2e98a76fc5338197485d87"), looks := true }, kinds := [], alts := [], laidByText := true, laidKinds := [.data, .data, .data, .data, .sentinel, .sentinel, .pinned], laidTests := true, laidLooks := .later }
def XmlReadsUptoCardSaid : Prop := Claim7.holds Tryz.pinned (.plain (OpenSpec.upto xmlReadsSpec)) xmlReadsUptoCard

/-- THE SECOND FORM's CARD OF 'kiosklaw11.XmlEscapes'. -/
def xmlEscapesUptoCard : Claim7 := { stood := { row := xmlEscapesUptoRow, standIns := [], harness := (true, "b9cd785eaab0d100eff31bfbf35cc6e3d057da008c2e98a76fc5338197485d87"), looks := true }, kinds := [], alts := [], laidByText := true, laidKinds := [.data, .data, .data, .data, .sentinel, .sentinel, .pinned], laidTests := true, laidLooks := .later }
def XmlEscapesUptoCardSaid : Prop := Claim7.holds Tryz.pinned (.plain (OpenSpec.upto xmlEscapesSpec)) xmlEscapesUptoCard

/-- THE SECOND FORM's CARD OF 'kiosklaw11.XmlSilent'. -/
def xmlSilentUptoCard : Claim7 := { stood := { row := xmlSilentUptoRow, standIns := [], harness := (true, "b9cd785eaab0d100eff31bfbf35cc6e3d057da008c2e98a76fc5338197485d87"), looks := true }, kinds := [], alts := [], laidByText := true, laidKinds := [.data, .data, .data, .data, .sentinel, .sentinel, .pinned], laidTests := true, laidLooks := .later }
def XmlSilentUptoCardSaid : Prop := Claim7.holds Tryz.pinned (.plain (OpenSpec.upto xmlSilentSpec)) xmlSilentUptoCard

/-- THE SECOND FORM's CARD OF 'kiosklaw11.XmlRefs'. -/
def xmlRefsUptoCard : Claim7 := { stood := { row := xmlRefsUptoRow, standIns := [], harness := (true, "b9cd785eaab0d100eff31bfbf35cc6e3d057da008c2e98a76fc5338197485d87"), looks := true }, kinds := [], alts := [], laidByText := true, laidKinds := [.data, .data, .data, .data, .sentinel, .sentinel, .pinned], laidTests := true, laidLooks := .later }
def XmlRefsUptoCardSaid : Prop := Claim7.holds Tryz.pinned (.plain (OpenSpec.upto xmlRefsSpec)) xmlRefsUptoCard

/-- THE SECOND FORM's CARD OF 'kiosklaw11.XmlJoins'. -/
def xmlJoinsUptoCard : Claim7 := { stood := { row := xmlJoinsUptoRow, standIns := [], harness := (true, "b9cd785eaab0d100eff31bfbf35cc6e3d057da008c2e98a76fc5338197485d87"), looks := true }, kinds := [], alts := [], laidByText := true, laidKinds := [.data, .data, .data, .data, .sentinel, .sentinel, .pinned], laidTests := true, laidLooks := .later }
def XmlJoinsUptoCardSaid : Prop := Claim7.holds Tryz.pinned (.plain (OpenSpec.upto xmlJoinsSpec)) xmlJoinsUptoCard

/-- THE SECOND FORM's CARD OF 'kiosklaw12.TreeTells'. -/
def treeTellsUptoCard : Claim7 := { stood := { row := treeTellsUptoRow, standIns := [], harness := (true, "b9cd785eaab0d100eff31bfbf35cc6e3d057da008c2e98a76fc5338197485d87"), looks := true }, kinds := [], alts := [], laidByText := true, laidKinds := [.data, .data, .data, .data, .sentinel, .sentinel, .pinned], laidTests := true, laidLooks := .later }
def TreeTellsUptoCardSaid : Prop := Claim7.holds Tryz.pinned (.plain (OpenSpec.upto treeTellsSpec)) treeTellsUptoCard

/-- THE SECOND FORM's CARD OF 'kiosklaw11.XmlWrites'. -/
def xmlWritesUptoCard : Claim7 := { stood := { row := xmlWritesUptoRow, standIns := [], harness := (true, "b9cd785eaab0d100eff31bfbf35cc6e3d057da008c2e98a76fc5338197485d87"), looks := true }, kinds := [], alts := [], laidByText := true, laidKinds := [.data, .data, .data, .data, .sentinel, .sentinel, .pinned], laidTests := true, laidLooks := .later }
def XmlWritesUptoCardSaid : Prop := Claim7.holds Tryz.pinned (.plain (OpenSpec.upto xmlWritesSpec)) xmlWritesUptoCard

/-- THE SECOND FORM's CARD OF 'kiosklaw11.XmlBack'. -/
def xmlBackUptoCard : Claim7 := { stood := { row := xmlBackUptoRow, standIns := [], harness := (true, "b9cd785eaab0d100eff31bfbf35cc6e3d057da008c2e98a76fc5338197485d87"), looks := true }, kinds := [], alts := [], laidByText := true, laidKinds := [.data, .data, .data, .data, .sentinel, .sentinel, .pinned], laidTests := true, laidLooks := .later }
def XmlBackUptoCardSaid : Prop := Claim7.holds Tryz.pinned (.plain (OpenSpec.upto xmlBackSpec)) xmlBackUptoCard

/-- THE SECOND FORM's CARD OF 'kiosklaw13.FeedExtracts'. -/
def feedExtractsUptoCard : Claim7 := { stood := { row := feedExtractsUptoRow, standIns := [], harness := (true, "b9cd785eaab0d100eff31bfbf35cc6e3d057da008c2e98a76fc5338197485d87"), looks := true }, kinds := [], alts := [], laidByText := true, laidKinds := [.data, .data, .data, .data, .sentinel, .sentinel, .pinned], laidTests := true, laidLooks := .later }
def FeedExtractsUptoCardSaid : Prop := Claim7.holds Tryz.pinned (.plain (OpenSpec.upto feedExtractsSpec)) feedExtractsUptoCard

/-- THE SECOND FORM's CARD OF 'kiosklaw13.FeedItems'. -/
def feedItemsUptoCard : Claim7 := { stood := { row := feedItemsUptoRow, standIns := [], harness := (true, "b9cd785eaab0d100eff31bfbf35cc6e3d057da008c2e98a76fc5338197485d87"), looks := true }, kinds := [], alts := [], laidByText := true, laidKinds := [.data, .data, .data, .data, .sentinel, .sentinel, .pinned], laidTests := true, laidLooks := .later }
def FeedItemsUptoCardSaid : Prop := Claim7.holds Tryz.pinned (.plain (OpenSpec.upto feedItemsSpec)) feedItemsUptoCard

/-- THE SECOND FORM's CARD OF 'kiosklaw13.FeedWrites'. -/
def feedWritesUptoCard : Claim7 := { stood := { row := feedWritesUptoRow, standIns := [], harness := (true, "b9cd785eaab0d100eff31bfbf35cc6e3d057da008c2e98a76fc5338197485d87"), looks := true }, kinds := [], alts := [], laidByText := true, laidKinds := [.data, .data, .data, .data, .sentinel, .sentinel, .pinned], laidTests := true, laidLooks := .later }
def FeedWritesUptoCardSaid : Prop := Claim7.holds Tryz.pinned (.plain (OpenSpec.upto feedWritesSpec)) feedWritesUptoCard

/-- THE SECOND FORM's CARD OF 'kiosklaw13.FeedCuts'. -/
def feedCutsUptoCard : Claim7 := { stood := { row := feedCutsUptoRow, standIns := [], harness := (true, "b9cd785eaab0d100eff31bfbf35cc6e3d057da008c2e98a76fc5338197485d87"), looks := true }, kinds := [], alts := [], laidByText := true, laidKinds := [.data, .data, .data, .data, .sentinel, .sentinel, .pinned], laidTests := true, laidLooks := .later }
def FeedCutsUptoCardSaid : Prop := Claim7.holds Tryz.pinned (.plain (OpenSpec.upto feedCutsSpec)) feedCutsUptoCard

/-- THE SECOND FORM's CARD OF 'kiosklaw13.FeedBack'. -/
def feedBackUptoCard : Claim7 := { stood := { row := feedBackUptoRow, standIns := [], harness := (true, "b9cd785eaab0d100eff31bfbf35cc6e3d057da008c2e98a76fc5338197485d87"), looks := true }, kinds := [], alts := [], laidByText := true, laidKinds := [.data, .data, .data, .data, .sentinel, .sentinel, .pinned], laidTests := true, laidLooks := .later }
def FeedBackUptoCardSaid : Prop := Claim7.holds Tryz.pinned (.plain (OpenSpec.upto feedBackSpec)) feedBackUptoCard

/-- THE SECOND FORM's CARD OF 'kiosklaw13.FeedDoubles'. -/
def feedDoublesUptoCard : Claim7 := { stood := { row := feedDoublesUptoRow, standIns := [], harness := (true, "b9cd785eaab0d100eff31bfbf35cc6e3d057da008c2e98a76fc5338197485d87"), looks := true }, kinds := [], alts := [], laidByText := true, laidKinds := [.data, .data, .data, .data, .sentinel, .sentinel, .pinned], laidTests := true, laidLooks := .later }
def FeedDoublesUptoCardSaid : Prop := Claim7.holds Tryz.pinned (.plain (OpenSpec.upto feedDoublesSpec)) feedDoublesUptoCard

/-- THE SECOND FORM's CARD OF 'kiosklaw13.FeedAlike'. -/
def feedAlikeUptoCard : Claim7 := { stood := { row := feedAlikeUptoRow, standIns := [], harness := (true, "b9cd785eaab0d100eff31bfbf35cc6e3d057da008c2e98a76fc5338197485d87"), looks := true }, kinds := [], alts := [], laidByText := true, laidKinds := [.data, .data, .data, .data, .sentinel, .sentinel, .pinned], laidTests := true, laidLooks := .later }
def FeedAlikeUptoCardSaid : Prop := Claim7.holds Tryz.pinned (.plain (OpenSpec.upto feedAlikeSpec)) feedAlikeUptoCard
end Rows
end Go.Proofs.YtpinjgdnhbogoaaGreatDoor
