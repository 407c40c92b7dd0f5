/-
  DERIVED. GIVEN WITH THE SEED: THE CARDS: each row of YtpinjgdnhbogoaaDoorRows.lean that lists a variable, with what it lists TIED to the program's text (the seventh form; the later family's looks); each row that meets fmt, with fmt's text TOLD by the authors' own Lean function (tested against real Go, not proved from fmt's source: count such statements apart). THE CARD IS WHAT COUNTS. Prove the row's statement (the work); the ties are given (YtpinjgdnhbogoaaDoorTie.lean); close each card by the builder's one call (the guide's Derived/Test/ToyasCard.lean, 'card_holds'). Laid BY PROGRAM, IN A SANDBOX (cutbox-door.mjs). By AI agents, Wed Nov 11 2026. No macro, syntax, notation, axiom, sorry.
-/
import Derived.Test.YtpinjgdnhbogoaaDoorRows
import GoSem.ClaimSeven
namespace Go.Proofs.YtpinjgdnhbogoaaDoor
namespace Rows

/-- THE TIED CARD OF 'kiosklaw12.TreeSqueezes'. -/
def treeSqueezesCard : Claim7 := { stood := { row := treeSqueezesRow, standIns := [], harness := (true, "4b0ba9b10f112c8bd9e9aefd20245d90039faad20f7852a089873a9784d6f632"), looks := true }, kinds := [], alts := [], laidByText := true, laidKinds := [.data, .data, .data, .data, .sentinel, .sentinel, .pinned], laidTests := true, laidLooks := .later }
def TreeSqueezesCardSaid : Prop := Claim7.holds Tryd.pinned (.plain (OpenSpec.ofChange treeSqueezesSpec)) treeSqueezesCard

/-- THE SECOND FORM's CARD OF 'kiosklaw12.TreeSqueezes'. -/
def treeSqueezesUptoCard : Claim7 := { stood := { row := treeSqueezesUptoRow, standIns := [], harness := (true, "4b0ba9b10f112c8bd9e9aefd20245d90039faad20f7852a089873a9784d6f632"), looks := true }, kinds := [], alts := [], laidByText := true, laidKinds := [.data, .data, .data, .data, .sentinel, .sentinel, .pinned], laidTests := true, laidLooks := .later }
def TreeSqueezesUptoCardSaid : Prop := Claim7.holds Tryd.pinned (.plain (OpenSpec.upto treeSqueezesSpec)) treeSqueezesUptoCard
end Rows
end Go.Proofs.YtpinjgdnhbogoaaDoor
