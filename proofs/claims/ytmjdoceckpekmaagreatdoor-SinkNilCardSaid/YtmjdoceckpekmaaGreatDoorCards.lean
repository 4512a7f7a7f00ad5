/-
  DERIVED. GIVEN WITH THE SEED: THE CARDS: each row of YtmjdoceckpekmaaGreatDoorRows.lean that lists a variable, with what it lists TIED to the program's text (the seventh form; the later family's looks); each row that meets fmt, with fmt's text TOLD by the authors' own Lean function (tested against real Go, not proved from fmt's source: count such statements apart). THE CARD IS WHAT COUNTS. Prove the row's statement (the work); the ties are given (YtmjdoceckpekmaaGreatDoorTie.lean); close each card by the builder's one call (the guide's Derived/Test/ToyasCard.lean, 'card_holds'). Laid BY PROGRAM, IN A SANDBOX (cutbox-door.mjs). By AI agents, Wed Nov 11 2026. No macro, syntax, notation, axiom, sorry.
-/
import Derived.Test.YtmjdoceckpekmaaGreatDoorRows
import GoSem.ClaimSeven
namespace Go.Proofs.YtmjdoceckpekmaaGreatDoor
namespace Rows

/-- THE TIED CARD OF 'headgatelaw24.SinkNil'. -/
def sinkNilCard : Claim7 := { stood := { row := sinkNilRow, standIns := [], harness := (true, "2bef4f5a6103fd349802f55703fcffb93878e5047f7f3b48df51eff5761f6d7a"), looks := true }, kinds := [], alts := [], laidByText := true, laidKinds := [.data, .pinned], laidTests := true, laidLooks := .later }
def SinkNilCardSaid : Prop := Claim7.holds Tryz.pinned (.plain (OpenSpec.ofChange sinkNilSpec)) sinkNilCard

/-- THE SECOND FORM's CARD OF 'headgatelaw24.SinkNil'. -/
def sinkNilUptoCard : Claim7 := { stood := { row := sinkNilUptoRow, standIns := [], harness := (true, "2bef4f5a6103fd349802f55703fcffb93878e5047f7f3b48df51eff5761f6d7a"), looks := true }, kinds := [], alts := [], laidByText := true, laidKinds := [.data, .pinned], laidTests := true, laidLooks := .later }
def SinkNilUptoCardSaid : Prop := Claim7.holds Tryz.pinned (.plain (OpenSpec.upto sinkNilSpec)) sinkNilUptoCard
end Rows
end Go.Proofs.YtmjdoceckpekmaaGreatDoor
