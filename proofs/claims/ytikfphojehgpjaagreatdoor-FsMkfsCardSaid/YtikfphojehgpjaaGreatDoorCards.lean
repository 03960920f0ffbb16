/-
  DERIVED. GIVEN WITH THE SEED: THE CARDS: each row of YtikfphojehgpjaaGreatDoorRows.lean that lists a variable, with what it lists TIED to the program's text (the seventh form; the later family's looks); each row that meets fmt, with fmt's text TOLD by the authors' own Lean function (tested against real Go, not proved from fmt's source: count such statements apart). THE CARD IS WHAT COUNTS. Prove the row's statement (the work); the ties are given (YtikfphojehgpjaaGreatDoorTie.lean); close each card by the builder's one call (the guide's Derived/Test/ToyasCard.lean, 'card_holds'). Laid BY PROGRAM, IN A SANDBOX (cutbox-door.mjs). By AI agents, Wed Nov 11 2026. No macro, syntax, notation, axiom, sorry.
-/
import Derived.Test.YtikfphojehgpjaaGreatDoorRows
import GoSem.ClaimSeven
namespace Go.Proofs.YtikfphojehgpjaaGreatDoor
namespace Rows

/-- THE TIED CARD OF 'vellumlaw13.FsMkfs'. -/
def fsMkfsCard : Claim7 := { stood := { row := fsMkfsRow, standIns := [], harness := (true, "84f04e5f7c72e6a747daf5c12e9445e4dc4b2a40d0da4c2efe148f792cc8e759"), looks := true }, kinds := [], alts := [], laidByText := true, laidKinds := [.handle], laidTests := true, laidLooks := .later }
def FsMkfsCardSaid : Prop := Claim7.holds Tryz.pinned (.plain (OpenSpec.ofChange fsMkfsSpec)) fsMkfsCard

/-- THE SECOND FORM's CARD OF 'vellumlaw13.FsMkfs'. -/
def fsMkfsUptoCard : Claim7 := { stood := { row := fsMkfsUptoRow, standIns := [], harness := (true, "84f04e5f7c72e6a747daf5c12e9445e4dc4b2a40d0da4c2efe148f792cc8e759"), looks := true }, kinds := [], alts := [], laidByText := true, laidKinds := [.handle], laidTests := true, laidLooks := .later }
def FsMkfsUptoCardSaid : Prop := Claim7.holds Tryz.pinned (.plain (OpenSpec.upto fsMkfsSpec)) fsMkfsUptoCard
end Rows
end Go.Proofs.YtikfphojehgpjaaGreatDoor
