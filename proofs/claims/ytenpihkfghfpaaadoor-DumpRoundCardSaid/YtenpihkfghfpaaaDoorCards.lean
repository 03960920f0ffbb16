/-
  DERIVED. GIVEN WITH THE SEED: THE CARDS: each row of YtenpihkfghfpaaaDoorRows.lean that lists a variable, with what it lists TIED to the program's text (the seventh form; the later family's looks); each row that meets fmt, with fmt's text TOLD by the authors' own Lean function (tested against real Go, not proved from fmt's source: count such statements apart). THE CARD IS WHAT COUNTS. Prove the row's statement (the work); the ties are given (YtenpihkfghfpaaaDoorTie.lean); close each card by the builder's one call (the guide's Derived/Test/ToyasCard.lean, 'card_holds'). Laid BY PROGRAM, IN A SANDBOX (cutbox-door.mjs). By AI agents, Wed Nov 11 2026. No macro, syntax, notation, axiom, sorry.
-/
import Derived.Test.YtenpihkfghfpaaaDoorRows
import GoSem.ClaimSeven
namespace Go.Proofs.YtenpihkfghfpaaaDoor
namespace Rows

/-- THE TIED CARD OF 'vellumlaw15.DumpPacks'. -/
def dumpPacksCard : Claim7 := { stood := { row := dumpPacksRow, standIns := [], harness := (true, "367fc5953fb03195c2ceb9d53b357bb6a55e1c26643112e165bd4cfc52f336ba"), looks := true }, kinds := [], alts := [], laidByText := true, laidKinds := [.data, .pinned], laidTests := true, laidLooks := .later }
def DumpPacksCardSaid : Prop := Claim7.holds Tryd.pinned (.plain (OpenSpec.ofChange dumpPacksSpec)) dumpPacksCard

/-- THE TIED CARD OF 'vellumlaw15.DumpLists'. -/
def dumpListsCard : Claim7 := { stood := { row := dumpListsRow, standIns := [], harness := (true, "367fc5953fb03195c2ceb9d53b357bb6a55e1c26643112e165bd4cfc52f336ba"), looks := true }, kinds := [], alts := [], laidByText := true, laidKinds := [.data, .pinned], laidTests := true, laidLooks := .later }
def DumpListsCardSaid : Prop := Claim7.holds Tryd.pinned (.plain (OpenSpec.ofChange dumpListsSpec)) dumpListsCard

/-- THE TIED CARD OF 'vellumlaw15.DumpRound'. -/
def dumpRoundCard : Claim7 := { stood := { row := dumpRoundRow, standIns := [], harness := (true, "367fc5953fb03195c2ceb9d53b357bb6a55e1c26643112e165bd4cfc52f336ba"), looks := true }, kinds := [], alts := [], laidByText := true, laidKinds := [.data, .pinned], laidTests := true, laidLooks := .later }
def DumpRoundCardSaid : Prop := Claim7.holds Tryd.pinned (.plain (OpenSpec.ofChange dumpRoundSpec)) dumpRoundCard

/-- THE SECOND FORM's CARD OF 'vellumlaw15.DumpPacks'. -/
def dumpPacksUptoCard : Claim7 := { stood := { row := dumpPacksUptoRow, standIns := [], harness := (true, "367fc5953fb03195c2ceb9d53b357bb6a55e1c26643112e165bd4cfc52f336ba"), looks := true }, kinds := [], alts := [], laidByText := true, laidKinds := [.data, .pinned], laidTests := true, laidLooks := .later }
def DumpPacksUptoCardSaid : Prop := Claim7.holds Tryd.pinned (.plain (OpenSpec.upto dumpPacksSpec)) dumpPacksUptoCard

/-- THE SECOND FORM's CARD OF 'vellumlaw15.DumpLists'. -/
def dumpListsUptoCard : Claim7 := { stood := { row := dumpListsUptoRow, standIns := [], harness := (true, "367fc5953fb03195c2ceb9d53b357bb6a55e1c26643112e165bd4cfc52f336ba"), looks := true }, kinds := [], alts := [], laidByText := true, laidKinds := [.data, .pinned], laidTests := true, laidLooks := .later }
def DumpListsUptoCardSaid : Prop := Claim7.holds Tryd.pinned (.plain (OpenSpec.upto dumpListsSpec)) dumpListsUptoCard

/-- THE SECOND FORM's CARD OF 'vellumlaw15.DumpRound'. -/
def dumpRoundUptoCard : Claim7 := { stood := { row := dumpRoundUptoRow, standIns := [], harness := (true, "367fc5953fb03195c2ceb9d53b357bb6a55e1c26643112e165bd4cfc52f336ba"), looks := true }, kinds := [], alts := [], laidByText := true, laidKinds := [.data, .pinned], laidTests := true, laidLooks := .later }
def DumpRoundUptoCardSaid : Prop := Claim7.holds Tryd.pinned (.plain (OpenSpec.upto dumpRoundSpec)) dumpRoundUptoCard
end Rows
end Go.Proofs.YtenpihkfghfpaaaDoor
