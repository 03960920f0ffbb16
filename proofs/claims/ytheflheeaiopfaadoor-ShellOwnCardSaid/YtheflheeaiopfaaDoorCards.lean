/-
  DERIVED. GIVEN WITH THE SEED: THE CARDS: each row of YtheflheeaiopfaaDoorRows.lean that lists a variable, with what it lists TIED to the program's text (the seventh form; the later family's looks); each row that meets fmt, with fmt's text TOLD by the authors' own Lean function (tested against real Go, not proved from fmt's source: count such statements apart). THE CARD IS WHAT COUNTS. Prove the row's statement (the work); the ties are given (YtheflheeaiopfaaDoorTie.lean); close each card by the builder's one call (the guide's Derived/Test/ToyasCard.lean, 'card_holds'). Laid BY PROGRAM, IN A SANDBOX (cutbox-door.mjs). By AI agents, Wed Nov 11 2026. No macro, syntax, notation, axiom, sorry.
-/
import Derived.Test.YtheflheeaiopfaaDoorRows
import GoSem.ClaimSeven
namespace Go.Proofs.YtheflheeaiopfaaDoor
namespace Rows

/-- THE TIED CARD OF 'vellumlaw16.ShellWords'. -/
def shellWordsCard : Claim7 := { stood := { row := shellWordsRow, standIns := [], harness := (true, "d88d4ac50072ef44e926f93e2d4e0da23568a7a7bd29b049174ab4bea0f43b03"), looks := false }, kinds := [], alts := [], laidByText := true, laidKinds := [.data, .pinned], laidTests := true, laidLooks := .later }
def ShellWordsCardSaid : Prop := Claim7.holds Tryd.pinned (.plain (OpenSpec.ofChange shellWordsSpec)) shellWordsCard

/-- THE TIED CARD OF 'vellumlaw16.ShellOwn'. -/
def shellOwnCard : Claim7 := { stood := { row := shellOwnRow, standIns := [], harness := (true, "d88d4ac50072ef44e926f93e2d4e0da23568a7a7bd29b049174ab4bea0f43b03"), looks := false }, kinds := [], alts := [], laidByText := true, laidKinds := [.data, .pinned], laidTests := true, laidLooks := .later }
def ShellOwnCardSaid : Prop := Claim7.holds Tryd.pinned (.plain (OpenSpec.ofChange shellOwnSpec)) shellOwnCard

/-- THE TIED CARD OF 'vellumlaw16.ShellQuotes'. -/
def shellQuotesCard : Claim7 := { stood := { row := shellQuotesRow, standIns := [], harness := (true, "d88d4ac50072ef44e926f93e2d4e0da23568a7a7bd29b049174ab4bea0f43b03"), looks := false }, kinds := [], alts := [], laidByText := true, laidKinds := [.data, .pinned], laidTests := true, laidLooks := .later }
def ShellQuotesCardSaid : Prop := Claim7.holds Tryd.pinned (.plain (OpenSpec.ofChange shellQuotesSpec)) shellQuotesCard

/-- THE TIED CARD OF 'vellumlaw16.ShellJoins'. -/
def shellJoinsCard : Claim7 := { stood := { row := shellJoinsRow, standIns := [], harness := (true, "d88d4ac50072ef44e926f93e2d4e0da23568a7a7bd29b049174ab4bea0f43b03"), looks := false }, kinds := [], alts := [], laidByText := true, laidKinds := [.data, .pinned], laidTests := true, laidLooks := .later }
def ShellJoinsCardSaid : Prop := Claim7.holds Tryd.pinned (.plain (OpenSpec.ofChange shellJoinsSpec)) shellJoinsCard

/-- THE SECOND FORM's CARD OF 'vellumlaw16.ShellWords'. -/
def shellWordsUptoCard : Claim7 := { stood := { row := shellWordsUptoRow, standIns := [], harness := (true, "d88d4ac50072ef44e926f93e2d4e0da23568a7a7bd29b049174ab4bea0f43b03"), looks := false }, kinds := [], alts := [], laidByText := true, laidKinds := [.data, .pinned], laidTests := true, laidLooks := .later }
def ShellWordsUptoCardSaid : Prop := Claim7.holds Tryd.pinned (.plain (OpenSpec.upto shellWordsSpec)) shellWordsUptoCard

/-- THE SECOND FORM's CARD OF 'vellumlaw16.ShellOwn'. -/
def shellOwnUptoCard : Claim7 := { stood := { row := shellOwnUptoRow, standIns := [], harness := (true, "d88d4ac50072ef44e926f93e2d4e0da23568a7a7bd29b049174ab4bea0f43b03"), looks := false }, kinds := [], alts := [], laidByText := true, laidKinds := [.data, .pinned], laidTests := true, laidLooks := .later }
def ShellOwnUptoCardSaid : Prop := Claim7.holds Tryd.pinned (.plain (OpenSpec.upto shellOwnSpec)) shellOwnUptoCard

/-- THE SECOND FORM's CARD OF 'vellumlaw16.ShellQuotes'. -/
def shellQuotesUptoCard : Claim7 := { stood := { row := shellQuotesUptoRow, standIns := [], harness := (true, "d88d4ac50072ef44e926f93e2d4e0da23568a7a7bd29b049174ab4bea0f43b03"), looks := false }, kinds := [], alts := [], laidByText := true, laidKinds := [.data, .pinned], laidTests := true, laidLooks := .later }
def ShellQuotesUptoCardSaid : Prop := Claim7.holds Tryd.pinned (.plain (OpenSpec.upto shellQuotesSpec)) shellQuotesUptoCard

/-- THE SECOND FORM's CARD OF 'vellumlaw16.ShellJoins'. -/
def shellJoinsUptoCard : Claim7 := { stood := { row := shellJoinsUptoRow, standIns := [], harness := (true, "d88d4ac50072ef44e926f93e2d4e0da23568a7a7bd29b049174ab4bea0f43b03"), looks := false }, kinds := [], alts := [], laidByText := true, laidKinds := [.data, .pinned], laidTests := true, laidLooks := .later }
def ShellJoinsUptoCardSaid : Prop := Claim7.holds Tryd.pinned (.plain (OpenSpec.upto shellJoinsSpec)) shellJoinsUptoCard
end Rows
end Go.Proofs.YtheflheeaiopfaaDoor
