/-
  NARROWER THAN 'FOR EVERY INPUT', by the rows' own cells (each row's printed sentence says how): ShellWords: laid · ShellOwn: laid · ShellQuotes: laid · ShellJoins: laid.
  DERIVED. THE GIVEN ROWS OF THIS SEAT. 4 by the template 'for every input the law returns true; each argument reads behind the call as it read before'; 0 by the template 'total and deterministic' (their statements: YtheflheeaiopfaaDoorTotals.lean).
  GIVEN WITH THE SEED: the statements are not yours to turn. If you find one false, say at which input.
  Laid BY PROGRAM, IN A SANDBOX (cutbox-rows.mjs): the forced cells as the released guide's own fill.sh prints them over the translation 631c3902f6226e1f… (all of the seat's roots in one cut). By AI agents, Wed Nov 11 2026. No macro, syntax, notation, axiom, sorry.
-/
import Derived.Test.YtheflheeaiopfaaDoorChecked
import GoSem.PinnedTables
import GoSem.Claim
import GoSem.ClaimJoined
import GoSem.ClaimMapViews
import Derived.JoinedTies
import Derived.KernelRfl
namespace Go.Proofs.YtheflheeaiopfaaDoor
/- THE CELL 'sum', in the pinned program and in every row, IS THE sha256 OF THE DUMP (.gsa) THAT YtheflheeaiopfaaDoorProg.lean LOADS. Nothing in Lean hashes anything: it is a label: what it is worth is what the hold of that sum in a sandbox is worth. -/
noncomputable def Tryd.pinned : Pinned := { name := "ytheflheeaiopfaadoor", sum := "631c3902f6226e1f06a02be3e19dfb6aac516a2e1a8dc07399936dfb72b3d823", checked := Tryd.checked }
namespace Rows
def none {H : Type} : Left H := { results := [], args := [] }

/- WHAT THE LISTED PACKAGE-LEVEL VARIABLES READ AS WHEN THE CALL BEGINS. Each datum BY PROGRAM (the guide's laid-datum.mjs) off the statement by which the dump's own 'gosem.cut.vars' lays the variable. In a bare row this is a premise. The card (YtheflheeaiopfaaDoorCards.lean) ties it to the program's text. -/
def laid_unicode_utf8_acceptRanges {H : Type} : DataW H := .agg [.agg [.lit (.int .u8 128), .lit (.int .u8 191)], .agg [.lit (.int .u8 160), .lit (.int .u8 191)], .agg [.lit (.int .u8 128), .lit (.int .u8 159)], .agg [.lit (.int .u8 144), .lit (.int .u8 191)], .agg [.lit (.int .u8 128), .lit (.int .u8 143)], .agg [.lit (.int .u8 0), .lit (.int .u8 0)], .agg [.lit (.int .u8 0), .lit (.int .u8 0)], .agg [.lit (.int .u8 0), .lit (.int .u8 0)], .agg [.lit (.int .u8 0), .lit (.int .u8 0)], .agg [.lit (.int .u8 0), .lit (.int .u8 0)], .agg [.lit (.int .u8 0), .lit (.int .u8 0)], .agg [.lit (.int .u8 0), .lit (.int .u8 0)], .agg [.lit (.int .u8 0), .lit (.int .u8 0)], .agg [.lit (.int .u8 0), .lit (.int .u8 0)], .agg [.lit (.int .u8 0), .lit (.int .u8 0)], .agg [.lit (.int .u8 0), .lit (.int .u8 0)]]
/-- One of Go's own tables, pinned by name: the form's constant. -/
def laid_unicode_utf8_first : DataW Unit := Go.Pinned.utf8First

/-- 'vellumlaw16.ShellWords': WHATEVER THE INPUT: true; the input reads as it did. -/
def shellWordsSpec : ChangeSpec := { name := "shellWords", fn := fun _ => fun
  | [d] => { results := [.lit (.bool true)], args := [d] }
  | _ => none }
def shellWordsRow : OpenClaim := { program := "ytheflheeaiopfaadoor", sum := "631c3902f6226e1f06a02be3e19dfb6aac516a2e1a8dc07399936dfb72b3d823", func := "vellum/vellumlaw16.ShellWords", spec := "shellWords", named := ["unicode/utf8.first", "unicode/utf8.acceptRanges"], apart := false, laid := [("unicode/utf8.acceptRanges", laid_unicode_utf8_acceptRanges), ("unicode/utf8.first", laid_unicode_utf8_first)] }
def ShellWordsSaid : Prop := shellWordsRow.holds Tryd.pinned (OpenSpec.ofChange shellWordsSpec)

/-- ITS FALSE NEIGHBOUR: 'it returns false'. Refute it at one input. -/
def shellWordsWrong : ChangeSpec := { name := "shellWords", fn := fun _ => fun
  | [d] => { results := [.lit (.bool false)], args := [d] }
  | _ => none }
def ShellWordsWrongFalsely : Prop := shellWordsRow.holds Tryd.pinned (OpenSpec.ofChange shellWordsWrong)

/-- 'vellumlaw16.ShellOwn': WHATEVER THE INPUT: true; the input reads as it did. -/
def shellOwnSpec : ChangeSpec := { name := "shellOwn", fn := fun _ => fun
  | [d] => { results := [.lit (.bool true)], args := [d] }
  | _ => none }
def shellOwnRow : OpenClaim := { program := "ytheflheeaiopfaadoor", sum := "631c3902f6226e1f06a02be3e19dfb6aac516a2e1a8dc07399936dfb72b3d823", func := "vellum/vellumlaw16.ShellOwn", spec := "shellOwn", recurses := true, named := ["unicode/utf8.first", "unicode/utf8.acceptRanges"], apart := false, laid := [("unicode/utf8.acceptRanges", laid_unicode_utf8_acceptRanges), ("unicode/utf8.first", laid_unicode_utf8_first)] }
def ShellOwnSaid : Prop := shellOwnRow.holds Tryd.pinned (OpenSpec.ofChange shellOwnSpec)

/-- ITS FALSE NEIGHBOUR: 'it returns false'. Refute it at one input. -/
def shellOwnWrong : ChangeSpec := { name := "shellOwn", fn := fun _ => fun
  | [d] => { results := [.lit (.bool false)], args := [d] }
  | _ => none }
def ShellOwnWrongFalsely : Prop := shellOwnRow.holds Tryd.pinned (OpenSpec.ofChange shellOwnWrong)

/-- 'vellumlaw16.ShellQuotes': WHATEVER THE INPUT: true; the input reads as it did. -/
def shellQuotesSpec : ChangeSpec := { name := "shellQuotes", fn := fun _ => fun
  | [d] => { results := [.lit (.bool true)], args := [d] }
  | _ => none }
def shellQuotesRow : OpenClaim := { program := "ytheflheeaiopfaadoor", sum := "631c3902f6226e1f06a02be3e19dfb6aac516a2e1a8dc07399936dfb72b3d823", func := "vellum/vellumlaw16.ShellQuotes", spec := "shellQuotes", inPlace := ["internal/abi.NoEscape"], named := ["unicode/utf8.first", "unicode/utf8.acceptRanges"], apart := false, laid := [("unicode/utf8.acceptRanges", laid_unicode_utf8_acceptRanges), ("unicode/utf8.first", laid_unicode_utf8_first)] }
def ShellQuotesSaid : Prop := shellQuotesRow.holds Tryd.pinned (OpenSpec.ofChange shellQuotesSpec)

/-- ITS FALSE NEIGHBOUR: 'it returns false'. Refute it at one input. -/
def shellQuotesWrong : ChangeSpec := { name := "shellQuotes", fn := fun _ => fun
  | [d] => { results := [.lit (.bool false)], args := [d] }
  | _ => none }
def ShellQuotesWrongFalsely : Prop := shellQuotesRow.holds Tryd.pinned (OpenSpec.ofChange shellQuotesWrong)

/-- 'vellumlaw16.ShellJoins': WHATEVER THE INPUT: true; the input reads as it did. -/
def shellJoinsSpec : ChangeSpec := { name := "shellJoins", fn := fun _ => fun
  | [d1, d2] => { results := [.lit (.bool true)], args := [d1, d2] }
  | _ => none }
def shellJoinsRow : OpenClaim := { program := "ytheflheeaiopfaadoor", sum := "631c3902f6226e1f06a02be3e19dfb6aac516a2e1a8dc07399936dfb72b3d823", func := "vellum/vellumlaw16.ShellJoins", spec := "shellJoins", inPlace := ["internal/abi.NoEscape"], named := ["unicode/utf8.first", "unicode/utf8.acceptRanges"], apart := false, laid := [("unicode/utf8.acceptRanges", laid_unicode_utf8_acceptRanges), ("unicode/utf8.first", laid_unicode_utf8_first)] }
def ShellJoinsSaid : Prop := shellJoinsRow.holds Tryd.pinned (OpenSpec.ofChange shellJoinsSpec)

/-- ITS FALSE NEIGHBOUR: 'it returns false'. Refute it at one input. -/
def shellJoinsWrong : ChangeSpec := { name := "shellJoins", fn := fun _ => fun
  | [d1, d2] => { results := [.lit (.bool false)], args := [d1, d2] }
  | _ => none }
def ShellJoinsWrongFalsely : Prop := shellJoinsRow.holds Tryd.pinned (OpenSpec.ofChange shellJoinsWrong)

/- THE SECOND FORM. 'bulk': how many values and letters a reading holds, each counted each time it is reached (what is shared counts as often as it is met; a slice's spare places count too). A statement '..UptoSaid' is the law's where the arguments, and the package variables that the reading takes, are together of bulk at most 1048576: NARROWER than '..Said'. Prove '..Said' where nothing that the law and all that it calls make is longer than what came in: it says more and counts as full. Else prove '..UptoSaid'. A law counts once. -/
mutual
def uptoBulk {H : Type} : DataW H → Nat
  | .lit (.string bytes) => bytes.length + 1
  | .lit _ => 1
  | .nil => 1
  | .ptr d => uptoBulk d + 1
  | .slice elems spare => uptoBulkAll elems + uptoBulkAll spare + 1
  | .agg parts => uptoBulkAll parts + 1
  | .iface _ d => uptoBulk d + 1
  | .map entries => uptoBulkEntries entries + 1
  | .held _ => 1
def uptoBulkAll {H : Type} : List (DataW H) → Nat
  | [] => 0
  | d :: r => uptoBulk d + uptoBulkAll r
def uptoBulkEntries {H : Type} : List (Lit × DataW H) → Nat
  | [] => 0
  | x :: r => uptoBulkEntry x + uptoBulkEntries r
def uptoBulkEntry {H : Type} : Lit × DataW H → Nat
  | (.string bytes, d) => bytes.length + uptoBulk d + 1
  | (_, d) => uptoBulk d + 1
 end
def uptoSmall : (H : Type) → List (DataW H) → Bool := fun _ ds => decide (uptoBulkAll ds ≤ 1048576)
def OpenSpec.upto (s : _root_.Go.ChangeSpec) : _root_.Go.OpenSpec := { _root_.Go.OpenSpec.ofChange s with cond := some uptoSmall }

/-- 'vellumlaw16.ShellWords', WHERE WHAT IT READS IS OF BULK AT MOST 1048576: true; the input reads as it did. -/
def shellWordsUptoRow : OpenClaim := { program := "ytheflheeaiopfaadoor", sum := "631c3902f6226e1f06a02be3e19dfb6aac516a2e1a8dc07399936dfb72b3d823", func := "vellum/vellumlaw16.ShellWords", spec := "shellWords", named := ["unicode/utf8.first", "unicode/utf8.acceptRanges"], apart := false, laid := [("unicode/utf8.acceptRanges", laid_unicode_utf8_acceptRanges), ("unicode/utf8.first", laid_unicode_utf8_first)], narrowed := true }
def ShellWordsUptoSaid : Prop := shellWordsUptoRow.holds Tryd.pinned (OpenSpec.upto shellWordsSpec)

/-- 'vellumlaw16.ShellOwn', WHERE WHAT IT READS IS OF BULK AT MOST 1048576: true; the input reads as it did. -/
def shellOwnUptoRow : OpenClaim := { program := "ytheflheeaiopfaadoor", sum := "631c3902f6226e1f06a02be3e19dfb6aac516a2e1a8dc07399936dfb72b3d823", func := "vellum/vellumlaw16.ShellOwn", spec := "shellOwn", recurses := true, named := ["unicode/utf8.first", "unicode/utf8.acceptRanges"], apart := false, laid := [("unicode/utf8.acceptRanges", laid_unicode_utf8_acceptRanges), ("unicode/utf8.first", laid_unicode_utf8_first)], narrowed := true }
def ShellOwnUptoSaid : Prop := shellOwnUptoRow.holds Tryd.pinned (OpenSpec.upto shellOwnSpec)

/-- 'vellumlaw16.ShellQuotes', WHERE WHAT IT READS IS OF BULK AT MOST 1048576: true; the input reads as it did. -/
def shellQuotesUptoRow : OpenClaim := { program := "ytheflheeaiopfaadoor", sum := "631c3902f6226e1f06a02be3e19dfb6aac516a2e1a8dc07399936dfb72b3d823", func := "vellum/vellumlaw16.ShellQuotes", spec := "shellQuotes", inPlace := ["internal/abi.NoEscape"], named := ["unicode/utf8.first", "unicode/utf8.acceptRanges"], apart := false, laid := [("unicode/utf8.acceptRanges", laid_unicode_utf8_acceptRanges), ("unicode/utf8.first", laid_unicode_utf8_first)], narrowed := true }
def ShellQuotesUptoSaid : Prop := shellQuotesUptoRow.holds Tryd.pinned (OpenSpec.upto shellQuotesSpec)

/-- 'vellumlaw16.ShellJoins', WHERE WHAT IT READS IS OF BULK AT MOST 1048576: true; the input reads as it did. -/
def shellJoinsUptoRow : OpenClaim := { program := "ytheflheeaiopfaadoor", sum := "631c3902f6226e1f06a02be3e19dfb6aac516a2e1a8dc07399936dfb72b3d823", func := "vellum/vellumlaw16.ShellJoins", spec := "shellJoins", inPlace := ["internal/abi.NoEscape"], named := ["unicode/utf8.first", "unicode/utf8.acceptRanges"], apart := false, laid := [("unicode/utf8.acceptRanges", laid_unicode_utf8_acceptRanges), ("unicode/utf8.first", laid_unicode_utf8_first)], narrowed := true }
def ShellJoinsUptoSaid : Prop := shellJoinsUptoRow.holds Tryd.pinned (OpenSpec.upto shellJoinsSpec)

end Rows
end Go.Proofs.YtheflheeaiopfaaDoor
