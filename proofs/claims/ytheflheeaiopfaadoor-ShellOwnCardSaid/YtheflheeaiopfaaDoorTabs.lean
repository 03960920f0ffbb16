/- The two tables of unicode/utf8 that the rows list: what the list gives, and a world that holds them. -/
import Derived.Test.YtheflheeaiopfaaDoorCards
import Derived.Test.YtheflheeaiopfaaDoorTie
import Derived.Test.YtheflheeaiopfaaDoorShelf
import Derived.WalkKit
import Derived.ProofKit
import Derived.OpenShut
import Derived.Deep.DeepHandedRow
import Derived.Lib.LaidTab
import Derived.Lib.LaidU8
namespace Go.Proofs.YtheflheeaiopfaaDoor
open Go.ChangeShapes Go.WideShapes Go.ChangeAt Go.RowKit
set_option linter.unusedVariables false

theorem own : ownKnob Tryd.prog.godebug = none := by kernel_rfl

def laidList : List (String × DataW Unit) := [("unicode/utf8.first", Rows.laid_unicode_utf8_first), ("unicode/utf8.acceptRanges", Rows.laid_unicode_utf8_acceptRanges)]
theorem first_is : Rows.laid_unicode_utf8_first = Lib.firstData := by kernel_rfl
theorem accept_is : (Rows.laid_unicode_utf8_acceptRanges : DataW Unit) = Lib.acceptData := by kernel_rfl

theorem tabs_of {W : World} {l : List (String × DataW Unit)} (hl : l = Rows.shellWordsRow.laid) (h : laidMetH Tryd.prog l W) : Lib.Utf8Tabs 0 1 W := by
  subst hl
  have h' : laidMet Tryd.prog Rows.shellWordsRow.laid W := h
  have h1 : ("unicode/utf8.first", Rows.laid_unicode_utf8_first) ∈ Rows.shellWordsRow.laid := by
    first | exact .head _ | exact .tail _ (.head _)
  have h2 : ("unicode/utf8.acceptRanges", (Rows.laid_unicode_utf8_acceptRanges : DataW Unit)) ∈ Rows.shellWordsRow.laid := by
    first | exact .head _ | exact .tail _ (.head _)
  have r1 := Lib.laidMet.reads h' h1
  have r2 := Lib.laidMet.reads h' h2
  rw [first_is] at r1
  rw [accept_is] at r2
  exact utf8Tabs_of_reads (ρ := Tryd.lays260_ren) Tryd.lays260 ⟨by kernel_rfl, by kernel_rfl, by kernel_rfl, by kernel_rfl, by kernel_rfl, by kernel_rfl, by kernel_rfl⟩ r1 r2

def lay (cs : Array Value) : Obj → Obj
  | .cells _ t frozen => .cells cs t frozen
  | o => o
def firstCells : Array Value := ((List.range 256).map fun c => Value.int .u8 (Lib.firstT c)).toArray
def acceptCells : Array Value := ((List.range 32).map fun c => Value.int .u8 (if c % 2 = 0 then Lib.accLo (c / 2) else Lib.accHi (c / 2))).toArray
noncomputable def laidWorld (os : Os) : World :=
  { World.holding Tryd.prog os ⟨#[], #[], []⟩ with heap := ((World.holding Tryd.prog os ⟨#[], #[], []⟩).heap.modify 0 (lay firstCells)).modify 1 (lay acceptCells) }

theorem laid_met (os : Os) (args : Array Value) : laidMet Tryd.prog Rows.shellWordsRow.laid ((laidWorld os).forCall (fun _ _ => 0) ⟨#[], args, []⟩).memory :=
  laidMet_of_run' 8 (by kernel_rfl) (by kernel_rfl)
end Go.Proofs.YtheflheeaiopfaaDoor
