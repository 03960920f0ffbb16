/- A world that holds the two tables of unicode/utf8 that the rows list; MaxLen's cell. -/
import Derived.Test.YtenpihkfghfpaaaDoorCards
import Derived.Test.YtenpihkfghfpaaaDoorTie
import Derived.Test.YtenpihkfghfpaaaDoorDOpen
import Derived.OpenShut
import Derived.Deep.DeepHandedRow
import Derived.Lib.LaidTab
import Derived.Lib.LaidU8
namespace Go.Proofs.YtenpihkfghfpaaaDoor
open Go.ChangeShapes Go.WideShapes Go.ChangeAt Go.RowKit
set_option linter.unusedVariables false

theorem own : ownKnob Tryd.prog.godebug = none := by kernel_rfl
theorem laidOut : laidOutB Tryd.prog = true := by kernel_rfl

def lay (cs : Array Value) : Obj → Obj
  | .cells _ t frozen => .cells cs t frozen
  | o => o
def firstCells : Array Value := ((List.range 256).map fun c => Value.int .u8 (Lib.firstT c)).toArray
def acceptCells : Array Value := ((List.range 32).map fun c => Value.int .u8 (if c % 2 = 0 then Lib.accLo (c / 2) else Lib.accHi (c / 2))).toArray
noncomputable def laidWorld (os : Os) : World :=
  { World.holding Tryd.prog os ⟨#[], #[], []⟩ with heap := ((World.holding Tryd.prog os ⟨#[], #[], []⟩).heap.modify 1 (lay firstCells)).modify 2 (lay acceptCells) }

theorem laid_met (os : Os) (args : Array Value) : laidMet Tryd.prog Rows.dumpPacksRow.laid ((laidWorld os).forCall (fun _ _ => 0) ⟨#[], args, []⟩).memory :=
  laidMet_of_run' 8 (by kernel_rfl) (by kernel_rfl)

set_option maxRecDepth 100000 in
/-- MaxLen's cell holds an int, whatever the world. -/
theorem max_at {W : World} (h : W.ShapedOpen Tryd.prog) : MaxAt W := by
  obtain ⟨cs, hh, hs, hr⟩ := h.1 0 #[.int .i64 0] 3 (by decide +kernel) (by kernel_rfl)
  obtain ⟨ts, hts, _, hall⟩ := hr (by kernel_rfl)
  rw [show Tryd.prog.cellTypes Tryd.prog.depth 3 = some [3] from by kernel_rfl] at hts
  cases hts
  have h1 : 0 < cs.size := by have : cs.size = 1 := hs; omega
  obtain ⟨u, hu', hok⟩ := hall 0 cs[0] (by simp [h1])
  have hu3 : u = 3 := by simpa using hu'.symm
  subst hu3
  have hcell : W.cell? ⟨0, 0, none⟩ = some cs[0] := by simp [World.cell?, hh, h1]
  unfold Cell.ok at hok
  rw [Tryd.underlying3] at hok
  cases hv : cs[0] <;> rw [hv] at hok <;> simp at hok
  rename_i k n
  rw [hv] at hcell
  refine ⟨n, ?_, ?_⟩
  · exact (Array.getElem?_eq_some_iff.1 hh).1
  · rw [hcell, hok.1]
end Go.Proofs.YtenpihkfghfpaaaDoor
