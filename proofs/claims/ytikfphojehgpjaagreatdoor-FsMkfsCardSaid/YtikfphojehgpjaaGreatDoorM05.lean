/- Bytes that came in or were made: how they stand in memory. -/
import Derived.Test.YtikfphojehgpjaaGreatDoorRows
import Derived.WalkKit
import Derived.ProofKit
import Derived.Test.YtikfphojehgpjaaGreatDoorM02
import Derived.Test.YtikfphojehgpjaaGreatDoorM03
import Derived.Test.YtikfphojehgpjaaGreatDoorM04
import Derived.Laws.BytesArg
set_option linter.unusedSimpArgs false
set_option linter.unusedVariables false
namespace Go.Proofs.YtikfphojehgpjaaGreatDoor
open Go.RowKit Vl
set_option linter.unusedVariables false

theorem info5 : (Tryz.prog.info? 5).map (fun i => (i.zero, i.size, i.bytes)) = some (some (.int .u8 0), 1, 1) := by kernel_rfl
theorem info9 : (Tryz.prog.info? 9).map (fun i => (i.zero, i.size, i.bytes)) = some (some (.string ByteArray.empty), 1, 16) := by kernel_rfl

theorem own_kept {w w' : World} {B : Nat} {e : TypeId} {v : Value} {n : Nat} {xs : List Value} (h : Own w B e v n xs) (hb : Below w.heap.size w w') : Own w' B e v n xs :=
  h.keep fun k hk => hb.block k (h.block hk).2.1

/-- Bytes, as they can be read. -/
def BytesAt (w : World) (a : Option Addr) (l : List UInt8) : Prop :=
  ∀ i (h : i < l.length), ∃ g off, a = some ⟨g, off, none⟩ ∧ g < w.heap.size ∧ w.cell? ⟨g, off + i, none⟩ = some (.int .u8 l[i].toNat)
theorem BytesAt.below {w w' : World} {a : Option Addr} {l : List UInt8} (h : BytesAt w a l) (hb : Below w.heap.size w w') : BytesAt w' a l := by
  intro i hi
  obtain ⟨g, off, h1, h2, h3⟩ := h i hi
  exact ⟨g, off, h1, Nat.lt_of_lt_of_le h2 hb.size, by rw [hb.cell h2]; exact h3⟩
theorem BytesAt.of_own {w : World} {B : Nat} {a : Option Addr} {n c : Nat} {l : List UInt8} (h : Own w B 5 (.slice a n c) n (bcells l)) : n = l.length ∧ BytesAt w a l := by
  have hn : n = l.length := by have := h.len; rw [bcells_length] at this; exact this.symm
  subst hn
  refine ⟨rfl, fun i hi => ?_⟩
  cases a with
  | none => exact absurd (h.nil_of_none rfl).2.2 (by omega)
  | some ad =>
    obtain ⟨g, off, sp⟩ := ad
    have hb := (h.block rfl).2.1
    obtain ⟨rfl, rfl, _, hc⟩ := h.cells rfl
    refine ⟨g, 0, rfl, hb, ?_⟩
    rw [Nat.zero_add, hc i hi]
    unfold bcells
    rw [List.getElem?_map, List.getElem?_eq_getElem hi]; rfl

end Go.Proofs.YtikfphojehgpjaaGreatDoor
