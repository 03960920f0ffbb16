/- dump's parse: its deferred function. -/
import Derived.Test.YtenpihkfghfpaaaDoorDBase
import Derived.Recover
import Derived.Laws.Pointers
namespace Go.Proofs.YtenpihkfghfpaaaDoor
open Go.RowKit Vl
set_option linter.unusedVariables false

theorem hta (w : World) : (Instr.typeAssert (.iface 84 (.agg #[])) 20 84 true).run Tryd.prog w = .ok (.tuple #[.agg #[], .bool true]) w := by kernel_rfl

/-- The memory behind the deferred function, where a panic of 'short' came to it. -/
def caughtW (r0 r1 : Nat) (w : World) : World := ((w.alloc (.cells #[] 84)).setCell ⟨r0, 0, none⟩ (.slice none 0 0)).setCell ⟨r1, 0, none⟩ (.bool false)

set_option maxRecDepth 100000 in
set_option maxHeartbeats 1000000 in
theorem catch_short (r0 r1 : Nat) (v0 v1 : Value) (w : World) (h0 : w.heap[r0]? = some (.cells #[v0] 22 (0, 0))) (h1 : w.heap[r1]? = some (.cells #[v1] 4 (0, 0))) (hne : r0 ≠ r1) :
    CallsD Tryd.prog 46 #[.pointer (some ⟨r0, 0, none⟩), .pointer (some ⟨r1, 0, none⟩)] (.panicking [{ v := .iface 84 (.agg #[]), recovered := false }]) w fun e u' w' =>
      e = .returned (.tuple #[]) ∧ u' = .panicking [{ v := .iface 84 (.agg #[]), recovered := true }] ∧ w' = caughtW r0 r1 w := by
  have h2 := alloc_whole (o' := .cells #[] 84) h0
  have h3 := set_other (p := ⟨r0, 0, none⟩) (v := .slice none 0 0) (alloc_whole (o' := .cells #[] 84) h1) hne
  have c0 := cell_whole h2 0
  have f0 := frozen_whole h2 0
  have c1 := cell_whole h3 0
  have f1 := frozen_whole h3 0
  simp only [List.getElem?_toArray, List.getElem?_cons_zero] at c0 c1
  have ht := hta
  refine callsD_of_wpS Tryd.func46 rfl fun c₀ cs hu => ?_
  apply wpS_seq
  apply wpS_region
  simp [wpOpsS, go_sem, recoverD, hu, Tryd.ntmps46, Exit.thenS]
  apply wpS_seq
  apply wpS_region
  simp [wpOpsS, go_sem, Exit.thenS]
  refine wpS_cond (t := true) (by simp [Act.eval, Array.replicate]) ?_
  simp only [if_true]
  refine wpS_of_wp ?_
  generalize hW : caughtW r0 r1 w = W
  unfold caughtW at hW
  clear h0 h1 h2 h3
  go_wp2
  cases c₀
  simp_all [bodyPostS, results, Tryd.results46]

set_option maxRecDepth 100000 in
set_option maxHeartbeats 1000000 in
theorem catch_idle (r0 r1 : Nat) (w : World) :
    CallsD Tryd.prog 46 #[.pointer (some ⟨r0, 0, none⟩), .pointer (some ⟨r1, 0, none⟩)] .returning w fun e u' w' => e = .returned (.tuple #[]) ∧ u' = .returning ∧ w' = w := by
  refine callsD_of_wpS Tryd.func46 rfl fun c₀ cs hu => ?_
  apply wpS_seq
  apply wpS_region
  simp [wpOpsS, go_sem, recoverD, hu, Tryd.ntmps46, Exit.thenS]
  apply wpS_seq
  apply wpS_region
  simp [wpOpsS, go_sem, Exit.thenS]
  refine wpS_cond (t := false) (by simp [Act.eval, Array.replicate]) ?_
  simp only [Bool.false_eq_true, if_false]
  refine wpS_of_wp (wp_skip ?_)
  cases c₀
  simp_all [bodyPostS, results, Tryd.results46]

theorem res29 (tmps : Array Value) (w : World) (b0 b1 : Nat) (v0 v1 : Value) (h0 : tmps.getD 2 undef = .pointer (some ⟨b0, 0, none⟩)) (h1 : tmps.getD 3 undef = .pointer (some ⟨b1, 0, none⟩))
    (c0 : w.cell? ⟨b0, 0, none⟩ = some v0) (c1 : w.cell? ⟨b1, 0, none⟩ = some v1) : (results Tryd.f29 tmps).run Tryd.prog w = .ok (.tuple #[v0, v1]) w := by
  have h0' : tmps[2]?.getD undef = .pointer (some ⟨b0, 0, none⟩) := by simpa using h0
  have h1' : tmps[3]?.getD undef = .pointer (some ⟨b1, 0, none⟩) := by simpa using h1
  simp [results, Tryd.results29, h0', h1', asAddr, loadVar, c0, c1, go_sem]
/-- The way out, where a panic of 'short' comes to the door. -/
theorem door_short {tmps : Array Value} {R : Ending → World → Prop} {w : World} {b0 b1 : Nat} {v0 v1 : Value} (t0 : tmps.getD 2 undef = .pointer (some ⟨b0, 0, none⟩)) (t1 : tmps.getD 3 undef = .pointer (some ⟨b1, 0, none⟩))
    (h0 : w.heap[b0]? = some (.cells #[v0] 22 (0, 0))) (h1 : w.heap[b1]? = some (.cells #[v1] 4 (0, 0))) (hne : b0 ≠ b1) (hR : R (.returned (.tuple #[.slice none 0 0, .bool false])) (caughtW b0 b1 w)) :
    Leaves Tryd.prog Tryd.f29 tmps R [{ target := .fn (.func 46) #[.pointer (some ⟨b0, 0, none⟩), .pointer (some ⟨b1, 0, none⟩)], args := #[] }] (.panicking [{ v := .iface 84 (.agg #[]), recovered := false }]) w := by
  refine leaves_cons (f := 46) (args := #[.pointer (some ⟨b0, 0, none⟩), .pointer (some ⟨b1, 0, none⟩)]) (by simp) (by simp [go_sem]) ?_
  refine (catch_short b0 b1 v0 v1 w h0 h1 hne).mono ?_
  rintro e u' w'' ⟨rfl, rfl, rfl⟩
  have h2 := set_whole (i := 0) (alloc_whole (o' := .cells #[] 84) h0) (.slice none 0 0)
  have h3 := set_other (p := ⟨b1, 0, none⟩) (v := .bool false) h2 (fun e => hne e.symm)
  have h4 := set_whole (i := 0) (set_other (p := ⟨b0, 0, none⟩) (v := .slice none 0 0) (alloc_whole (o' := .cells #[] 84) h1) hne) (.bool false)
  have hr := res29 tmps (caughtW b0 b1 w) b0 b1 _ _ t0 t1 (cell_whole h3 0) (cell_whole h4 0)
  exact ⟨_, hr, hR⟩
theorem door_idle {tmps : Array Value} {R : Ending → World → Prop} {w : World} {b0 b1 : Nat} {v0 v1 : Value} (t0 : tmps.getD 2 undef = .pointer (some ⟨b0, 0, none⟩)) (t1 : tmps.getD 3 undef = .pointer (some ⟨b1, 0, none⟩))
    (h0 : w.heap[b0]? = some (.cells #[v0] 22 (0, 0))) (h1 : w.heap[b1]? = some (.cells #[v1] 4 (0, 0))) (hR : R (.returned (.tuple #[v0, v1])) w) :
    Leaves Tryd.prog Tryd.f29 tmps R [{ target := .fn (.func 46) #[.pointer (some ⟨b0, 0, none⟩), .pointer (some ⟨b1, 0, none⟩)], args := #[] }] .returning w := by
  refine leaves_cons (f := 46) (args := #[.pointer (some ⟨b0, 0, none⟩), .pointer (some ⟨b1, 0, none⟩)]) (by simp) (by simp [go_sem]) ?_
  refine (catch_idle b0 b1 w).mono ?_
  rintro e u' w'' ⟨rfl, rfl, rfl⟩
  exact ⟨_, res29 tmps w'' b0 b1 _ _ t0 t1 (cell_whole h0 0) (cell_whole h1 0), hR⟩
theorem caughtW_below {b0 b1 : Nat} {w : World} {B : Nat} (h0 : B ≤ b0) (h1 : B ≤ b1) (hB : B ≤ w.heap.size) : Below B w (caughtW b0 b1 w) :=
  (((Below.refl B w).alloc hB _).setCell h0 _).setCell h1 _
end Go.Proofs.YtenpihkfghfpaaaDoor
