/- Plan, the program's and the document's. -/
import Derived.Test.YtikfphojehgpjaaGreatDoorM07
import Derived.Laws.ResultCell
import Derived.Deep.WholeRow
set_option linter.unusedSimpArgs false
set_option linter.unusedVariables false
namespace Go.Proofs.YtikfphojehgpjaaGreatDoor
open Go.RowKit Vl
set_option linter.unusedVariables false

/-- May a geometry be? -/
def geoOk (sec log nodes : Int) : Bool := decide (18 ≤ log) && decide (log ≤ 256) && decide (4 ≤ nodes) && decide (nodes ≤ 1024) && decide (nodes % 4 = 0) && decide (sec ≤ 2048) && decide (3 + log + (2 + nodes / 4) + 1 ≤ sec)
def layCells (sec log nodes : Int) : Array Value := if geoOk sec log nodes = true then #[.int .i64 log, .int .i64 (3 + log), .int .i64 (sec - (3 + log)), .int .i64 nodes, .int .i64 (2 + nodes / 4)] else #[.int .i64 0, .int .i64 0, .int .i64 0, .int .i64 0, .int .i64 0]
def PlanPost (sec log nodes : Int) (w : World) (e : Ending) (w' : World) : Prop :=
  e = .returned (.tuple #[.agg (layCells sec log nodes), .int .i64 (if geoOk sec log nodes = true then 0 else 22)]) ∧ Kept [] w w'
theorem plan_bad {sec log nodes : Int} {w w' : World} (h : geoOk sec log nodes = false) (hk : Kept [] w w') : PlanPost sec log nodes w (.returned (.tuple #[.agg #[.int .i64 0, .int .i64 0, .int .i64 0, .int .i64 0, .int .i64 0], .int .i64 22])) w' := by
  refine ⟨?_, hk⟩
  unfold layCells
  rw [h]; rfl
theorem plan_good {sec log nodes : Int} {w w' : World} (h : geoOk sec log nodes = true) (hk : Kept [] w w') : PlanPost sec log nodes w (.returned (.tuple #[.agg #[.int .i64 log, .int .i64 (3 + log), .int .i64 (sec - (3 + log)), .int .i64 nodes, .int .i64 (2 + nodes / 4)], .int .i64 0])) w' := by
  refine ⟨?_, hk⟩
  unfold layCells
  rw [h]; rfl
def IntOk (n : Int) : Prop := -9223372036854775808 ≤ n ∧ n ≤ 9223372036854775807

theorem results_row_tmp {P : Program} {fn : Func} {p u : Tmp} {ty : TypeId} (h : fn.results = #[.cell p ty, .tmp u]) (tmps : Array Value) (w : World) (g : Nat) (t : TypeId) (cs : Array Value) (fr : Nat × Nat) (d : TypeDesc)
    (hp : tmps.getD p undef = .pointer (some ⟨g, 0, none⟩)) (hg : w.heap[g]? = some (.cells cs t fr)) (hu : P.underlying ty = some d) (hd : (match d with | .struct _ | .array _ _ => true | _ => false) = true) (hi : (P.info? ty).map (·.size) = some cs.size) :
    (results fn tmps).run P w = .ok (.tuple #[.agg cs, tmps.getD u undef]) w := by
  rw [results_cell_tmp h, hp]
  simp [asAddr, run_loadVar_row w g t ty cs fr d hg hu hd hi]

set_option maxRecDepth 100000 in
set_option maxHeartbeats 4000000 in
theorem plan_walk (sec log nodes : Int) (w : World) (h1 : IntOk sec) (h2 : IntOk log) (h3 : IntOk nodes) :
    Calls Tryz.prog 43 #[.agg #[.int .i64 sec, .int .i64 log, .int .i64 nodes]] w (PlanPost sec log nodes w) := by
  unfold IntOk at h1 h2 h3
  have HZ := heap_alloc_new (w.alloc (.cells #[.int .i64 sec, .int .i64 log, .int .i64 nodes] 53)) (.cells #[.int .i64 0, .int .i64 0, .int .i64 0, .int .i64 0, .int .i64 0] 94)
  rw [size_alloc] at HZ
  have HZ := Lib.hid HZ
  have HK := Lib.hid (((Kept.refl [] w).alloc (.cells #[.int .i64 sec, .int .i64 log, .int .i64 nodes] 53)).alloc (.cells #[.int .i64 0, .int .i64 0, .int .i64 0, .int .i64 0, .int .i64 0] 94))
  have HG : Hid (¬ (18 ≤ log ∧ log ≤ 256 ∧ 4 ≤ nodes ∧ nodes ≤ 1024 ∧ nodes % 4 = 0 ∧ sec ≤ 2048 ∧ 3 + log + (2 + nodes / 4) + 1 ≤ sec) → geoOk sec log nodes = false) := Lib.hid fun h => by
    unfold geoOk
    simp only [Bool.and_eq_false_iff, decide_eq_false_iff_not]
    omega
  by_cases g1 : log < 18
  · have HN := Lib.hid (HG.out (by omega))
    have t1 : decide (log < 18) = true := decide_eq_true g1
    clear g1
    go_enter Tryz.func43, Tryz.ntmps43
    go_wp2
    refine bodyPost_ret (results_row_tmp (P := Tryz.prog) (p := 2) (u := 3) (ty := 94) rfl _ _ (w.heap.size + 1) 94 _ (0, 0) _ rfl HZ.out Tryz.underlying94 rfl (by kernel_rfl)) rfl ?_
    exact plan_bad HN.out HK.out
  · have t1 : decide (log < 18) = false := decide_eq_false g1
    by_cases g2 : 256 < log
    · have HN := Lib.hid (HG.out (by omega))
      have t2 : decide (256 < log) = true := decide_eq_true g2
      clear g1 g2
      go_enter Tryz.func43, Tryz.ntmps43
      go_wp2
      refine bodyPost_ret (results_row_tmp (P := Tryz.prog) (p := 2) (u := 3) (ty := 94) rfl _ _ (w.heap.size + 1) 94 _ (0, 0) _ rfl HZ.out Tryz.underlying94 rfl (by kernel_rfl)) rfl ?_
      exact plan_bad HN.out HK.out
    · have t2 : decide (256 < log) = false := decide_eq_false g2
      by_cases g3 : nodes < 4
      · have HN := Lib.hid (HG.out (by omega))
        have t3 : decide (nodes < 4) = true := decide_eq_true g3
        clear g1 g2 g3
        go_enter Tryz.func43, Tryz.ntmps43
        go_wp2
        refine bodyPost_ret (results_row_tmp (P := Tryz.prog) (p := 2) (u := 3) (ty := 94) rfl _ _ (w.heap.size + 1) 94 _ (0, 0) _ rfl HZ.out Tryz.underlying94 rfl (by kernel_rfl)) rfl ?_
        exact plan_bad HN.out HK.out
      · have t3 : decide (nodes < 4) = false := decide_eq_false g3
        by_cases g4 : 1024 < nodes
        · have HN := Lib.hid (HG.out (by omega))
          have t4 : decide (1024 < nodes) = true := decide_eq_true g4
          clear g1 g2 g3 g4
          go_enter Tryz.func43, Tryz.ntmps43
          go_wp2
          refine bodyPost_ret (results_row_tmp (P := Tryz.prog) (p := 2) (u := 3) (ty := 94) rfl _ _ (w.heap.size + 1) 94 _ (0, 0) _ rfl HZ.out Tryz.underlying94 rfl (by kernel_rfl)) rfl ?_
          exact plan_bad HN.out HK.out
        · have t4 : decide (1024 < nodes) = false := decide_eq_false g4
          by_cases g5 : nodes % 4 ≠ 0
          · have HN := Lib.hid (HG.out (by omega))
            have t5 : (nodes % 4 != 0) = true := bne_iff_ne.2 g5
            have htm : nodes.tmod 4 = nodes % 4 := Int.tmod_eq_emod_of_nonneg (by omega)
            clear g1 g2 g3 g4 g5
            go_enter Tryz.func43, Tryz.ntmps43
            go_wp2
            refine bodyPost_ret (results_row_tmp (P := Tryz.prog) (p := 2) (u := 3) (ty := 94) rfl _ _ (w.heap.size + 1) 94 _ (0, 0) _ rfl HZ.out Tryz.underlying94 rfl (by kernel_rfl)) rfl ?_
            exact plan_bad HN.out HK.out
          · have t5 : (nodes % 4 != 0) = false := by simpa using g5
            by_cases g6 : 2048 < sec
            · have HN := Lib.hid (HG.out (by omega))
              have t6 : decide (2048 < sec) = true := decide_eq_true g6
              have htm : nodes.tmod 4 = nodes % 4 := Int.tmod_eq_emod_of_nonneg (by omega)
              clear g1 g2 g3 g4 g5 g6
              go_enter Tryz.func43, Tryz.ntmps43
              go_wp2
              refine bodyPost_ret (results_row_tmp (P := Tryz.prog) (p := 2) (u := 3) (ty := 94) rfl _ _ (w.heap.size + 1) 94 _ (0, 0) _ rfl HZ.out Tryz.underlying94 rfl (by kernel_rfl)) rfl ?_
              exact plan_bad HN.out HK.out
            · have t6 : decide (2048 < sec) = false := decide_eq_false g6
              have htm : nodes.tmod 4 = nodes % 4 := Int.tmod_eq_emod_of_nonneg (by omega)
              have htd : nodes.tdiv 4 = nodes / 4 := Int.tdiv_eq_ediv_of_nonneg (by omega)
              by_cases g7 : sec < 3 + log + (2 + nodes / 4) + 1
              · have HN := Lib.hid (HG.out (by omega))
                have t7 : decide (sec < 3 + log + (2 + nodes / 4) + 1) = true := decide_eq_true g7
                have b1 : 18 ≤ log ∧ log ≤ 256 ∧ 4 ≤ nodes ∧ nodes ≤ 1024 := by omega
                clear g1 g2 g3 g4 g5 g6 g7
                go_enter Tryz.func43, Tryz.ntmps43
                go_wp2
                refine bodyPost_ret (results_row_tmp (P := Tryz.prog) (p := 2) (u := 3) (ty := 94) rfl _ _ (w.heap.size + 1) 94 _ (0, 0) _ rfl (alloc_whole HZ.out) Tryz.underlying94 rfl (by kernel_rfl)) rfl ?_
                exact plan_bad HN.out (HK.out.alloc _)
              · have HN := Lib.hid (show geoOk sec log nodes = true by unfold geoOk; simp only [Bool.and_eq_true, decide_eq_true_eq]; omega)
                have t7 : decide (sec < 3 + log + (2 + nodes / 4) + 1) = false := decide_eq_false g7
                have b1 : 18 ≤ log ∧ log ≤ 256 ∧ 4 ≤ nodes ∧ nodes ≤ 1024 ∧ sec ≤ 2048 ∧ 0 ≤ sec := by omega
                clear g1 g2 g3 g4 g5 g6 g7
                go_enter Tryz.func43, Tryz.ntmps43
                go_wp2
                have HY := heap_alloc_new (w.alloc (.cells #[.int .i64 sec, .int .i64 log, .int .i64 nodes] 53)) (.cells #[.int .i64 log, .int .i64 (3 + log), .int .i64 (sec - (3 + log)), .int .i64 nodes, .int .i64 (2 + nodes / 4)] 94)
                rw [size_alloc] at HY
                refine bodyPost_ret (results_row_tmp (P := Tryz.prog) (p := 2) (u := 3) (ty := 94) rfl _ _ (w.heap.size + 1) 94 _ (0, 0) _ rfl (alloc_whole HY) Tryz.underlying94 rfl (by kernel_rfl)) rfl ?_
                exact plan_good HN.out ((((Kept.refl [] w).alloc _).alloc _).alloc _)

set_option maxRecDepth 100000 in
set_option maxHeartbeats 4000000 in
theorem refPlan_walk (sec log nodes : Int) (w : World) (h1 : IntOk sec) (h2 : IntOk log) (h3 : IntOk nodes) :
    Calls Tryz.prog 71 #[.agg #[.int .i64 sec, .int .i64 log, .int .i64 nodes]] w (PlanPost sec log nodes w) := by
  unfold IntOk at h1 h2 h3
  have HZ := heap_alloc_new (w.alloc (.cells #[.int .i64 sec, .int .i64 log, .int .i64 nodes] 53)) (.cells #[.int .i64 0, .int .i64 0, .int .i64 0, .int .i64 0, .int .i64 0] 94)
  rw [size_alloc] at HZ
  have HZ := Lib.hid HZ
  have HK := Lib.hid (((Kept.refl [] w).alloc (.cells #[.int .i64 sec, .int .i64 log, .int .i64 nodes] 53)).alloc (.cells #[.int .i64 0, .int .i64 0, .int .i64 0, .int .i64 0, .int .i64 0] 94))
  have HG : Hid (¬ (18 ≤ log ∧ log ≤ 256 ∧ 4 ≤ nodes ∧ nodes ≤ 1024 ∧ nodes % 4 = 0 ∧ sec ≤ 2048 ∧ 3 + log + (2 + nodes / 4) + 1 ≤ sec) → geoOk sec log nodes = false) := Lib.hid fun h => by
    unfold geoOk
    simp only [Bool.and_eq_false_iff, decide_eq_false_iff_not]
    omega
  by_cases g1 : log < 18
  · have HN := Lib.hid (HG.out (by omega))
    have t1 : decide (log < 18) = true := decide_eq_true g1
    clear g1
    go_enter Tryz.func71, Tryz.ntmps71
    go_wp2
    refine bodyPost_ret (results_row_tmp (P := Tryz.prog) (p := 2) (u := 3) (ty := 94) rfl _ _ (w.heap.size + 1) 94 _ (0, 0) _ rfl HZ.out Tryz.underlying94 rfl (by kernel_rfl)) rfl ?_
    exact plan_bad HN.out HK.out
  · have t1 : decide (log < 18) = false := decide_eq_false g1
    by_cases g2 : 256 < log
    · have HN := Lib.hid (HG.out (by omega))
      have t2 : decide (256 < log) = true := decide_eq_true g2
      clear g1 g2
      go_enter Tryz.func71, Tryz.ntmps71
      go_wp2
      refine bodyPost_ret (results_row_tmp (P := Tryz.prog) (p := 2) (u := 3) (ty := 94) rfl _ _ (w.heap.size + 1) 94 _ (0, 0) _ rfl HZ.out Tryz.underlying94 rfl (by kernel_rfl)) rfl ?_
      exact plan_bad HN.out HK.out
    · have t2 : decide (256 < log) = false := decide_eq_false g2
      by_cases g3 : nodes < 4
      · have HN := Lib.hid (HG.out (by omega))
        have t3 : decide (nodes < 4) = true := decide_eq_true g3
        clear g1 g2 g3
        go_enter Tryz.func71, Tryz.ntmps71
        go_wp2
        refine bodyPost_ret (results_row_tmp (P := Tryz.prog) (p := 2) (u := 3) (ty := 94) rfl _ _ (w.heap.size + 1) 94 _ (0, 0) _ rfl HZ.out Tryz.underlying94 rfl (by kernel_rfl)) rfl ?_
        exact plan_bad HN.out HK.out
      · have t3 : decide (nodes < 4) = false := decide_eq_false g3
        by_cases g4 : 1024 < nodes
        · have HN := Lib.hid (HG.out (by omega))
          have t4 : decide (1024 < nodes) = true := decide_eq_true g4
          clear g1 g2 g3 g4
          go_enter Tryz.func71, Tryz.ntmps71
          go_wp2
          refine bodyPost_ret (results_row_tmp (P := Tryz.prog) (p := 2) (u := 3) (ty := 94) rfl _ _ (w.heap.size + 1) 94 _ (0, 0) _ rfl HZ.out Tryz.underlying94 rfl (by kernel_rfl)) rfl ?_
          exact plan_bad HN.out HK.out
        · have t4 : decide (1024 < nodes) = false := decide_eq_false g4
          by_cases g5 : nodes % 4 ≠ 0
          · have HN := Lib.hid (HG.out (by omega))
            have t5 : (nodes % 4 != 0) = true := bne_iff_ne.2 g5
            have htm : nodes.tmod 4 = nodes % 4 := Int.tmod_eq_emod_of_nonneg (by omega)
            clear g1 g2 g3 g4 g5
            go_enter Tryz.func71, Tryz.ntmps71
            go_wp2
            refine bodyPost_ret (results_row_tmp (P := Tryz.prog) (p := 2) (u := 3) (ty := 94) rfl _ _ (w.heap.size + 1) 94 _ (0, 0) _ rfl HZ.out Tryz.underlying94 rfl (by kernel_rfl)) rfl ?_
            exact plan_bad HN.out HK.out
          · have t5 : (nodes % 4 != 0) = false := by simpa using g5
            by_cases g6 : 2048 < sec
            · have HN := Lib.hid (HG.out (by omega))
              have t6 : decide (2048 < sec) = true := decide_eq_true g6
              have htm : nodes.tmod 4 = nodes % 4 := Int.tmod_eq_emod_of_nonneg (by omega)
              clear g1 g2 g3 g4 g5 g6
              go_enter Tryz.func71, Tryz.ntmps71
              go_wp2
              refine bodyPost_ret (results_row_tmp (P := Tryz.prog) (p := 2) (u := 3) (ty := 94) rfl _ _ (w.heap.size + 1) 94 _ (0, 0) _ rfl HZ.out Tryz.underlying94 rfl (by kernel_rfl)) rfl ?_
              exact plan_bad HN.out HK.out
            · have t6 : decide (2048 < sec) = false := decide_eq_false g6
              have htm : nodes.tmod 4 = nodes % 4 := Int.tmod_eq_emod_of_nonneg (by omega)
              have htd : nodes.tdiv 4 = nodes / 4 := Int.tdiv_eq_ediv_of_nonneg (by omega)
              by_cases g7 : sec < 3 + log + (2 + nodes / 4) + 1
              · have HN := Lib.hid (HG.out (by omega))
                have t7 : decide (sec < 3 + log + (2 + nodes / 4) + 1) = true := decide_eq_true g7
                have b1 : 18 ≤ log ∧ log ≤ 256 ∧ 4 ≤ nodes ∧ nodes ≤ 1024 := by omega
                clear g1 g2 g3 g4 g5 g6 g7
                go_enter Tryz.func71, Tryz.ntmps71
                go_wp2
                refine bodyPost_ret (results_row_tmp (P := Tryz.prog) (p := 2) (u := 3) (ty := 94) rfl _ _ (w.heap.size + 1) 94 _ (0, 0) _ rfl HZ.out Tryz.underlying94 rfl (by kernel_rfl)) rfl ?_
                exact plan_bad HN.out HK.out
              · have HN := Lib.hid (show geoOk sec log nodes = true by unfold geoOk; simp only [Bool.and_eq_true, decide_eq_true_eq]; omega)
                have t7 : decide (sec < 3 + log + (2 + nodes / 4) + 1) = false := decide_eq_false g7
                have b1 : 18 ≤ log ∧ log ≤ 256 ∧ 4 ≤ nodes ∧ nodes ≤ 1024 ∧ sec ≤ 2048 ∧ 0 ≤ sec := by omega
                clear g1 g2 g3 g4 g5 g6 g7
                go_enter Tryz.func71, Tryz.ntmps71
                go_wp2
                have HY := heap_alloc_new (w.alloc (.cells #[.int .i64 sec, .int .i64 log, .int .i64 nodes] 53)) (.cells #[.int .i64 log, .int .i64 (3 + log), .int .i64 (sec - 3 - log), .int .i64 nodes, .int .i64 (2 + nodes / 4)] 94)
                rw [size_alloc] at HY
                refine bodyPost_ret (results_row_tmp (P := Tryz.prog) (p := 2) (u := 3) (ty := 94) rfl _ _ (w.heap.size + 1) 94 _ (0, 0) _ rfl HY Tryz.underlying94 rfl (by kernel_rfl)) rfl ?_
                rw [show sec - 3 - log = sec - (3 + log) by omega]
                exact plan_good HN.out (((Kept.refl [] w).alloc _).alloc _)
end Go.Proofs.YtikfphojehgpjaaGreatDoor
