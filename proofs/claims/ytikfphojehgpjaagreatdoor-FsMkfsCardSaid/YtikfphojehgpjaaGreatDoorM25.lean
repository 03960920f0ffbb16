/- codec: EncodeNode of the root. -/
import Derived.Test.YtikfphojehgpjaaGreatDoorM24
set_option linter.unusedSimpArgs false
set_option linter.unusedVariables false
namespace Go.Proofs.YtikfphojehgpjaaGreatDoor
open Go.RowKit Vl Go.Maps Go.ChangeMaps
set_option linter.unusedVariables false

def z128 : List UInt8 := List.replicate 128 0
def rootRaw : List UInt8 := [2, 0, 2, 0, 1, 0, 0, 0] ++ List.replicate 120 0
/-- The 128 bytes of the root's node. -/
def rootB : List UInt8 := sealedB rootRaw
set_option maxRecDepth 10000 in
theorem z128_length : z128.length = 128 := rfl
set_option maxRecDepth 10000 in
theorem rootRaw_length : rootRaw.length = 128 := rfl
theorem rootB_length : rootB.length = 128 := by unfold rootB; rw [sealedB_length (by rw [rootRaw_length]; omega), rootRaw_length]
set_option maxRecDepth 100000 in
theorem raw3 : over (over (over z128 0 (leB 2 2)) 2 (leB 2 2)) 4 (leB 1 4) = rootRaw := by decide +kernel
set_option maxRecDepth 100000 in
theorem raw0 : over rootRaw 8 (leB 0 8) = rootRaw ∧ over rootRaw 16 (leB 0 8) = rootRaw ∧ over rootRaw 64 (leB 0 4) = rootRaw ∧ over rootRaw 68 (leB 0 4) = rootRaw := by decide +kernel
set_option maxRecDepth 100000 in
theorem rawj : ∀ j, j < 10 → over rootRaw (24 + 4 * j) (leB 0 4) = rootRaw := by decide +kernel
theorem make_node (w : World) : (Instr.makeSlice 22 (.int .i64 128) (.int .i64 128)).run Tryz.prog w = .ok (.slice (some ⟨w.heap.size, 0, none⟩) 128 128) (w.alloc (.cells (bcells z128).toArray 5)) := make_bytes w 128 (by omega)
theorem over_length' {l m : List UInt8} {n : Nat} : (over l n m).length = min n l.length + m.length + (l.length - (n + m.length)) := by
  unfold over
  simp only [List.length_append, List.length_take, List.length_drop]
theorem size132 : (Tryz.prog.info? 132).map (·.size) = some 10 := by kernel_rfl
theorem size134 : (Tryz.prog.info? 134).map (·.size) = some 17 := by kernel_rfl
theorem dix_0 (w : World) : (Instr.index 132 (.agg #[.int .i64 0, .int .i64 0, .int .i64 0, .int .i64 0, .int .i64 0, .int .i64 0, .int .i64 0, .int .i64 0, .int .i64 0, .int .i64 0]) (.int .i64 0)).run Tryz.prog w = .ok (.int .i64 0) w := by kernel_rfl
theorem dix_1 (w : World) : (Instr.index 132 (.agg #[.int .i64 0, .int .i64 0, .int .i64 0, .int .i64 0, .int .i64 0, .int .i64 0, .int .i64 0, .int .i64 0, .int .i64 0, .int .i64 0]) (.int .i64 1)).run Tryz.prog w = .ok (.int .i64 0) w := by kernel_rfl
theorem dix_2 (w : World) : (Instr.index 132 (.agg #[.int .i64 0, .int .i64 0, .int .i64 0, .int .i64 0, .int .i64 0, .int .i64 0, .int .i64 0, .int .i64 0, .int .i64 0, .int .i64 0]) (.int .i64 2)).run Tryz.prog w = .ok (.int .i64 0) w := by kernel_rfl
theorem dix_3 (w : World) : (Instr.index 132 (.agg #[.int .i64 0, .int .i64 0, .int .i64 0, .int .i64 0, .int .i64 0, .int .i64 0, .int .i64 0, .int .i64 0, .int .i64 0, .int .i64 0]) (.int .i64 3)).run Tryz.prog w = .ok (.int .i64 0) w := by kernel_rfl
theorem dix_4 (w : World) : (Instr.index 132 (.agg #[.int .i64 0, .int .i64 0, .int .i64 0, .int .i64 0, .int .i64 0, .int .i64 0, .int .i64 0, .int .i64 0, .int .i64 0, .int .i64 0]) (.int .i64 4)).run Tryz.prog w = .ok (.int .i64 0) w := by kernel_rfl
theorem dix_5 (w : World) : (Instr.index 132 (.agg #[.int .i64 0, .int .i64 0, .int .i64 0, .int .i64 0, .int .i64 0, .int .i64 0, .int .i64 0, .int .i64 0, .int .i64 0, .int .i64 0]) (.int .i64 5)).run Tryz.prog w = .ok (.int .i64 0) w := by kernel_rfl
theorem dix_6 (w : World) : (Instr.index 132 (.agg #[.int .i64 0, .int .i64 0, .int .i64 0, .int .i64 0, .int .i64 0, .int .i64 0, .int .i64 0, .int .i64 0, .int .i64 0, .int .i64 0]) (.int .i64 6)).run Tryz.prog w = .ok (.int .i64 0) w := by kernel_rfl
theorem dix_7 (w : World) : (Instr.index 132 (.agg #[.int .i64 0, .int .i64 0, .int .i64 0, .int .i64 0, .int .i64 0, .int .i64 0, .int .i64 0, .int .i64 0, .int .i64 0, .int .i64 0]) (.int .i64 7)).run Tryz.prog w = .ok (.int .i64 0) w := by kernel_rfl
theorem dix_8 (w : World) : (Instr.index 132 (.agg #[.int .i64 0, .int .i64 0, .int .i64 0, .int .i64 0, .int .i64 0, .int .i64 0, .int .i64 0, .int .i64 0, .int .i64 0, .int .i64 0]) (.int .i64 8)).run Tryz.prog w = .ok (.int .i64 0) w := by kernel_rfl
theorem dix_9 (w : World) : (Instr.index 132 (.agg #[.int .i64 0, .int .i64 0, .int .i64 0, .int .i64 0, .int .i64 0, .int .i64 0, .int .i64 0, .int .i64 0, .int .i64 0, .int .i64 0]) (.int .i64 9)).run Tryz.prog w = .ok (.int .i64 0) w := by kernel_rfl
theorem dix (k : Nat) (hk : k < 10) (w : World) : (Instr.index 132 (.agg #[.int .i64 0, .int .i64 0, .int .i64 0, .int .i64 0, .int .i64 0, .int .i64 0, .int .i64 0, .int .i64 0, .int .i64 0, .int .i64 0]) (.int .i64 k)).run Tryz.prog w = .ok (.int .i64 0) w := by
  have : k = 0 ∨ k = 1 ∨ k = 2 ∨ k = 3 ∨ k = 4 ∨ k = 5 ∨ k = 6 ∨ k = 7 ∨ k = 8 ∨ k = 9 := by omega
  rcases this with rfl | rfl | rfl | rfl | rfl | rfl | rfl | rfl | rfl | rfl
  · exact dix_0 w
  · exact dix_1 w
  · exact dix_2 w
  · exact dix_3 w
  · exact dix_4 w
  · exact dix_5 w
  · exact dix_6 w
  · exact dix_7 w
  · exact dix_8 w
  · exact dix_9 w
def EncNPost (w : World) (e : Ending) (w' : World) : Prop := ∃ g, w.heap.size ≤ g ∧ e = .returned (.tuple #[.slice (some ⟨g, 0, none⟩) 128 128, .int .i64 0]) ∧ Bytes w' g rootB ∧ Kept [] w w'
set_option maxRecDepth 100000 in
set_option maxHeartbeats 4000000 in
theorem encNode_walk (w : World) : Calls Tryz.prog 114 #[.agg rootCells] w (EncNPost w) := by
  have hn := heap_alloc_new w (.cells rootCells 134)
  have hk := (Kept.refl [] w).alloc (.cells rootCells 134)
  have HF := Lib.hid (rootFits_walk (w.alloc (.cells rootCells 134)))
  unfold rootCells at hn hk HF ⊢
  go_enter Tryz.func114, Tryz.ntmps114
  go_upto_region 1 with fail
  generalize hw : w.alloc (.cells #[.int .i64 2, .int .i64 2, .int .i64 1, .int .i64 0, .int .i64 0, .int .i64 0, .int .i64 0, .int .i64 0, .int .i64 0, .int .i64 0, .int .i64 0, .int .i64 0, .int .i64 0, .int .i64 0, .int .i64 0, .int .i64 0, .int .i64 0] 134) = w1 at *
  clear hw
  generalize hb : w.heap.size = b at *
  have HN := Lib.hid hn
  have HK := Lib.hid hk
  have HB := Lib.hid hb
  have c0 := cell_whole hn 0
  have c1 := cell_whole hn 1
  have c2 := cell_whole hn 2
  have c3 := cell_whole hn 3
  have c4 := cell_whole hn 4
  have c5 := cell_whole hn 5
  have c6 := cell_whole hn 6
  have c7 := cell_whole hn 7
  have c8 := cell_whole hn 8
  have c9 := cell_whole hn 9
  have c10 := cell_whole hn 10
  have c11 := cell_whole hn 11
  have c12 := cell_whole hn 12
  have c13 := cell_whole hn 13
  have c14 := cell_whole hn 14
  have c15 := cell_whole hn 15
  have c16 := cell_whole hn 16
  have hl := lt_whole hn
  simp only [List.getElem?_toArray, List.getElem?_cons_zero, List.getElem?_cons_succ] at c0 c1 c2 c3 c4 c5 c6 c7 c8 c9 c10 c11 c12 c13 c14 c15 c16
  clear hn hk hb
  go_wp2_with (refine wpList_load_row rfl 134 _ rfl b rfl 134 _ (0, 0) _ HN.out Tryz.underlying134 rfl size134 ?_)
  refine HF.out.mono ?_
  rintro e w2 ⟨rfl, hk2⟩
  have HN2 := Lib.hid (hk2.keep HN.out (by simp))
  have HK2 := Lib.hid (HK.out.trans hk2 (by simp))
  have hw2 : b < w2.heap.size := lt_whole HN2.out
  have hms := make_node w2
  have hk3 := ((Kept.refl [] w2).alloc (.cells (bcells z128).toArray 5)).alloc (.cells #[.slice (some ⟨w2.heap.size, 0, none⟩) 128 128, .int .i64 0] 168)
  have hz3 : Bytes ((w2.alloc (.cells (bcells z128).toArray 5)).alloc (.cells #[.slice (some ⟨w2.heap.size, 0, none⟩) 128 128, .int .i64 0] 168)) w2.heap.size z128 := alloc_whole (heap_alloc_new w2 _)
  have hp3 := heap_alloc_new (w2.alloc (.cells (bcells z128).toArray 5)) (.cells #[.slice (some ⟨w2.heap.size, 0, none⟩) 128 128, .int .i64 0] 168)
  rw [size_alloc] at hp3
  clear hk2 HF c0 c1 c2 c3 c4 c5 c6 c7 c8 c9 c10 c11 c12 c13 c14 c15 c16 hl
  go_upto_region 4 with fail
  generalize (w2.alloc (.cells (bcells z128).toArray 5)).alloc (.cells #[.slice (some ⟨w2.heap.size, 0, none⟩) 128 128, .int .i64 0] 168) = w3 at *
  generalize hgg : w2.heap.size = g at *
  have HN3 := Lib.hid (hk3.keep HN2.out (by simp))
  have HK3 := Lib.hid (HK2.out.trans hk3 (by simp))
  have HW3 := Lib.hid (show WrAt w3 (g + 1) g z128 0 from ⟨by rw [z128_length]; exact hp3, hz3, by omega⟩)
  have hgb : w.heap.size ≤ g := by rw [HB.out]; omega
  clear hms hk3 hz3 hp3 HN2 HK2
  obtain ⟨c0, c1, c2, c3, c4, c15, c16⟩ : w3.cell? ⟨b, 0, none⟩ = some (.int .i64 2) ∧ w3.cell? ⟨b, 1, none⟩ = some (.int .i64 2) ∧ w3.cell? ⟨b, 2, none⟩ = some (.int .i64 1) ∧ w3.cell? ⟨b, 3, none⟩ = some (.int .i64 0) ∧ w3.cell? ⟨b, 4, none⟩ = some (.int .i64 0) ∧ w3.cell? ⟨b, 15, none⟩ = some (.int .i64 0) ∧ w3.cell? ⟨b, 16, none⟩ = some (.int .i64 0) := ⟨cell_whole HN3.out 0, cell_whole HN3.out 1, cell_whole HN3.out 2, cell_whole HN3.out 3, cell_whole HN3.out 4, cell_whole HN3.out 15, cell_whole HN3.out 16⟩
  have hl := lt_whole HN3.out
  have HC3 : Hid (Calls Tryz.prog 79 #[.pointer (some ⟨g + 1, 0, none⟩), .int .i64 2, .int .i64 2] w3 fun e w' => e = .returned (.tuple #[]) ∧ WrAt w' (g + 1) g (over (z128) 0 (leB 2 2)) 2 ∧ Kept [g + 1, g] w3 w') := Lib.hid (wnum_walk (g + 1) g _ 0 2 2 w3 HW3.out (by omega) (by omega) (by simp only [over_length', leB_length, z128_length, rootRaw_length]; omega) (by simp only [over_length', leB_length, z128_length, rootRaw_length]; omega))
  go_wp2_with fail
  refine HC3.out.mono ?_
  rintro e w4 ⟨rfl, hw4, hk4⟩
  have HW4 := Lib.hid hw4
  have HN4 := Lib.hid (hk4.keep HN3.out (by simp; omega))
  have HK4 := Lib.hid (HK3.out.trans hk4 (by simp; omega))
  clear hw4 hk4 HC3 c0 c1 c2 c3 c4 c15 c16 hl
  obtain ⟨c0, c1, c2, c3, c4, c15, c16⟩ : w4.cell? ⟨b, 0, none⟩ = some (.int .i64 2) ∧ w4.cell? ⟨b, 1, none⟩ = some (.int .i64 2) ∧ w4.cell? ⟨b, 2, none⟩ = some (.int .i64 1) ∧ w4.cell? ⟨b, 3, none⟩ = some (.int .i64 0) ∧ w4.cell? ⟨b, 4, none⟩ = some (.int .i64 0) ∧ w4.cell? ⟨b, 15, none⟩ = some (.int .i64 0) ∧ w4.cell? ⟨b, 16, none⟩ = some (.int .i64 0) := ⟨cell_whole HN4.out 0, cell_whole HN4.out 1, cell_whole HN4.out 2, cell_whole HN4.out 3, cell_whole HN4.out 4, cell_whole HN4.out 15, cell_whole HN4.out 16⟩
  have hl := lt_whole HN4.out
  have HC4 : Hid (Calls Tryz.prog 79 #[.pointer (some ⟨g + 1, 0, none⟩), .int .i64 2, .int .i64 2] w4 fun e w' => e = .returned (.tuple #[]) ∧ WrAt w' (g + 1) g (over (over z128 0 (leB 2 2)) 2 (leB 2 2)) 4 ∧ Kept [g + 1, g] w4 w') := Lib.hid (wnum_walk (g + 1) g _ 2 2 2 w4 HW4.out (by omega) (by omega) (by simp only [over_length', leB_length, z128_length, rootRaw_length]; omega) (by simp only [over_length', leB_length, z128_length, rootRaw_length]; omega))
  go_wp2_with fail
  refine HC4.out.mono ?_
  rintro e w5 ⟨rfl, hw5, hk5⟩
  have HW5 := Lib.hid hw5
  have HN5 := Lib.hid (hk5.keep HN4.out (by simp; omega))
  have HK5 := Lib.hid (HK4.out.trans hk5 (by simp; omega))
  clear hw5 hk5 HC4 c0 c1 c2 c3 c4 c15 c16 hl
  obtain ⟨c0, c1, c2, c3, c4, c15, c16⟩ : w5.cell? ⟨b, 0, none⟩ = some (.int .i64 2) ∧ w5.cell? ⟨b, 1, none⟩ = some (.int .i64 2) ∧ w5.cell? ⟨b, 2, none⟩ = some (.int .i64 1) ∧ w5.cell? ⟨b, 3, none⟩ = some (.int .i64 0) ∧ w5.cell? ⟨b, 4, none⟩ = some (.int .i64 0) ∧ w5.cell? ⟨b, 15, none⟩ = some (.int .i64 0) ∧ w5.cell? ⟨b, 16, none⟩ = some (.int .i64 0) := ⟨cell_whole HN5.out 0, cell_whole HN5.out 1, cell_whole HN5.out 2, cell_whole HN5.out 3, cell_whole HN5.out 4, cell_whole HN5.out 15, cell_whole HN5.out 16⟩
  have hl := lt_whole HN5.out
  have HC5 : Hid (Calls Tryz.prog 79 #[.pointer (some ⟨g + 1, 0, none⟩), .int .i64 4, .int .i64 1] w5 fun e w' => e = .returned (.tuple #[]) ∧ WrAt w' (g + 1) g (over (over (over z128 0 (leB 2 2)) 2 (leB 2 2)) 4 (leB 1 4)) 8 ∧ Kept [g + 1, g] w5 w') := Lib.hid (wnum_walk (g + 1) g _ 4 1 4 w5 HW5.out (by omega) (by omega) (by simp only [over_length', leB_length, z128_length, rootRaw_length]; omega) (by simp only [over_length', leB_length, z128_length, rootRaw_length]; omega))
  go_wp2_with fail
  refine HC5.out.mono ?_
  rintro e w6 ⟨rfl, hw6, hk6⟩
  have HW6 := Lib.hid hw6
  have HN6 := Lib.hid (hk6.keep HN5.out (by simp; omega))
  have HK6 := Lib.hid (HK5.out.trans hk6 (by simp; omega))
  clear hw6 hk6 HC5 c0 c1 c2 c3 c4 c15 c16 hl
  obtain ⟨c0, c1, c2, c3, c4, c15, c16⟩ : w6.cell? ⟨b, 0, none⟩ = some (.int .i64 2) ∧ w6.cell? ⟨b, 1, none⟩ = some (.int .i64 2) ∧ w6.cell? ⟨b, 2, none⟩ = some (.int .i64 1) ∧ w6.cell? ⟨b, 3, none⟩ = some (.int .i64 0) ∧ w6.cell? ⟨b, 4, none⟩ = some (.int .i64 0) ∧ w6.cell? ⟨b, 15, none⟩ = some (.int .i64 0) ∧ w6.cell? ⟨b, 16, none⟩ = some (.int .i64 0) := ⟨cell_whole HN6.out 0, cell_whole HN6.out 1, cell_whole HN6.out 2, cell_whole HN6.out 3, cell_whole HN6.out 4, cell_whole HN6.out 15, cell_whole HN6.out 16⟩
  have hl := lt_whole HN6.out
  rw [raw3] at HW6
  have HC6 : Hid (Calls Tryz.prog 79 #[.pointer (some ⟨g + 1, 0, none⟩), .int .i64 8, .int .i64 0] w6 fun e w' => e = .returned (.tuple #[]) ∧ WrAt w' (g + 1) g (over rootRaw 8 (leB 0 8)) 16 ∧ Kept [g + 1, g] w6 w') := Lib.hid (wnum_walk (g + 1) g _ 8 0 8 w6 HW6.out (by omega) (by omega) (by simp only [over_length', leB_length, z128_length, rootRaw_length]; omega) (by simp only [over_length', leB_length, z128_length, rootRaw_length]; omega))
  go_wp2_with fail
  refine HC6.out.mono ?_
  rintro e w7 ⟨rfl, hw7, hk7⟩
  have HW7 := Lib.hid hw7
  have HN7 := Lib.hid (hk7.keep HN6.out (by simp; omega))
  have HK7 := Lib.hid (HK6.out.trans hk7 (by simp; omega))
  clear hw7 hk7 HC6 c0 c1 c2 c3 c4 c15 c16 hl
  obtain ⟨c0, c1, c2, c3, c4, c15, c16⟩ : w7.cell? ⟨b, 0, none⟩ = some (.int .i64 2) ∧ w7.cell? ⟨b, 1, none⟩ = some (.int .i64 2) ∧ w7.cell? ⟨b, 2, none⟩ = some (.int .i64 1) ∧ w7.cell? ⟨b, 3, none⟩ = some (.int .i64 0) ∧ w7.cell? ⟨b, 4, none⟩ = some (.int .i64 0) ∧ w7.cell? ⟨b, 15, none⟩ = some (.int .i64 0) ∧ w7.cell? ⟨b, 16, none⟩ = some (.int .i64 0) := ⟨cell_whole HN7.out 0, cell_whole HN7.out 1, cell_whole HN7.out 2, cell_whole HN7.out 3, cell_whole HN7.out 4, cell_whole HN7.out 15, cell_whole HN7.out 16⟩
  have hl := lt_whole HN7.out
  rw [raw0.1] at HW7
  have HC7 : Hid (Calls Tryz.prog 79 #[.pointer (some ⟨g + 1, 0, none⟩), .int .i64 8, .int .i64 0] w7 fun e w' => e = .returned (.tuple #[]) ∧ WrAt w' (g + 1) g (over rootRaw 16 (leB 0 8)) 24 ∧ Kept [g + 1, g] w7 w') := Lib.hid (wnum_walk (g + 1) g _ 16 0 8 w7 HW7.out (by omega) (by omega) (by simp only [over_length', leB_length, z128_length, rootRaw_length]; omega) (by simp only [over_length', leB_length, z128_length, rootRaw_length]; omega))
  go_wp2_with fail
  refine HC7.out.mono ?_
  rintro e w8 ⟨rfl, hw8, hk8⟩
  have HW8 := Lib.hid hw8
  have HN8 := Lib.hid (hk8.keep HN7.out (by simp; omega))
  have HK8 := Lib.hid (HK7.out.trans hk8 (by simp; omega))
  clear hw8 hk8 HC7 c0 c1 c2 c3 c4 c15 c16 hl
  obtain ⟨c0, c1, c2, c3, c4, c15, c16⟩ : w8.cell? ⟨b, 0, none⟩ = some (.int .i64 2) ∧ w8.cell? ⟨b, 1, none⟩ = some (.int .i64 2) ∧ w8.cell? ⟨b, 2, none⟩ = some (.int .i64 1) ∧ w8.cell? ⟨b, 3, none⟩ = some (.int .i64 0) ∧ w8.cell? ⟨b, 4, none⟩ = some (.int .i64 0) ∧ w8.cell? ⟨b, 15, none⟩ = some (.int .i64 0) ∧ w8.cell? ⟨b, 16, none⟩ = some (.int .i64 0) := ⟨cell_whole HN8.out 0, cell_whole HN8.out 1, cell_whole HN8.out 2, cell_whole HN8.out 3, cell_whole HN8.out 4, cell_whole HN8.out 15, cell_whole HN8.out 16⟩
  have hl := lt_whole HN8.out
  rw [raw0.2.1] at HW8
  have hrg : w8.rangeAt b 5 (List.replicate 10 (Value.int .i64 0)) := fun j u hj => by
    obtain ⟨hj1, hj2⟩ := List.getElem?_eq_some_iff.1 hj
    rw [List.length_replicate] at hj1
    rw [List.getElem_replicate] at hj2
    subst hj2
    rw [cell_whole HN8.out]
    have : j = 0 ∨ j = 1 ∨ j = 2 ∨ j = 3 ∨ j = 4 ∨ j = 5 ∨ j = 6 ∨ j = 7 ∨ j = 8 ∨ j = 9 := by omega
    rcases this with rfl | rfl | rfl | rfl | rfl | rfl | rfl | rfl | rfl | rfl <;> rfl
  have HRG := Lib.hid hrg
  clear hrg
  go_wp2_with (refine wpList_load_mid rfl 132 _ rfl b 5 rfl (List.replicate 10 (Value.int .i64 0)) _ HRG.out Tryz.underlying132 rfl size132 ?_)
  go_loopw [6, 42] (fun v6 v42 wr => ∃ k : Nat, k ≤ 10 ∧ v42 = .int .i64 k ∧ WrAt wr (g + 1) g rootRaw (24 + 4 * k) ∧ Kept [g + 1, g] w8 wr) (fun _ v42 _ => 10 - (intOf v42).toNat)
  case atStart => exact ⟨0, by omega, rfl, HW8.out, Kept.refl _ _⟩
  case round =>
    obtain ⟨k, hk, rfl, hwr, hkr⟩ := hrel
    have HWR := Lib.hid hwr
    have HKR := Lib.hid hkr
    clear hwr hkr
    by_cases hlt : k < 10
    · have hix := dix k hlt wr
      have HCR : Hid (Calls Tryz.prog 79 #[.pointer (some ⟨g + 1, 0, none⟩), .int .i64 4, .int .i64 0] wr fun e w' => e = .returned (.tuple #[]) ∧ WrAt w' (g + 1) g (over rootRaw (24 + 4 * k) (leB 0 4)) (24 + 4 * k + 4) ∧ Kept [g + 1, g] wr w') := Lib.hid (wnum_walk (g + 1) g _ (24 + 4 * k) 0 4 wr HWR.out (by omega) (by omega) (by simp only [over_length', leB_length, z128_length, rootRaw_length]; omega) (by simp only [over_length', leB_length, z128_length, rootRaw_length]; omega))
      rw [rawj k hlt] at HCR
      go_wp2_with fail
      refine HCR.out.mono ?_
      rintro e w9 ⟨rfl, hw9, hk9⟩
      have HW9 := Lib.hid hw9
      have HK9 := Lib.hid (HKR.out.trans hk9 (by simp))
      clear hw9 hk9 HCR hix
      go_wp2
      go_roundw
      case rel => exact ⟨k + 1, by omega, by go_num, HW9.out, HK9.out⟩
      case measure => simp [intOf]; omega
    · obtain rfl : k = 10 := by omega
      have HN9 := Lib.hid (HKR.out.keep HN8.out (by simp; omega))
      have HK9 := Lib.hid (HK8.out.trans HKR.out (by simp; omega))
      clear hlt hk
      have c15 := cell_whole HN9.out 15
      have hl := lt_whole HN9.out
      simp only [List.getElem?_toArray, List.getElem?_cons_zero, List.getElem?_cons_succ] at c15
      have HC64 : Hid (Calls Tryz.prog 79 #[.pointer (some ⟨g + 1, 0, none⟩), .int .i64 4, .int .i64 0] wr fun e w' => e = .returned (.tuple #[]) ∧ WrAt w' (g + 1) g (over rootRaw 64 (leB 0 4)) 68 ∧ Kept [g + 1, g] wr w') := Lib.hid (wnum_walk (g + 1) g _ 64 0 4 wr HWR.out (by omega) (by omega) (by simp only [over_length', leB_length, z128_length, rootRaw_length]; omega) (by simp only [over_length', leB_length, z128_length, rootRaw_length]; omega))
      go_wp2_with fail
      refine HC64.out.mono ?_
      rintro e wa ⟨rfl, hw64, hk64⟩
      rw [raw0.2.2.1] at hw64
      have HW64 := Lib.hid hw64
      have HN64 := Lib.hid (hk64.keep HN9.out (by simp; omega))
      have HK64 := Lib.hid (HK9.out.trans hk64 (by simp; omega))
      clear hw64 hk64 HC64 c15 hl
      have c16 := cell_whole HN64.out 16
      have hl := lt_whole HN64.out
      simp only [List.getElem?_toArray, List.getElem?_cons_zero, List.getElem?_cons_succ] at c16
      have HC68 : Hid (Calls Tryz.prog 79 #[.pointer (some ⟨g + 1, 0, none⟩), .int .i64 4, .int .i64 0] wa fun e w' => e = .returned (.tuple #[]) ∧ WrAt w' (g + 1) g (over rootRaw 68 (leB 0 4)) 72 ∧ Kept [g + 1, g] wa w') := Lib.hid (wnum_walk (g + 1) g _ 68 0 4 wa HW64.out (by omega) (by omega) (by simp only [over_length', leB_length, z128_length, rootRaw_length]; omega) (by simp only [over_length', leB_length, z128_length, rootRaw_length]; omega))
      go_wp2_with fail
      refine HC68.out.mono ?_
      rintro e wb ⟨rfl, hw68, hk68⟩
      rw [raw0.2.2.2] at hw68
      have HW68 := Lib.hid hw68
      have HN68 := Lib.hid (hk68.keep HN64.out (by simp; omega))
      have HK68 := Lib.hid (HK64.out.trans hk68 (by simp; omega))
      clear hw68 hk68 HC68 c16 hl
      have HS := sealed_walk (g + 1) g rootRaw 72 wb HW68.out (by rw [rootRaw_length]; omega) (by rw [rootRaw_length]; omega)
      rw [rootRaw_length] at HS
      have HSS := Lib.hid HS
      clear HS
      go_wp2_with fail
      refine HSS.out.mono ?_
      rintro e wc ⟨rfl, hwc, hkc⟩
      have HEND := Lib.hid (show EncNPost w (.returned (.tuple #[.slice (some ⟨g, 0, none⟩) 128 128, .int .i64 0])) wc from ⟨g, hgb, rfl, hwc.bytes, HK68.out.trans hkc (by simp; omega)⟩)
      clear hwc hkc HSS
      go_wp2
      refine bodyPost_ret (results_tmp2 rfl _ _ _) rfl ?_
      exact HEND.out
end Go.Proofs.YtikfphojehgpjaaGreatDoor
/- node: slot, bytes, lay: the first node. -/
namespace Go.Proofs.YtikfphojehgpjaaGreatDoor
open Go.RowKit Vl Go.Maps Go.ChangeMaps
set_option linter.unusedVariables false
section
variable {w w' : World} {X : TxC} {n : Nat} {m : Nat → Option (List UInt8)} {g : Nat}
/-- A row that begins with these 512 bytes. -/
structure RowAt (w : World) (g c : Nat) (l : List UInt8) : Prop where
  bits : ∃ cur, w.heap[g]? = some (.cells cur 5 (0, 0)) ∧ cur.size = c ∧ cur.toList.take 512 = bcells l
  len : l.length = 512
  cap : 512 ≤ c
theorem RowAt.kept {c : Nat} {l : List UInt8} {F : List Nat} (h : RowAt w g c l) (hk : Kept F w w') (hg : g ∉ F) : RowAt w' g c l := by
  obtain ⟨cur, h1, h2, h3⟩ := h.bits
  exact ⟨⟨cur, hk.keep h1 hg, h2, h3⟩, h.len, h.cap⟩
theorem RowAt.lt {c : Nat} {l : List UInt8} (h : RowAt w g c l) : g < w.heap.size := by
  obtain ⟨cur, h1, _⟩ := h.bits
  exact lt_whole h1
theorem RowAt.at {c : Nat} {l : List UInt8} (h : RowAt w g c l) : BytesAt w (some ⟨g, 0, none⟩) l := fun i hi => by
  obtain ⟨cur, h1, h2, h3⟩ := h.bits
  refine ⟨g, 0, rfl, lt_whole h1, ?_⟩
  rw [Nat.zero_add, cell_whole h1 i, ← Array.getElem?_toList]
  have e : (cur.toList.take 512)[i]? = (bcells l)[i]? := by rw [h3]
  rw [List.getElem?_take_of_lt (by rw [← h.len]; exact hi)] at e
  rw [e]
  unfold bcells
  rw [List.getElem?_map, List.getElem?_eq_getElem hi]
  rfl
theorem copy_row0 (w : World) (g c dCap : Nat) (l m : List UInt8) (g2 off sCap : Nat) (hB : RowAt w g c l) (hm : BytesAt w (some ⟨g2, off, none⟩) m) (hd : m.length = 128) (ty : TypeId) :
    ∃ w', (Builtin.copy_ #[22, 22] ty #[.slice (some ⟨g, 0, none⟩) 128 dCap, .slice (some ⟨g2, off, none⟩) 128 sCap]).run Tryz.prog w = .ok (.int .i64 128) w' ∧ RowAt w' g c (over l 0 m) ∧ Kept [g] w w' := by
  obtain ⟨cur, h1, h2, h3⟩ := hB.bits
  have hcap := hB.cap
  have hr := run_copy_row (P := Tryz.prog) w 22 22 ty 5 g 0 128 dCap ⟨g2, off, none⟩ 128 sCap cur 5 (bcells m) Tryz.underlying22 (by
    have hi := info5
    cases hq : Tryz.prog.info? 5 with
    | none => rw [hq] at hi; simp at hi
    | some i => rw [hq] at hi; simp at hi; simp [hi]) h1 (by rw [bcells_length, hd]; rfl) (fun j v hj => by
      obtain ⟨hj1, hj2⟩ := List.getElem?_eq_some_iff.1 hj
      rw [bcells_length] at hj1
      obtain ⟨g3, off3, e3, _, hc⟩ := hm j hj1
      injection e3 with e4
      injection e4 with e5 e6 _
      subst e5; subst e6
      rw [Addr.add_lit, hc, ← hj2]
      simp [bcells]) (by rw [bcells_length, hd, h2]; omega) (bcells_oneCell m)
  refine ⟨_, by rw [hr, bcells_length, hd]; rfl, ?_, ?_⟩
  · refine ⟨⟨_, setRow_heap w g _ _ 5 (0, 0) h1, ?_, ?_⟩, by rw [over_length (by rw [hB.len]; omega), hB.len], hcap⟩
    · simp [bcells_length, hd, h2]; omega
    · have e2 : cur.toList.drop 128 = (cur.toList.take 512 ++ cur.toList.drop 512).drop 128 := by rw [List.take_append_drop]
      rw [h3, List.drop_append_of_le_length (by rw [bcells_length, hB.len]; omega)] at e2
      try simp only [bcells_length]
      try simp only [hd]
      show ((cur.toList.take 0 ++ bcells m) ++ cur.toList.drop (0 + 128)).take 512 = _
      rw [List.take_zero, List.nil_append, Nat.zero_add, e2, ← List.append_assoc]
      rw [List.take_append_of_le_length (by simp [bcells_length, hd, hB.len]), List.take_of_length_le (by simp [bcells_length, hd, hB.len])]
      unfold over bcells
      rw [List.take_zero, List.nil_append, Nat.zero_add, hd, List.map_append, List.map_drop]
  · refine ⟨rfl, rfl, rfl, ?_, fun k hk hg => ?_⟩
    · show w.heap.size ≤ (w.heap.modify g _).size; simp
    · show (w.heap.modify g _)[k]? = w.heap[k]?
      rw [Array.getElem?_modify, if_neg (fun e => hg (by simp [e]))]
def SlotPost (X : TxC) (n : Nat) (m : Nat → Option (List UInt8)) (w : World) (e : Ending) (w' : World) : Prop :=
  ∃ g c, e = .returned (.agg #[.int .i64 1, .int .i64 2, .slice (some ⟨g, 0, none⟩) 512 c]) ∧ w.heap.size ≤ g ∧ RowAt w' g c (seen X m 2) ∧ (∀ w'', Kept [g] w' w'' → TxAt w'' X n m) ∧ Kept [X.d] w w'
set_option maxRecDepth 100000 in
set_option maxHeartbeats 2000000 in
theorem slot_walk (ok : TxOk X) (h : TxAt w X n m) (nd pl : Nat) (hnd : w.heap[nd]? = some (.cells #[.pointer (some ⟨pl, 0, none⟩)] 90 (0, 0))) (hp : w.heap[pl]? = some (.cells #[.pointer (some ⟨X.t, 0, none⟩)] 129 (0, 0))) (hb : 3 ≤ X.Y.blocks) (hsl : (seen X m 2).length = 512) :
    Calls Tryz.prog 64 #[.pointer (some ⟨nd, 0, none⟩), .int .i64 1] w (SlotPost X n m w) := by
  have H := Lib.hid h
  have HOK := Lib.hid ok
  have HSL := Lib.hid hsl
  have hk1 := (Kept.refl [] w).alloc (.cells #[.int .i64 0, .int .i64 0, .slice none 0 0] 138)
  have hm1 := heap_alloc_new w (.cells #[.int .i64 0, .int .i64 0, .slice none 0 0] 138)
  have hbase := h.base_le
  have hlow := ok.low
  have hnd1 := hk1.keep hnd (by simp)
  have hp1 := hk1.keep hp (by simp)
  clear h ok hp hsl hnd
  go_enter Tryz.func64, Tryz.ntmps64
  go_upto_region 2 with fail
  generalize w.alloc (.cells #[.int .i64 0, .int .i64 0, .slice none 0 0] 138) = w1 at *
  generalize hmb : w.heap.size = mb at *
  have HMB := Lib.hid hmb
  have HK1 := Lib.hid hk1
  have HM1 := Lib.hid hm1
  have p0 := cell_whole hp1 0
  have pl1 := lt_whole hp1
  have n0 := cell_whole hnd1 0
  have nl1 := lt_whole hnd1
  have ml1 := lt_whole hm1
  simp only [List.getElem?_toArray, List.getElem?_cons_zero] at p0 n0
  have HG := Lib.hid (get_walk HOK.out (H.out.still hk1) 2 (by omega))
  clear hmb hk1 hm1 hp1 hnd1
  go_wp2_with fail
  refine HG.out.mono ?_
  rintro e w2 ⟨v2, rfl, ho2, ht2, hk2⟩
  obtain ⟨g, c, cur, rfl, hgb, hcur, hle, _, hcs, htk⟩ : ∃ g c cur, v2 = .slice (some ⟨g, 0, none⟩) 512 c ∧ w1.heap.size ≤ g ∧ w2.heap[g]? = some (.cells cur 5 (0, 0)) ∧ 512 ≤ c ∧ c ≤ maxLen ∧ cur.size = c * 1 ∧ cur.toList.take (512 * 1) = bcells (seen X m 2) := by
    rcases ho2.2 with ⟨_, e0⟩ | h
    · cases e0
    · exact h
  have hm2 := hk2.keep HM1.out (by simp; omega)
  have HM2 := Lib.hid hm2
  have HT2 := Lib.hid ht2
  have HK2 := Lib.hid ((HK1.out.mono (G := [X.d]) (by simp)).trans hk2 (by simp))
  have HR2 := Lib.hid (show RowAt w2 g c (seen X m 2) from ⟨⟨cur, hcur, by rw [hcs, Nat.mul_one], htk⟩, HSL.out, hle⟩)
  clear ho2 ht2 hk2 hcur hcs htk hm2 p0 n0 hle
  go_wp2_with fail
  refine (must_ok w2).mono ?_
  rintro e w3 ⟨rfl, rfl⟩
  go_upto_region 4 with fail
  have ml := lt_whole HM2.out
  have f0 := frozen_whole HM2.out 0
  have f1 := frozen_whole HM2.out 1
  have f2 := frozen_whole HM2.out 2
  have m0 := cell_whole HM2.out 0
  have s1 := set_whole (i := 0) HM2.out (.int .i64 1)
  have m1 := cell_whole s1 1
  have g1 := frozen_whole s1 1
  have s2 := set_whole (i := 1) s1 (.int .i64 2)
  have m2 := cell_whole s2 2
  have g2 := frozen_whole s2 2
  have s3 := set_whole (i := 2) s2 (.slice (some ⟨g, 0, none⟩) 512 c)
  have S3 := Lib.hid s3
  have hk3 : Kept [mb] w3 (((w3.setCell ⟨mb, 0, none⟩ (.int .i64 1)).setCell ⟨mb, 1, none⟩ (.int .i64 2)).setCell ⟨mb, 2, none⟩ (.slice (some ⟨g, 0, none⟩) 512 c)) := (((Kept.refl [mb] w3).setCell _ _ (.inl (by simp))).setCell _ _ (.inl (by simp))).setCell _ _ (.inl (by simp))
  have HK3 := Lib.hid hk3
  clear s1 s2 s3 hk3
  go_wp2
  have HEND := Lib.hid (show SlotPost X n m w (.returned (.agg #[.int .i64 1, .int .i64 2, .slice (some ⟨g, 0, none⟩) 512 c])) _ from ⟨g, c, rfl, by rw [HMB.out]; omega, HR2.out.kept HK3.out (by simp; omega), fun w'' hk'' => by
    have hk4 : Kept [mb, g] w3 w'' := (HK3.out.mono (G := [mb, g]) (by simp)).trans hk'' (by simp)
    obtain ⟨x, hd⟩ := HT2.out.disk
    exact H.out.read HOK.out (HK2.out.trans hk4 (by simp [HMB.out]; omega)) (hd.keptN HOK.out.pend hk4 (by simp; omega) (by simp; omega) (by simp; omega)), HK2.out.trans HK3.out (by simp [HMB.out])⟩)
  refine bodyPost_ret (results_cell_row (P := Tryz.prog) (p := 4) (ty := 138) rfl _ _ mb 138 #[.int .i64 1, .int .i64 2, .slice (some ⟨g, 0, none⟩) 512 c] (0, 0) _ rfl S3.out Tryz.underlying138 rfl (by kernel_rfl)) rfl ?_
  exact HEND.out
theorem bytes_walk (g c : Nat) (w : World) (hc : 128 ≤ c) : Calls Tryz.prog 115 #[.agg #[.int .i64 1, .int .i64 2, .slice (some ⟨g, 0, none⟩) 512 c]] w fun e w' => e = .returned (.slice (some ⟨g, 0, none⟩) 128 128) ∧ w' = w.alloc (.cells #[.int .i64 1, .int .i64 2, .slice (some ⟨g, 0, none⟩) 512 c] 138) := by
  have hm := heap_alloc_new w (.cells #[.int .i64 1, .int .i64 2, .slice (some ⟨g, 0, none⟩) 512 c] 138)
  have c0 := cell_whole hm 0
  have c2 := cell_whole hm 2
  have hl := lt_whole hm
  simp only [List.getElem?_toArray, List.getElem?_cons_zero, List.getElem?_cons_succ] at c0 c2
  clear hm
  go_enter Tryz.func115, Tryz.ntmps115
  go_wp2
  go_ret
  exact ⟨rfl, rfl⟩
def NLayPost (X : TxC) (n : Nat) (m : Nat → Option (List UInt8)) (l : List UInt8) (g : Nat) (w : World) (e : Ending) (w' : World) : Prop :=
  e = .returned (.tuple #[]) ∧ TxAt w' X (n + 1) (PutTo X m 2 (over l 0 rootB)) ∧ Kept [X.d, X.own, g] w w'
set_option maxRecDepth 100000 in
set_option maxHeartbeats 2000000 in
theorem nlay_walk (ok : TxOk X) (hT : ∀ w', Kept [g] w w' → TxAt w' X n m) (nd pl : Nat) (hnd : w.heap[nd]? = some (.cells #[.pointer (some ⟨pl, 0, none⟩)] 90 (0, 0))) (hp : w.heap[pl]? = some (.cells #[.pointer (some ⟨X.t, 0, none⟩)] 129 (0, 0))) (hb : 3 ≤ X.Y.blocks) (hn : n < 15)
    (c : Nat) (l : List UInt8) (hr : RowAt w g c l) (hg : g ≠ X.d ∧ g ≠ nd ∧ g ≠ pl) (hno : nd ∉ [X.d, X.own] ∧ pl ∉ [X.d, X.own]) :
    Calls Tryz.prog 63 #[.pointer (some ⟨nd, 0, none⟩), .agg #[.int .i64 1, .int .i64 2, .slice (some ⟨g, 0, none⟩) 512 c], .agg rootCells] w (NLayPost X n m l g w) := by
  have HT := Lib.hid hT
  have HOK := Lib.hid ok
  have hgl := hr.lt
  have hk1 := ((Kept.refl [] w).alloc (.cells #[.int .i64 1, .int .i64 2, .slice (some ⟨g, 0, none⟩) 512 c] 138)).alloc (.cells rootCells 134)
  have hm1 := alloc_whole (heap_alloc_new w (.cells #[.int .i64 1, .int .i64 2, .slice (some ⟨g, 0, none⟩) 512 c] 138)) (o' := .cells rootCells 134)
  have hm2 := heap_alloc_new (w.alloc (.cells #[.int .i64 1, .int .i64 2, .slice (some ⟨g, 0, none⟩) 512 c] 138)) (.cells rootCells 134)
  rw [size_alloc] at hm2
  have HND := Lib.hid (hk1.keep hnd (by simp))
  have HP := Lib.hid (hk1.keep hp (by simp))
  have HR := Lib.hid (hr.kept hk1 (by simp))
  have hcap := hr.cap
  have hrs : rootCells.size = 17 := rfl
  clear hT ok hnd hp hr
  go_enter Tryz.func63, Tryz.ntmps63
  go_upto_region 1 with fail
  generalize (w.alloc (.cells #[.int .i64 1, .int .i64 2, .slice (some ⟨g, 0, none⟩) 512 c] 138)).alloc (.cells rootCells 134) = w1 at *
  generalize hsb : w.heap.size = sb at *
  have HSB := Lib.hid hsb
  have HK1 := Lib.hid hk1
  have HM1 := Lib.hid hm1
  have HM2 := Lib.hid hm2
  have hl1 := lt_whole hm1
  have hl2 := lt_whole hm2
  have HE := Lib.hid (encNode_walk w1)
  clear hsb hk1 hm1 hm2
  go_wp2_with (refine wpList_load_row rfl 134 _ rfl (sb + 1) rfl 134 _ (0, 0) _ HM2.out Tryz.underlying134 rfl size134 ?_)
  refine HE.out.mono ?_
  rintro e w2 ⟨gE, hgE, rfl, hbE, hk2⟩
  have HK2 := Lib.hid (HK1.out.trans hk2 (by simp))
  have HM3 := Lib.hid (hk2.keep HM1.out (by simp))
  have HR2 := Lib.hid (HR.out.kept hk2 (by simp))
  have HND2 := Lib.hid (hk2.keep HND.out (by simp))
  have HP2 := Lib.hid (hk2.keep HP.out (by simp))
  have HBE := Lib.hid hbE
  have hl3 := lt_whole HM3.out
  have hgE2 := lt_whole hbE
  have m0 := cell_whole HM3.out 0
  have m1 := cell_whole HM3.out 1
  have m2 := cell_whole HM3.out 2
  simp only [List.getElem?_toArray, List.getElem?_cons_zero, List.getElem?_cons_succ] at m0 m1 m2
  clear hbE hk2 HE
  go_wp2_with fail
  refine (must_ok w2).mono ?_
  rintro e w3 ⟨rfl, rfl⟩
  have HBW := Lib.hid (bytes_walk g c w3 (by omega))
  go_wp2_with fail
  refine HBW.out.mono ?_
  rintro e w4 ⟨rfl, hw4⟩
  have hk4 : Kept [] w3 w4 := by rw [hw4]; exact (Kept.refl [] w3).alloc _
  have HK4 := Lib.hid (HK2.out.trans hk4 (by simp))
  have HM4 := Lib.hid (hk4.keep HM3.out (by simp))
  have HND4 := Lib.hid (hk4.keep HND2.out (by simp))
  have HP4 := Lib.hid (hk4.keep HP2.out (by simp))
  have hrb : rootB.length = 128 := rootB_length
  obtain ⟨w5, hcp, hr5, hk5⟩ := copy_row0 w4 g c 128 l rootB gE 0 128 (HR2.out.kept hk4 (by simp)) (HBE.out.kept hk4 (by simp)).at hrb 3
  have HK5 := Lib.hid ((HK4.out.mono (G := [g]) (by simp)).trans hk5 (by simp))
  have HM5 := Lib.hid (hk5.keep HM4.out (by simp; omega))
  have HND5 := Lib.hid (hk5.keep HND4.out (by simp; exact hg.2.1.symm))
  have HP5 := Lib.hid (hk5.keep HP4.out (by simp; exact hg.2.2.symm))
  have HR5 := Lib.hid hr5
  clear hk4 hw4 hk5 hr5 hrb m0 m1 m2 HBW
  go_upto_region 4 with fail
  have HK6 := Lib.hid (show Kept [g] w w5.drew from HK5.out.drew)
  have HPT := Lib.hid (tput_walk HOK.out (w := w5.drew) (HT.out _ HK6.out) hn 2 (by omega) (over l 0 rootB) HR5.out.len g 0 c (HR5.out.kept (Kept.refl [] w5).drew (by simp)).at hg.1)
  have p0 : w5.cell? ⟨pl, 0, none⟩ = some (.pointer (some ⟨X.t, 0, none⟩)) := cell_whole HP5.out 0
  have n0 : w5.cell? ⟨nd, 0, none⟩ = some (.pointer (some ⟨pl, 0, none⟩)) := cell_whole HND5.out 0
  have s1 : w5.cell? ⟨sb, 1, none⟩ = some (.int .i64 2) := cell_whole HM5.out 1
  have s2 : w5.cell? ⟨sb, 2, none⟩ = some (.slice (some ⟨g, 0, none⟩) 512 c) := cell_whole HM5.out 2
  have ln := lt_whole HND5.out
  have lp := lt_whole HP5.out
  have ls := lt_whole HM5.out
  have e0 : w5.drew.cell? ⟨nd, 0, none⟩ = some (.pointer (some ⟨pl, 0, none⟩)) ∧ w5.drew.cell? ⟨pl, 0, none⟩ = some (.pointer (some ⟨X.t, 0, none⟩)) ∧ w5.drew.cell? ⟨sb, 1, none⟩ = some (.int .i64 2) ∧ w5.drew.cell? ⟨sb, 2, none⟩ = some (.slice (some ⟨g, 0, none⟩) 512 c) := ⟨n0, p0, s1, s2⟩
  have hsx : sb ∉ [X.d, X.own] := by
    have h1 := (HT.out w (Kept.refl _ _)).base_le
    have h2 := HOK.out.low
    have h3 := HSB.out
    simp; omega
  have HPU : Hid (Calls Tryz.prog 57 #[.pointer (some ⟨X.t, 0, none⟩), .int .i64 2, .slice (some ⟨g, 0, none⟩) 512 c] w5.drew fun e w9 => e = .returned (.int .i64 0) ∧ TxAt w9 X (n + 1) (PutTo X m 2 (over l 0 rootB)) ∧ Kept [X.d, X.own, g] w w9 ∧
      w9.cell? ⟨nd, 0, none⟩ = some (.pointer (some ⟨pl, 0, none⟩)) ∧ w9.cell? ⟨pl, 0, none⟩ = some (.pointer (some ⟨X.t, 0, none⟩)) ∧ w9.cell? ⟨sb, 1, none⟩ = some (.int .i64 2) ∧ w9.cell? ⟨sb, 2, none⟩ = some (.slice (some ⟨g, 0, none⟩) 512 c)) := Lib.hid (HPT.out.mono (by
    rintro e w9 ⟨rfl, ht9, hk9⟩
    have hk : Kept [X.d, X.own] w5 w9 := (Kept.refl [X.d, X.own] w5).drew.trans hk9 (by simp)
    exact ⟨rfl, ht9, (HK5.out.mono (G := [X.d, X.own, g]) (by simp)).trans hk (by simp), (cell_kept hk ln hno.1).trans n0, (cell_kept hk lp hno.2).trans p0, (cell_kept hk ls hsx).trans s1, (cell_kept hk ls hsx).trans s2⟩))
  clear HPT
  go_region_held3 (fun w' => w'.cell? ⟨nd, 0, none⟩ = some (.pointer (some ⟨pl, 0, none⟩)) ∧ w'.cell? ⟨pl, 0, none⟩ = some (.pointer (some ⟨X.t, 0, none⟩)) ∧ w'.cell? ⟨sb, 1, none⟩ = some (.int .i64 2) ∧ w'.cell? ⟨sb, 2, none⟩ = some (.slice (some ⟨g, 0, none⟩) 512 c))
    (first
      | (with_reducible exact e0)
      | (with_reducible exact e9))
    ((first
      | (go_simp; go_at_call 57; (with_reducible refine HPU.out.mono ?_); rintro e w9 ⟨rfl, ht9, hk9, e9⟩)
      | (go_simp; go_at_call 62; (with_reducible refine (must_ok w9).mono ?_); rintro e w10 ⟨rfl, rfl⟩)))
  have HEND := Lib.hid (show NLayPost X n m l g w (.returned (.tuple #[])) w10 from ⟨rfl, ht9, hk9⟩)
  clear ht9 hk9 e9 e0
  go_wp2
  go_end0
  exact HEND.out
end
end Go.Proofs.YtikfphojehgpjaaGreatDoor
