/- vellumref2: pointer, NodeFits, EncodeNode: the root and the empty node. -/
import Derived.Test.YtikfphojehgpjaaGreatDoorM32
set_option linter.unusedSimpArgs false
set_option linter.unusedVariables false
namespace Go.Proofs.YtikfphojehgpjaaGreatDoor
open Go.RowKit Vl Go.Maps Go.ChangeMaps
set_option linter.unusedVariables false
/-- A node without bytes. -/
def nodeC (k l p : Int) : Array Value := #[.int .i64 k, .int .i64 l, .int .i64 p, .int .i64 0, .int .i64 0, .int .i64 0, .int .i64 0, .int .i64 0, .int .i64 0, .int .i64 0, .int .i64 0, .int .i64 0, .int .i64 0, .int .i64 0, .int .i64 0, .int .i64 0, .int .i64 0]
theorem nodeC_zero (k l p : Int) (i : Nat) (h : i < 12) : (nodeC k l p)[5 + i]? = some (.int .i64 0) := by
  have : i = 0 ∨ i = 1 ∨ i = 2 ∨ i = 3 ∨ i = 4 ∨ i = 5 ∨ i = 6 ∨ i = 7 ∨ i = 8 ∨ i = 9 ∨ i = 10 ∨ i = 11 := by omega
  rcases this with rfl | rfl | rfl | rfl | rfl | rfl | rfl | rfl | rfl | rfl | rfl | rfl <;> rfl
theorem nodeC_set (k l p : Int) (i : Nat) (h : i < 12) : (nodeC k l p).setIfInBounds (5 + i) (.int .i64 0) = nodeC k l p := by
  have : i = 0 ∨ i = 1 ∨ i = 2 ∨ i = 3 ∨ i = 4 ∨ i = 5 ∨ i = 6 ∨ i = 7 ∨ i = 8 ∨ i = 9 ∨ i = 10 ∨ i = 11 := by omega
  rcases this with rfl | rfl | rfl | rfl | rfl | rfl | rfl | rfl | rfl | rfl | rfl | rfl <;> rfl
set_option maxRecDepth 100000 in
set_option maxHeartbeats 2000000 in
theorem pointer_walk (k l p : Int) (i : Nat) (hi : i < 12) (w : World) : Calls Tryz.prog 200 #[.agg (nodeC k l p), .int .i64 i] w fun e w' => e = .returned (.int .i64 0) ∧ Kept [] w w' := by
  have hm := heap_alloc_new w (.cells (nodeC k l p) 134)
  have hk := (Kept.refl [] w).alloc (.cells (nodeC k l p) 134)
  have hc : (w.alloc (.cells (nodeC k l p) 134)).cell? ⟨w.heap.size, 5 + i, none⟩ = some (.int .i64 0) := by rw [cell_whole hm (5 + i)]; exact nodeC_zero k l p i hi
  have h15 : (w.alloc (.cells (nodeC k l p) 134)).cell? ⟨w.heap.size, 15, none⟩ = some (.int .i64 0) := cell_whole hm 15
  have h16 : (w.alloc (.cells (nodeC k l p) 134)).cell? ⟨w.heap.size, 16, none⟩ = some (.int .i64 0) := cell_whole hm 16
  have hl := lt_whole hm
  unfold nodeC at hc h15 h16 hk hl ⊢
  clear hm
  go_enter Tryz.func200, Tryz.ntmps200
  go_upto_region 1 with fail
  generalize w.alloc (.cells #[.int .i64 k, .int .i64 l, .int .i64 p, .int .i64 0, .int .i64 0, .int .i64 0, .int .i64 0, .int .i64 0, .int .i64 0, .int .i64 0, .int .i64 0, .int .i64 0, .int .i64 0, .int .i64 0, .int .i64 0, .int .i64 0, .int .i64 0] 134) = w1 at *
  generalize w.heap.size = b at *
  by_cases e10 : i = 10
  · subst e10
    clear hc
    go_wp2
    go_ret
    exact ⟨rfl, hk⟩
  · by_cases e11 : i = 11
    · subst e11
      clear hc
      go_wp2
      go_ret
      exact ⟨rfl, hk⟩
    · have n10 : ((i : Int) == 10) = false := by simp; omega
      have n11 : ((i : Int) == 11) = false := by simp; omega
      have h10 : i < 10 := by omega
      clear e10 e11
      go_wp2
      go_ret
      exact ⟨rfl, hk⟩
theorem eql_root (w : World) : (Go.binOp .eql 134 (.agg (nodeC 2 2 1)) (.agg (nodeC 0 0 0))).run Tryz.prog w = .ok (.bool false) w := by kernel_rfl
theorem eql_zero (w : World) : (Go.binOp .eql 134 (.agg (nodeC 0 0 0)) (.agg (nodeC 0 0 0))).run Tryz.prog w = .ok (.bool true) w := by kernel_rfl
set_option maxRecDepth 100000 in
set_option maxHeartbeats 4000000 in
theorem rfitsRoot_walk (w : World) : Calls Tryz.prog 199 #[.agg (nodeC 2 2 1)] w fun e w' => e = .returned (.bool true) ∧ Kept [] w w' := by
  have hm := heap_alloc_new w (.cells (nodeC 2 2 1) 134)
  have hk := (Kept.refl [] w).alloc (.cells (nodeC 2 2 1) 134)
  have hq := eql_root
  unfold nodeC at hm hk hq ⊢
  go_enter Tryz.func199, Tryz.ntmps199
  go_upto_region 1 with fail
  generalize w.alloc (.cells #[.int .i64 2, .int .i64 2, .int .i64 1, .int .i64 0, .int .i64 0, .int .i64 0, .int .i64 0, .int .i64 0, .int .i64 0, .int .i64 0, .int .i64 0, .int .i64 0, .int .i64 0, .int .i64 0, .int .i64 0, .int .i64 0, .int .i64 0] 134) = w1 at *
  generalize w.heap.size = b at *
  have HM := Lib.hid hm
  have HK := Lib.hid hk
  have c0 := cell_whole hm 0
  have c1 := cell_whole hm 1
  have c2 := cell_whole hm 2
  have c3 := cell_whole hm 3
  have c4 := cell_whole hm 4
  have bl := lt_whole hm
  simp only [List.getElem?_toArray, List.getElem?_cons_zero, List.getElem?_cons_succ] at c0 c1 c2 c3 c4
  clear hm hk
  go_wp2_with (refine wpList_load_row rfl 134 _ rfl b rfl 134 _ (0, 0) _ HM.out Tryz.underlying134 rfl size134 ?_)
  clear hq c0 c1 c2 c3 c4 bl
  go_loopw [3, 4] (fun v3 _ wr => ∃ k : Nat, k ≤ 12 ∧ v3 = .int .i64 k ∧ Kept [] w1 wr) (fun v3 _ _ => 12 - (intOf v3).toNat)
  case atStart => exact ⟨0, by omega, rfl, Kept.refl _ _⟩
  case round =>
    obtain ⟨k, hk, rfl, hkk⟩ := hrel
    have HKK := Lib.hid hkk
    by_cases hlt : k < 12
    · have HM2 := Lib.hid (hkk.keep HM.out (by simp))
      have HP := pointer_walk 2 2 1 k hlt wr
      unfold nodeC at HP
      have HPP := Lib.hid HP
      have bl := lt_whole HM2.out
      clear HP hkk
      go_wp2_with (refine wpList_load_row rfl 134 _ rfl b rfl 134 _ (0, 0) _ HM2.out Tryz.underlying134 rfl size134 ?_)
      refine HPP.out.mono ?_
      rintro e w2 ⟨rfl, hk2⟩
      have HK2 := Lib.hid (HKK.out.trans hk2 (by simp))
      clear hk2
      go_wp2
      go_roundw
      case rel => exact ⟨k + 1, by omega, by go_num, HK2.out⟩
      case measure => simp [intOf]; omega
    · obtain rfl : k = 12 := by omega
      clear hkk
      go_wp2
      go_ret
      exact ⟨rfl, HK.out.trans HKK.out (by simp)⟩
set_option maxRecDepth 100000 in
set_option maxHeartbeats 4000000 in
theorem rfitsZero_walk (w : World) : Calls Tryz.prog 199 #[.agg (nodeC 0 0 0)] w fun e w' => e = .returned (.bool true) ∧ Kept [] w w' := by
  have hm := heap_alloc_new w (.cells (nodeC 0 0 0) 134)
  have hk := (Kept.refl [] w).alloc (.cells (nodeC 0 0 0) 134)
  have hq := eql_zero
  unfold nodeC at hm hk hq ⊢
  go_enter Tryz.func199, Tryz.ntmps199
  go_upto_region 1 with fail
  generalize w.alloc (.cells #[.int .i64 0, .int .i64 0, .int .i64 0, .int .i64 0, .int .i64 0, .int .i64 0, .int .i64 0, .int .i64 0, .int .i64 0, .int .i64 0, .int .i64 0, .int .i64 0, .int .i64 0, .int .i64 0, .int .i64 0, .int .i64 0, .int .i64 0] 134) = w1 at *
  generalize w.heap.size = b at *
  have HM := Lib.hid hm
  have HK := Lib.hid hk
  have bl := lt_whole hm
  clear hm hk
  go_wp2_with (refine wpList_load_row rfl 134 _ rfl b rfl 134 _ (0, 0) _ HM.out Tryz.underlying134 rfl size134 ?_)
  go_ret
  exact ⟨rfl, HK.out⟩
def REncN (bs : List UInt8) (w : World) (e : Ending) (w' : World) : Prop := ∃ g, w.heap.size ≤ g ∧ e = .returned (.tuple #[.slice (some ⟨g, 0, none⟩) 128 128, .int .i64 0]) ∧ Bytes w' g bs ∧ Kept [] w w'
set_option maxRecDepth 100000 in
set_option maxHeartbeats 4000000 in
theorem rencZero_walk (w : World) : Calls Tryz.prog 178 #[.agg (nodeC 0 0 0)] w (REncN z128 w) := by
  have hm := heap_alloc_new w (.cells (nodeC 0 0 0) 134)
  have hk := (Kept.refl [] w).alloc (.cells (nodeC 0 0 0) 134)
  have HF := Lib.hid (rfitsZero_walk (w.alloc (.cells (nodeC 0 0 0) 134)))
  unfold nodeC at hm hk HF ⊢
  go_enter Tryz.func178, Tryz.ntmps178
  go_upto_region 1 with fail
  generalize w.alloc (.cells #[.int .i64 0, .int .i64 0, .int .i64 0, .int .i64 0, .int .i64 0, .int .i64 0, .int .i64 0, .int .i64 0, .int .i64 0, .int .i64 0, .int .i64 0, .int .i64 0, .int .i64 0, .int .i64 0, .int .i64 0, .int .i64 0, .int .i64 0] 134) = w1 at *
  have hbs : w.heap.size ≤ w1.heap.size := hk.size
  generalize hb : w.heap.size = b at *
  have HM := Lib.hid hm
  have HK := Lib.hid hk
  have HB := Lib.hid hb
  have bl := lt_whole hm
  clear hm hk hb
  go_wp2_with (refine wpList_load_row rfl 134 _ rfl b rfl 134 _ (0, 0) _ HM.out Tryz.underlying134 rfl size134 ?_)
  refine HF.out.mono ?_
  rintro e w2 ⟨rfl, hk2⟩
  have hm2 := hk2.keep HM.out (by simp)
  have c0 := cell_whole hm2 0
  have cl := lt_whole hm2
  simp only [List.getElem?_toArray, List.getElem?_cons_zero] at c0
  have HK2 := Lib.hid (HK.out.trans hk2 (by simp))
  have hms := make_node w2
  have hka := (Kept.refl [] w2).alloc (.cells (bcells z128).toArray 5)
  have hz : Bytes (w2.alloc (.cells (bcells z128).toArray 5)) w2.heap.size z128 := heap_alloc_new w2 _
  have hc0 : (w2.alloc (.cells (bcells z128).toArray 5)).cell? ⟨b, 0, none⟩ = some (.int .i64 0) := (cell_kept hka cl (by simp)).trans c0
  have HEND := Lib.hid (show REncN z128 w (.returned (.tuple #[.slice (some ⟨w2.heap.size, 0, none⟩) 128 128, .int .i64 0])) (w2.alloc (.cells (bcells z128).toArray 5)) from ⟨_, HK2.out.size, rfl, hz, HK2.out.trans hka (by simp)⟩)
  have cl2 : b < (w2.alloc (.cells (bcells z128).toArray 5)).heap.size := by rw [size_alloc]; omega
  clear hm2 hk2 hka hz HF
  go_wp2
  refine bodyPost_ret (results_tmp2 rfl _ _ _) rfl ?_
  exact HEND.out
end Go.Proofs.YtikfphojehgpjaaGreatDoor
/- vellumref2: EncodeNode of the root. -/
namespace Go.Proofs.YtikfphojehgpjaaGreatDoor
open Go.RowKit Vl Go.Maps Go.ChangeMaps
set_option linter.unusedVariables false
def rst : Nat → List UInt8
  | 0 => z128
  | 1 => over z128 0 (leB 2 1)
  | 2 => over (over z128 0 (leB 2 1)) 2 (leB 2 2)
  | _ => rootRaw
set_option maxRecDepth 100000 in
theorem rst3 : over (rst 2) 4 (leB 1 4) = rootRaw := by decide +kernel
set_option maxRecDepth 100000 in
theorem rst_len : ∀ k, k < 3 → (rst k).length = 128 := by decide +kernel
set_option maxRecDepth 100000 in
theorem rst16 : over rootRaw 16 (leB 0 4) = rootRaw := by decide +kernel
set_option maxRecDepth 100000 in
theorem rstk : ∀ k, k < 12 → over rootRaw (24 + 4 * k) (leB 0 4) = rootRaw := by decide +kernel
set_option maxRecDepth 100000 in
set_option maxHeartbeats 4000000 in
theorem rencRoot_walk (w : World) : Calls Tryz.prog 178 #[.agg (nodeC 2 2 1)] w (REncN rootB w) := by
  have hm := heap_alloc_new w (.cells (nodeC 2 2 1) 134)
  have hk := (Kept.refl [] w).alloc (.cells (nodeC 2 2 1) 134)
  have HF := Lib.hid (rfitsRoot_walk (w.alloc (.cells (nodeC 2 2 1) 134)))
  unfold nodeC at hm hk HF ⊢
  go_enter Tryz.func178, Tryz.ntmps178
  go_upto_region 1 with fail
  generalize w.alloc (.cells #[.int .i64 2, .int .i64 2, .int .i64 1, .int .i64 0, .int .i64 0, .int .i64 0, .int .i64 0, .int .i64 0, .int .i64 0, .int .i64 0, .int .i64 0, .int .i64 0, .int .i64 0, .int .i64 0, .int .i64 0, .int .i64 0, .int .i64 0] 134) = w1 at *
  have hbs : w.heap.size ≤ w1.heap.size := hk.size
  generalize hb : w.heap.size = b at *
  have HM := Lib.hid hm
  have HK := Lib.hid hk
  have HB := Lib.hid hb
  have bl := lt_whole hm
  clear hm hk hb
  go_wp2_with (refine wpList_load_row rfl 134 _ rfl b rfl 134 _ (0, 0) _ HM.out Tryz.underlying134 rfl size134 ?_)
  refine HF.out.mono ?_
  rintro e w2 ⟨rfl, hk2⟩
  have hs2 := hk2.size
  have HM2 := hk2.keep HM.out (by simp)
  have HK2 := Lib.hid (HK.out.trans hk2 (by simp))
  have hms := make_node w2
  have hka := (Kept.refl [] w2).alloc (.cells (bcells z128).toArray 5)
  have hz : Bytes (w2.alloc (.cells (bcells z128).toArray 5)) w2.heap.size z128 := heap_alloc_new w2 _
  have hbg : b ≠ w2.heap.size := by omega
  have HM3 := Lib.hid (hka.keep HM2 (by simp))
  have HZ := Lib.hid hz
  have HKA := Lib.hid hka
  have k0 := cell_whole HM3.out 0
  have kl := lt_whole HM3.out
  simp only [List.getElem?_toArray, List.getElem?_cons_zero] at k0
  have hgw : w.heap.size ≤ w2.heap.size := by rw [HB.out]; omega
  clear HM2 hk2 hka hz HF
  go_upto_region 6 with fail
  generalize w2.alloc (.cells (bcells z128).toArray 5) = w3 at *
  generalize w2.heap.size = g at *
  have HK3 := Lib.hid (Kept.refl [g] w3)
  clear hms k0 kl
  have sw4 : w3.cell? ⟨b, 0, none⟩ = some (.int .i64 2) := cell_whole HM3.out 0
  have slw4 := lt_whole HM3.out
  have HCw4 : Hid (Calls Tryz.prog 169 #[.slice (some ⟨g, 0, none⟩) 128 128, .int .i64 0, .int .i64 1, .int .i64 2] w3 fun e w' => e = .returned (.tuple #[]) ∧ Bytes w' g (over (rst 0) 0 (leB 2 1)) ∧ Kept [g] w3 w') := Lib.hid (rlay_walk (rst 0) g 128 0 1 2 128 w3 HZ.out (rst_len 0 (by omega)) (by omega) (by omega) (by omega) (by omega))
  go_wp2_with fail
  refine HCw4.out.mono ?_
  rintro e w4 ⟨rfl, hbw4, hqw4⟩
  have HBw4 := Lib.hid (show Bytes w4 g (rst 1) from hbw4)
  have HMw4 := Lib.hid (hqw4.keep HM3.out (by simp; exact hbg))
  have HKw4 := Lib.hid (HK3.out.trans hqw4 (by simp))
  clear hbw4 hqw4 HCw4 sw4 slw4
  have sw5 : w4.cell? ⟨b, 1, none⟩ = some (.int .i64 2) := cell_whole HMw4.out 1
  have slw5 := lt_whole HMw4.out
  have HCw5 : Hid (Calls Tryz.prog 169 #[.slice (some ⟨g, 0, none⟩) 128 128, .int .i64 2, .int .i64 2, .int .i64 2] w4 fun e w' => e = .returned (.tuple #[]) ∧ Bytes w' g (over (rst 1) 2 (leB 2 2)) ∧ Kept [g] w4 w') := Lib.hid (rlay_walk (rst 1) g 128 2 2 2 128 w4 HBw4.out (rst_len 1 (by omega)) (by omega) (by omega) (by omega) (by omega))
  go_wp2_with fail
  refine HCw5.out.mono ?_
  rintro e w5 ⟨rfl, hbw5, hqw5⟩
  have HBw5 := Lib.hid (show Bytes w5 g (rst 2) from hbw5)
  have HMw5 := Lib.hid (hqw5.keep HMw4.out (by simp; exact hbg))
  have HKw5 := Lib.hid (HKw4.out.trans hqw5 (by simp))
  clear hbw5 hqw5 HCw5 sw5 slw5
  have sw6 : w5.cell? ⟨b, 2, none⟩ = some (.int .i64 1) := cell_whole HMw5.out 2
  have slw6 := lt_whole HMw5.out
  have HCw6 : Hid (Calls Tryz.prog 169 #[.slice (some ⟨g, 0, none⟩) 128 128, .int .i64 4, .int .i64 4, .int .i64 1] w5 fun e w' => e = .returned (.tuple #[]) ∧ Bytes w' g (over (rst 2) 4 (leB 1 4)) ∧ Kept [g] w5 w') := Lib.hid (rlay_walk (rst 2) g 128 4 4 1 128 w5 HBw5.out (rst_len 2 (by omega)) (by omega) (by omega) (by omega) (by omega))
  go_wp2_with fail
  refine HCw6.out.mono ?_
  rintro e w6 ⟨rfl, hbw6, hqw6⟩
  have HBw6 := Lib.hid (show Bytes w6 g (rootRaw) from rst3 ▸ hbw6)
  have HMw6 := Lib.hid (hqw6.keep HMw5.out (by simp; exact hbg))
  have HKw6 := Lib.hid (HKw5.out.trans hqw6 (by simp))
  clear hbw6 hqw6 HCw6 sw6 slw6
  have sw7 : w6.cell? ⟨b, 3, none⟩ = some (.int .i64 0) := cell_whole HMw6.out 3
  have slw7 := lt_whole HMw6.out
  have HCw7 : Hid (Calls Tryz.prog 169 #[.slice (some ⟨g, 0, none⟩) 128 128, .int .i64 8, .int .i64 8, .int .i64 0] w6 fun e w' => e = .returned (.tuple #[]) ∧ Bytes w' g (over (rootRaw) 8 (leB 0 8)) ∧ Kept [g] w6 w') := Lib.hid (rlay_walk (rootRaw) g 128 8 8 0 128 w6 HBw6.out rootRaw_length (by omega) (by omega) (by omega) (by omega))
  go_wp2_with fail
  refine HCw7.out.mono ?_
  rintro e w7 ⟨rfl, hbw7, hqw7⟩
  have HBw7 := Lib.hid (show Bytes w7 g (rootRaw) from by have := hbw7; rw [raw0.1] at this; exact this)
  have HMw7 := Lib.hid (hqw7.keep HMw6.out (by simp; exact hbg))
  have HKw7 := Lib.hid (HKw6.out.trans hqw7 (by simp))
  clear hbw7 hqw7 HCw7 sw7 slw7
  have sw8 : w7.cell? ⟨b, 4, none⟩ = some (.int .i64 0) := cell_whole HMw7.out 4
  have slw8 := lt_whole HMw7.out
  have HCw8 : Hid (Calls Tryz.prog 169 #[.slice (some ⟨g, 0, none⟩) 128 128, .int .i64 16, .int .i64 4, .int .i64 0] w7 fun e w' => e = .returned (.tuple #[]) ∧ Bytes w' g (over (rootRaw) 16 (leB 0 4)) ∧ Kept [g] w7 w') := Lib.hid (rlay_walk (rootRaw) g 128 16 4 0 128 w7 HBw7.out rootRaw_length (by omega) (by omega) (by omega) (by omega))
  go_wp2_with fail
  refine HCw8.out.mono ?_
  rintro e w8 ⟨rfl, hbw8, hqw8⟩
  have HBw8 := Lib.hid (show Bytes w8 g (rootRaw) from by have := hbw8; rw [rst16] at this; exact this)
  have HMw8 := Lib.hid (hqw8.keep HMw7.out (by simp; exact hbg))
  have HKw8 := Lib.hid (HKw7.out.trans hqw8 (by simp))
  clear hbw8 hqw8 HCw8 sw8 slw8
  go_wp2
  go_loopw [5] (fun v5 wr => ∃ k : Nat, k ≤ 12 ∧ v5 = .int .i64 k ∧ Bytes wr g rootRaw ∧ Kept [g] w3 wr) (fun v5 _ => 12 - (intOf v5).toNat)
  case atStart => exact ⟨0, by omega, rfl, HBw8.out, HKw8.out⟩
  case round =>
    obtain ⟨k, hk, rfl, hbr, hkr⟩ := hrel
    have HBR := Lib.hid hbr
    have HKR := Lib.hid hkr
    by_cases hlt : k < 12
    · have HM9 := Lib.hid (hkr.keep HM3.out (by simp; exact hbg))
      have HP := pointer_walk 2 2 1 k hlt wr
      unfold nodeC at HP
      have HPP := Lib.hid HP
      have bl9 := lt_whole HM9.out
      clear HP hbr hkr
      go_wp2_with (refine wpList_load_row rfl 134 _ rfl b rfl 134 _ (0, 0) _ HM9.out Tryz.underlying134 rfl size134 ?_)
      refine HPP.out.mono ?_
      rintro e wp ⟨rfl, hkp⟩
      have HC : Hid (Calls Tryz.prog 169 #[.slice (some ⟨g, 0, none⟩) 128 128, .int .i64 ((24 + 4 * k : Nat) : Int), .int .i64 4, .int .i64 0] wp fun e w' => e = .returned (.tuple #[]) ∧ Bytes w' g (over rootRaw (24 + 4 * k) (leB 0 4)) ∧ Kept [g] wp w') := Lib.hid (rlay_walk rootRaw g 128 (24 + 4 * k) 4 0 128 wp (HBR.out.kept hkp (by simp)) rootRaw_length (by omega) (by omega) (by omega) (by omega))
      rw [rstk k hlt, show ((24 + 4 * k : Nat) : Int) = 24 + 4 * (k : Int) by omega] at HC
      have HKP := Lib.hid (HKR.out.trans hkp (by simp))
      clear hkp
      go_wp2_with fail
      refine HC.out.mono ?_
      rintro e wl ⟨rfl, hbl, hkl⟩
      have HBL := Lib.hid hbl
      have HKL := Lib.hid (HKP.out.trans hkl (by simp))
      clear hbl hkl HC
      go_wp2
      go_roundw
      case rel => exact ⟨k + 1, by omega, by go_num, HBL.out, HKL.out⟩
      case measure => simp [intOf]; omega
    · obtain rfl : k = 12 := by omega
      have hl124 : (rootRaw.take 124).length = 124 := by rw [List.length_take, rootRaw_length]; omega
      have hat : BytesAt wr (some ⟨g, 0, none⟩) (rootRaw.take 124) := by
        have := (Bytes.at hbr).sub 0 124
        rw [List.drop_zero] at this
        exact this
      have hsm := refSum_walk (rootRaw.take 124) (some ⟨g, 0, none⟩) 128 wr hat (by rw [hl124]; omega)
      rw [hl124] at hsm
      have HSM := Lib.hid hsm
      have hcr := crcOf_lt (rootRaw.take 124)
      have HC3 := Lib.hid (rlay_walk rootRaw g 128 124 4 (crcOf (rootRaw.take 124)) 128 wr hbr rootRaw_length (by omega) (by omega) (by omega) (by omega))
      have HRB := Lib.hid (show over rootRaw 124 (leB (crcOf (rootRaw.take 124)) 4) = rootB by
        unfold rootB sealedB
        rw [rootRaw_length])
      generalize crcOf (rootRaw.take 124) = cr at *
      clear hl124 hat hsm hbr hkr hlt hk
      go_wp2_with fail
      refine HSM.out.mono ?_
      rintro e wb ⟨rfl, rfl⟩
      go_wp2_with fail
      refine HC3.out.mono ?_
      rintro e wc ⟨rfl, hbc, hqc⟩
      rw [HRB.out] at hbc
      have HEND := Lib.hid (show REncN rootB w (.returned (.tuple #[.slice (some ⟨g, 0, none⟩) 128 128, .int .i64 0])) wc from ⟨g, hgw, rfl, hbc, (HK2.out.trans HKA.out (by simp)).trans (HKR.out.trans hqc (by simp)) (by simp; exact hgw)⟩)
      clear hbc hqc HC3 HSM
      go_wp2
      refine bodyPost_ret (results_tmp2 rfl _ _ _) rfl ?_
      exact HEND.out
end Go.Proofs.YtikfphojehgpjaaGreatDoor
