/- EncodeSuper. -/
import Derived.Test.YtikfphojehgpjaaGreatDoorM09
import Derived.Lib.BufferWrite
set_option linter.unusedSimpArgs false
set_option linter.unusedVariables false
namespace Go.Proofs.YtikfphojehgpjaaGreatDoor
open Go.RowKit Vl
set_option linter.unusedVariables false

def magicB : List UInt8 := [118, 101, 108, 108, 117, 109, 0, 1]
def stage (S L N : Nat) : Nat → List UInt8
  | 0 => over zsec 0 magicB
  | 1 => over (over zsec 0 magicB) 8 (leB S 4)
  | 2 => over (over (over zsec 0 magicB) 8 (leB S 4)) 12 (leB L 4)
  | _ => over (over (over (over zsec 0 magicB) 8 (leB S 4)) 12 (leB L 4)) 16 (leB N 4)
/-- A superblock. -/
def superB (S L N : Nat) : List UInt8 := sealedB (stage S L N 3)
theorem stage_length (S L N j : Nat) : (stage S L N j).length = 512 := by
  have h0 : (over zsec 0 magicB).length = 512 := by rw [over_length (by rw [zsec_length]; decide), zsec_length]
  have h1 : (over (over zsec 0 magicB) 8 (leB S 4)).length = 512 := by rw [over_length (by rw [leB_length, h0]; omega), h0]
  have h2 : (over (over (over zsec 0 magicB) 8 (leB S 4)) 12 (leB L 4)).length = 512 := by rw [over_length (by rw [leB_length, h1]; omega), h1]
  match j with
  | 0 => exact h0
  | 1 => exact h1
  | 2 => exact h2
  | n + 3 => show (over _ 16 (leB N 4)).length = 512; rw [over_length (by rw [leB_length, h2]; omega), h2]
theorem superB_length (S L N : Nat) : (superB S L N).length = 512 := by
  unfold superB
  rw [sealedB_length (by rw [stage_length]; omega), stage_length]

theorem copy_magic (w : World) (g : Nat) (ty : TypeId) (l : List UInt8) (hB : Bytes w g l) (hl : l.length = 512) :
    ∃ w', (Builtin.copy_ #[22, 9] ty #[.slice (some ⟨g, 0, none⟩) 512 512, .string ⟨#[118, 101, 108, 108, 117, 109, 0, 1]⟩]).run Tryz.prog w = .ok (.int .i64 8) w' ∧ Bytes w' g (over l 0 magicB) ∧ Kept [g] w w' := by
  have hr := Lib.run_copy_row_string (P := Tryz.prog) w 22 9 ty 5 g 0 512 512 ⟨#[118, 101, 108, 108, 117, 109, 0, 1]⟩ (bcells l).toArray 5 Tryz.underlying22 (by
    have hi := info5
    cases hq : Tryz.prog.info? 5 with
    | none => rw [hq] at hi; simp at hi
    | some i => rw [hq] at hi; simp at hi; simp [hi]) hB (by decide) (by simp [hl]; decide)
  refine ⟨_, hr, ?_, ?_⟩
  · unfold Bytes
    rw [setRow_heap w g _ _ 5 (0, 0) hB]
    have e1 : ((bcells l).toArray.toList.take 0 ++ Lib.byteCells (ByteArray.mk #[118, 101, 108, 108, 117, 109, 0, 1]).data.toList ++ (bcells l).toArray.toList.drop (0 + (ByteArray.mk #[118, 101, 108, 108, 117, 109, 0, 1]).size)) = bcells (over l 0 magicB) := by
      unfold over magicB
      simp [bcells, Lib.byteCells, List.map_drop]
      rfl
    rw [e1]
  · refine ⟨rfl, rfl, rfl, ?_, fun k hk hg => ?_⟩
    · show w.heap.size ≤ (w.heap.modify g _).size; simp
    · show (w.heap.modify g _)[k]? = w.heap[k]?
      rw [Array.getElem?_modify, if_neg (fun e => hg (by simp [e]))]

theorem index3_0 (a b c : Int) (w : World) : (Instr.index 169 (.agg #[.int .i64 a, .int .i64 b, .int .i64 c]) (.int .i64 0)).run Tryz.prog w = .ok (.int .i64 a) w := by kernel_rfl
theorem index3_1 (a b c : Int) (w : World) : (Instr.index 169 (.agg #[.int .i64 a, .int .i64 b, .int .i64 c]) (.int .i64 1)).run Tryz.prog w = .ok (.int .i64 b) w := by kernel_rfl
theorem index3_2 (a b c : Int) (w : World) : (Instr.index 169 (.agg #[.int .i64 a, .int .i64 b, .int .i64 c]) (.int .i64 2)).run Tryz.prog w = .ok (.int .i64 c) w := by kernel_rfl
def EncPost (S L N : Nat) (w : World) (e : Ending) (w' : World) : Prop := Kept [] w w' ∧ ∃ g, w.heap.size ≤ g ∧ e = .returned (.tuple #[.slice (some ⟨g, 0, none⟩) 512 512, .int .i64 0]) ∧ Bytes w' g (superB S L N)

theorem encodeSuper_bad (sec log nodes : Int) (w : World) (h1 : IntOk sec) (h2 : IntOk log) (h3 : IntOk nodes) (hg : geoOk sec log nodes = false) :
    Calls Tryz.prog 29 #[.agg #[.int .i64 sec, .int .i64 log, .int .i64 nodes]] w fun e w' => e = .returned (.tuple #[.slice none 0 0, .int .i64 22]) ∧ Kept [] w w' := by
  have HP := Lib.hid (plan_walk sec log nodes (w.alloc (.cells #[.int .i64 sec, .int .i64 log, .int .i64 nodes] 53)) h1 h2 h3)
  have HK1 := Lib.hid ((Kept.refl [] w).alloc (.cells #[.int .i64 sec, .int .i64 log, .int .i64 nodes] 53))
  have HL := Lib.hid (show layCells sec log nodes = #[.int .i64 0, .int .i64 0, .int .i64 0, .int .i64 0, .int .i64 0] by unfold layCells; rw [hg]; rfl)
  have HG := Lib.hid hg
  clear hg
  go_enter Tryz.func29, Tryz.ntmps29
  go_wp2_with fail
  refine HP.out.mono ?_
  rintro e w2 ⟨rfl, hk2⟩
  rw [HG.out, HL.out]
  simp only [Bool.false_eq_true, if_false]
  have HK2 := Lib.hid (HK1.out.trans hk2 (by simp))
  clear hk2
  go_wp2
  go_ret2
  exact ⟨rfl, HK2.out.alloc _⟩

set_option maxRecDepth 100000 in
set_option maxHeartbeats 2000000 in
theorem encodeSuper_walk (S L N : Nat) (w : World) (hg : geoOk S L N = true) :
    Calls Tryz.prog 29 #[.agg #[.int .i64 S, .int .i64 L, .int .i64 N]] w (EncPost S L N w) := by
  have hb : 18 ≤ L ∧ L ≤ 256 ∧ 4 ≤ N ∧ N ≤ 1024 ∧ S ≤ 2048 := by
    unfold geoOk at hg
    simp only [Bool.and_eq_true, decide_eq_true_eq] at hg
    omega
  have HP := Lib.hid (plan_walk S L N (w.alloc (.cells #[.int .i64 S, .int .i64 L, .int .i64 N] 53)) (by unfold IntOk; omega) (by unfold IntOk; omega) (by unfold IntOk; omega))
  have HK1 := Lib.hid ((Kept.refl [] w).alloc (.cells #[.int .i64 S, .int .i64 L, .int .i64 N] 53))
  have hA := heap_alloc_new w (.cells #[.int .i64 S, .int .i64 L, .int .i64 N] 53)
  obtain ⟨l0, l1, l2, l3, l4, hl⟩ : ∃ l0 l1 l2 l3 l4 : Int, layCells S L N = #[.int .i64 l0, .int .i64 l1, .int .i64 l2, .int .i64 l3, .int .i64 l4] := by
    unfold layCells; rw [hg]; exact ⟨_, _, _, _, _, rfl⟩
  have HL := Lib.hid hl
  have HG := Lib.hid hg
  clear hg hl
  go_enter Tryz.func29, Tryz.ntmps29
  go_wp2_with fail
  refine HP.out.mono ?_
  rintro e w2 ⟨rfl, hk2⟩
  rw [HG.out, HL.out]
  simp only [if_true]
  have HK2 := Lib.hid (HK1.out.trans hk2 (by simp))
  have HA := Lib.hid (hk2.keep hA (by simp))
  have hsz := hk2.size
  rw [size_alloc] at hsz
  clear hk2 hA
  go_upto_region 4 with fail
  have HK3 := Lib.hid (HK2.out.alloc (.cells #[.int .i64 l0, .int .i64 l1, .int .i64 l2, .int .i64 l3, .int .i64 l4] 94))
  have HA3 := Lib.hid (alloc_whole (o' := .cells #[.int .i64 l0, .int .i64 l1, .int .i64 l2, .int .i64 l3, .int .i64 l4] 94) HA.out)
  have hsz3 : w.heap.size + 1 ≤ (w2.alloc (.cells #[.int .i64 l0, .int .i64 l1, .int .i64 l2, .int .i64 l3, .int .i64 l4] 94)).heap.size := by rw [size_alloc]; omega
  generalize w2.alloc (.cells #[.int .i64 l0, .int .i64 l1, .int .i64 l2, .int .i64 l3, .int .i64 l4] 94) = w3 at *
  have hmk := make_sector w3
  go_upto_region 5 with fail
  have HB4 := Lib.hid (show Bytes ((w3.alloc (.cells (bcells zsec).toArray 5)).alloc (.cells #[.slice (some ⟨w3.heap.size, 0, none⟩) 512 512, .int .i64 0] 168)) w3.heap.size zsec from alloc_whole (heap_alloc_new w3 _))
  have hbk := heap_alloc_new (w3.alloc (.cells (bcells zsec).toArray 5)) (.cells #[.slice (some ⟨w3.heap.size, 0, none⟩) 512 512, .int .i64 0] 168)
  rw [size_alloc] at hbk
  have HBK := Lib.hid hbk
  have HK4 := Lib.hid ((HK3.out.alloc (.cells (bcells zsec).toArray 5)).alloc (.cells #[.slice (some ⟨w3.heap.size, 0, none⟩) 512 512, .int .i64 0] 168))
  have HA4 := Lib.hid (alloc_whole (o' := .cells #[.slice (some ⟨w3.heap.size, 0, none⟩) 512 512, .int .i64 0] 168) (alloc_whole (o' := .cells (bcells zsec).toArray 5) HA3.out))
  clear hmk hbk
  obtain ⟨g, hgq⟩ : ∃ g, g = w3.heap.size := ⟨_, rfl⟩
  simp only [← hgq] at *
  generalize (w3.alloc (.cells (bcells zsec).toArray 5)).alloc (.cells #[.slice (some ⟨g, 0, none⟩) 512 512, .int .i64 0] 168) = w4 at *
  clear hgq HA3 HK3
  have cb := cell_whole HBK.out 0
  have fb := frozen_whole HBK.out 1
  simp only [List.getElem?_toArray, List.getElem?_cons_zero] at cb
  have hlg := lt_whole HB4.out
  have hlp := lt_whole HBK.out
  obtain ⟨w5, hcp, hb5, hk5⟩ := copy_magic w4 g 3 zsec HB4.out zsec_length
  have HB5 := Lib.hid hb5
  have HBK5 := Lib.hid (hk5.keep HBK.out (by simp))
  have HA5 := Lib.hid (hk5.keep HA4.out (by simp; omega))
  have HK5 := Lib.hid (HK4.out.trans hk5 (by simp; omega))
  have f5 := frozen_whole HBK5.out 1
  have hlp5 := lt_whole HBK5.out
  have c5 := cell_whole HBK5.out 1
  simp only [List.getElem?_toArray, List.getElem?_cons_zero, List.getElem?_cons_succ] at c5
  clear hb5 hk5
  go_upto_region 6 with fail
  clear hcp cb fb f5 c5
  have HW6 := Lib.hid (show WrAt (w5.setCell ⟨g + 1, 1, none⟩ (.int .i64 8)) (g + 1) g (stage S L N 0) 8 from
    ⟨by rw [set_whole (i := 1) HBK5.out, stage_length]; rfl, set_other HB5.out (by show g + 1 ≠ g; omega), by omega⟩)
  have HK6 := Lib.hid (HK5.out.setCell ⟨g + 1, 1, none⟩ (.int .i64 8) (.inr (by show _ ≤ g + 1; omega)))
  have HA6 := Lib.hid (set_other (p := ⟨g + 1, 1, none⟩) (v := .int .i64 8) HA5.out (by show g + 1 ≠ _; omega))
  generalize w5.setCell ⟨g + 1, 1, none⟩ (.int .i64 8) = w6 at *
  have a0 := cell_whole HA6.out 0
  have a1 := cell_whole HA6.out 1
  have a2 := cell_whole HA6.out 2
  simp only [List.getElem?_toArray, List.getElem?_cons_zero, List.getElem?_cons_succ] at a0 a1 a2
  have hla := lt_whole HA6.out
  go_wp2_with fail
  clear a0 a1 a2
  have hbase : w.heap.size ≤ g ∧ w.heap.size ≤ g + 1 := by omega
  go_loopw [35] (fun v35 wr => ∃ j : Nat, j ≤ 3 ∧ v35 = .int .i64 j ∧ WrAt wr (g + 1) g (stage S L N j) (8 + 4 * j) ∧ Kept [] w wr) (fun v35 _ => 3 - (intOf v35).toNat)
  case atStart => exact ⟨0, by omega, rfl, HW6.out, HK6.out⟩
  case round =>
    obtain ⟨j, hj, rfl, hw, hk⟩ := hrel
    have hsl := stage_length S L N j
    have HW := Lib.hid hw
    have HK := Lib.hid hk
    clear hw hk
    rcases (show j = 0 ∨ j = 1 ∨ j = 2 ∨ j = 3 by omega) with rfl | rfl | rfl | rfl
    · have hix := index3_0 S L N wr
      have HN := Lib.hid (wnum_walk (g + 1) g (stage S L N 0) 8 S 4 wr HW.out (by omega) (by omega) (by omega) (by omega))
      go_wp2_with fail
      refine HN.out.mono ?_
      rintro e w7 ⟨rfl, hw7, hk7⟩
      have HW7 := Lib.hid hw7
      have HK7 := Lib.hid (HK.out.trans hk7 (by simp; omega))
      clear hw7 hk7
      go_wp2
      go_roundw
      case rel => exact ⟨1, by omega, rfl, HW7.out, HK7.out⟩
      case measure => simp [intOf]
    · have hix := index3_1 S L N wr
      have HN := Lib.hid (wnum_walk (g + 1) g (stage S L N 1) 12 L 4 wr HW.out (by omega) (by omega) (by omega) (by omega))
      go_wp2_with fail
      refine HN.out.mono ?_
      rintro e w7 ⟨rfl, hw7, hk7⟩
      have HW7 := Lib.hid hw7
      have HK7 := Lib.hid (HK.out.trans hk7 (by simp; omega))
      clear hw7 hk7
      go_wp2
      go_roundw
      case rel => exact ⟨2, by omega, rfl, HW7.out, HK7.out⟩
      case measure => simp [intOf]
    · have hix := index3_2 S L N wr
      have HN := Lib.hid (wnum_walk (g + 1) g (stage S L N 2) 16 N 4 wr HW.out (by omega) (by omega) (by omega) (by omega))
      go_wp2_with fail
      refine HN.out.mono ?_
      rintro e w7 ⟨rfl, hw7, hk7⟩
      have HW7 := Lib.hid hw7
      have HK7 := Lib.hid (HK.out.trans hk7 (by simp; omega))
      clear hw7 hk7
      go_wp2
      go_roundw
      case rel => exact ⟨3, by omega, rfl, HW7.out, HK7.out⟩
      case measure => simp [intOf]
    · have HS := Lib.hid (sealed_walk (g + 1) g (stage S L N 3) 20 wr HW.out (by omega) (by omega))
      rw [hsl] at HS
      go_wp2_with fail
      refine HS.out.mono ?_
      rintro e w7 ⟨rfl, hw7, hk7⟩
      have HB7 := Lib.hid (show Bytes w7 g (superB S L N) from hw7.bytes)
      have HK7 := Lib.hid (HK.out.trans hk7 (by simp; omega))
      clear hw7 hk7
      go_wp2
      go_ret2
      exact ⟨HK7.out, g, by omega, rfl, HB7.out⟩
end Go.Proofs.YtikfphojehgpjaaGreatDoor
