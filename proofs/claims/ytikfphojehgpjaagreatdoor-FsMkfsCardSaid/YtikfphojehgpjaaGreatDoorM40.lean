/- vellumref13: Grown: the empty tree. -/
import Derived.Test.YtikfphojehgpjaaGreatDoorM38
import Derived.Deep.RegionHeld3
set_option linter.unusedSimpArgs false
set_option linter.unusedVariables false
namespace Go.Proofs.YtikfphojehgpjaaGreatDoor
open Go.RowKit Vl Go.Maps Go.ChangeMaps
set_option linter.unusedVariables false
set_option linter.unusedSimpArgs false
def GrownPost (Y : Lay) (w : World) (e : Ending) (w' : World) : Prop := ∃ a c, e = .returned (.tuple #[.agg (treeC (Y.blocks - Y.data) a Y.nodes c), .bool true]) ∧ Things w' a Y.nodes ∧ Kept [] w w'
set_option maxRecDepth 100000 in
set_option maxHeartbeats 4000000 in
theorem grown_walk (Y : Lay) (ba nb cb : Nat) (f : Nat → List UInt8) (w : World) (hh : RHome w ba nb f) (hnb : 2 + (Y.nodes + 3) / 4 ≤ nb) (hN : 1 ≤ Y.nodes ∧ Y.nodes ≤ 1024)
    (hd1 : 0 < Y.data) (hY : Y.data ≤ Y.blocks ∧ Y.blocks ≤ 4000) (f0 : ∀ i, i < 4096 → bitOf (f 0) i = decide (i < Y.data)) (f1 : ∀ i, i < 4096 → bitOf (f 1) i = decide (i = 0))
    (hr : cutB (f 2) 0 128 = rootB) (hz : ∀ k, 2 ≤ k → k ≤ Y.nodes → cutB (f (2 + (k - 1) / 4)) ((k - 1) % 4 * 128) 128 = z128) :
    Calls Tryz.prog 27 #[.agg (homeC Y ba nb cb)] w (GrownPost Y w) := by
  have HF0 := Lib.hid f0
  have HF1 := Lib.hid f1
  have HR := Lib.hid hr
  have HZ := Lib.hid hz
  have hka := ((Kept.refl [] w).alloc (.cells (homeC Y ba nb cb) 97)).alloc (.cells #[.int .i64 0, .slice none 0 0] 32)
  have hb0 := alloc_whole (heap_alloc_new w (.cells (homeC Y ba nb cb) 97)) (o' := .cells #[.int .i64 0, .slice none 0 0] 32)
  have hb1 := heap_alloc_new (w.alloc (.cells (homeC Y ba nb cb) 97)) (.cells #[.int .i64 0, .slice none 0 0] 32)
  rw [size_alloc] at hb1
  have HHW := Lib.hid hh
  have HL := Lib.hid (show ((w.alloc (.cells (homeC Y ba nb cb) 97)).alloc (.cells #[.int .i64 0, .slice none 0 0] 32)).heap.size = w.heap.size + 2 by rw [size_alloc, size_alloc])
  unfold homeC at *
  clear hh f0 f1 hr hz
  go_enter Tryz.func27, Tryz.ntmps27
  go_upto_region 1 with fail
  generalize (w.alloc (.cells #[.int .i64 Y.log, .int .i64 Y.home, .int .i64 Y.blocks, .int .i64 Y.nodes, .int .i64 Y.data, .slice (some ⟨ba, 0, none⟩) nb cb] 97)).alloc (.cells #[.int .i64 0, .slice none 0 0] 32) = w1 at *
  have hl1 : w1.heap.size = w.heap.size + 2 := HL.out
  generalize hwb : w.heap.size = b at *
  have HSM := Lib.hid hwb
  clear hwb
  have HL1 := Lib.hid hl1
  clear HL
  have HK := Lib.hid hka
  have HB0 := Lib.hid hb0
  have HB1 := Lib.hid hb1
  have HS : ∀ w' : World, w'.heap[b]? = w1.heap[b]? → w'.cell? ⟨b, 0, none⟩ = some (.int .i64 Y.log) ∧ w'.cell? ⟨b, 1, none⟩ = some (.int .i64 Y.home) ∧ w'.cell? ⟨b, 2, none⟩ = some (.int .i64 Y.blocks) ∧ w'.cell? ⟨b, 3, none⟩ = some (.int .i64 Y.nodes) ∧ w'.cell? ⟨b, 4, none⟩ = some (.int .i64 Y.data) := fun w' h => ⟨cell_whole (h.trans hb0) 0, cell_whole (h.trans hb0) 1, cell_whole (h.trans hb0) 2, cell_whole (h.trans hb0) 3, cell_whole (h.trans hb0) 4⟩
  have e0 := HS w1.drew rfl
  have eA := fun o : Obj => HS (w1.alloc o).drew ((alloc_whole hb0).trans hb0.symm)
  have eB := fun o o' : Obj => HS ((w1.alloc o).alloc o').drew ((alloc_whole (alloc_whole hb0)).trans hb0.symm)
  have hms : ∀ w' : World, (Instr.makeSlice 150 (.int .i64 Y.blocks) (.int .i64 Y.blocks)).run Tryz.prog w' = .ok (.slice (some ⟨w'.heap.size, 0, none⟩) Y.blocks Y.blocks) (w'.alloc (.cells (List.replicate Y.blocks (Value.bool false)).toArray 4)) := fun w' => make_marks w' Y.blocks (by omega)
  generalize hzz : (List.replicate Y.blocks (Value.bool false)).toArray = Z at *
  have HZZ := Lib.hid hzz
  clear hzz hb0 hb1 hka hl1 HS
  go_region_held3 (fun w' => w'.cell? ⟨b, 0, none⟩ = some (.int .i64 Y.log) ∧ w'.cell? ⟨b, 1, none⟩ = some (.int .i64 Y.home) ∧ w'.cell? ⟨b, 2, none⟩ = some (.int .i64 Y.blocks) ∧ w'.cell? ⟨b, 3, none⟩ = some (.int .i64 Y.nodes) ∧ w'.cell? ⟨b, 4, none⟩ = some (.int .i64 Y.data))
    (first
      | (with_reducible exact e0)
      | (with_reducible exact eA _)
      | (with_reducible exact eB _ _))
    (fail)
  rename_i hX
  clear e0 eA eB hms hX
  rw [HL1.out]
  generalize hW2 : ((w1.alloc (.cells Z 4)).alloc (.cells #[.int .i64 Y.log, .int .i64 Y.home, .int .i64 Y.blocks, .int .i64 Y.nodes, .int .i64 Y.data, .slice (some ⟨b + 2, 0, none⟩) Y.blocks Y.blocks] 152)).drew = W2
  have hk2 : Kept [] w1 W2 := by rw [← hW2]; exact (((Kept.refl [] w1).alloc _).alloc _).drew
  have hs2 : W2.heap.size = b + 4 := by rw [← hW2, size_drew, size_alloc, size_alloc, HL1.out]
  have ht2 : W2.heap[b + 3]? = some (.cells (takenC Y (b + 2) Y.blocks) 152 (0, 0)) := by
    rw [← hW2, drew_heap]; exact alloc_hit (by rw [size_alloc, HL1.out])
  have hm2 : Marks W2 (b + 2) Y.blocks := marks_row HZZ.out.symm (by rw [← hW2, drew_heap]; exact alloc_whole (alloc_hit (by rw [HL1.out])))
  have hb0 := hk2.keep HB0.out (by simp)
  have hb1 := hk2.keep HB1.out (by simp)
  have HK2 := Lib.hid (HK.out.trans hk2 (by simp))
  have c2 := cell_whole hb0 2
  have c3 := cell_whole hb0 3
  have c4 := cell_whole hb0 4
  simp only [List.getElem?_toArray, List.getElem?_cons_zero, List.getElem?_cons_succ] at c2 c3 c4
  clear hW2 hk2 HK HB0 HB1 HL1 HZZ w1 Z
  have HM2 := Lib.hid hm2
  have HT2 := Lib.hid ht2
  have HB0 := Lib.hid hb0
  have HB1 := Lib.hid hb1
  have HS2 := Lib.hid hs2
  clear hm2 ht2 hb0 hb1
  rw [show b + 2 + 1 = b + 3 from rfl]
  have hn5 := heap_alloc_new W2 (.cells #[.int .i64 0, .slice none 0 0] 32)
  rw [hs2] at hn5
  have HN5 := Lib.hid hn5
  clear hn5
  go_upto_region 3 with (refine wpList_store_row rfl 32 _ _ rfl (b + 4) #[.int .i64 ((Y.blocks : Int) - Y.data), .slice none 0 0] rfl rfl 32 _ HN5.out size32 rfl rfl ?_)
  have hp5 := heap_alloc_new W2 (.cells #[.int .i64 ((Y.blocks : Int) - Y.data), .slice none 0 0] 32)
  rw [hs2] at hp5
  have hk3 := (Kept.refl [] W2).alloc (.cells #[.int .i64 ((Y.blocks : Int) - Y.data), .slice none 0 0] 32)
  have hs3 : (W2.alloc (.cells #[.int .i64 ((Y.blocks : Int) - Y.data), .slice none 0 0] 32)).heap.size = b + 5 := by rw [size_alloc, hs2]
  generalize W2.alloc (.cells #[.int .i64 ((Y.blocks : Int) - Y.data), .slice none 0 0] 32) = W3 at *
  generalize hcap : (Y.blocks : Int) - Y.data = cap at *
  have HCAP := Lib.hid hcap
  clear hcap
  have HP5 := Lib.hid hp5
  have HB3 := Lib.hid (hk3.keep HB0.out (by simp))
  have HR3 := Lib.hid (hk3.keep HB1.out (by simp))
  have HT3 := Lib.hid (hk3.keep HT2.out (by simp))
  have HM3 := Lib.hid (HM2.out.kept hk3)
  have HK3 := Lib.hid (HK2.out.trans hk3 (by simp))
  have HS3 := Lib.hid hs3
  clear HN5 hp5 hk3 hs3 hs2 c2 c3 c4 HS2 HB0 HB1 HT2 HM2 HK2 W2
  go_wp2
  go_loopw [6, 7, 8] (fun v6 _ _ wr => ∃ (k : Nat) (v : Value), 1 ≤ k ∧ k ≤ Y.nodes + 1 ∧ v6 = .int .i64 k ∧ wr.heap[b + 4]? = some (.cells #[.int .i64 cap, v] 32 (0, 0)) ∧ wr.ownsRow (b + 5) 50 7 v (k - 1) (thingsL (k - 1)) ∧ Kept [b + 4] W3 wr) (fun v6 _ _ _ => Y.nodes + 1 - (intOf v6).toNat)
  case atStart => exact ⟨1, .slice none 0 0, by omega, by omega, rfl, HP5.out, World.ownsRow_nil _ _ _ _, Kept.refl _ _⟩
  case round =>
    obtain ⟨k, v, hk1, hk2, rfl, hp5, hown, hkr⟩ := hrel
    have hb0 := hkr.keep HB3.out (by simp)
    have c3 := cell_whole hb0 3
    simp only [List.getElem?_toArray, List.getElem?_cons_zero, List.getElem?_cons_succ] at c3
    have HKR := Lib.hid hkr
    have HP5 := Lib.hid hp5
    have HOWN := Lib.hid hown
    have HB0 := Lib.hid hb0
    have HKW := Lib.hid (HK3.out.trans hkr (by have := HSM.out; simp; omega))
    clear hkr hp5 hown hb0
    by_cases hlt : k < Y.nodes + 1
    · have HG : Hid (Calls Tryz.prog 75 #[.pointer (some ⟨b + 3, 0, none⟩), .agg (homeC Y ba nb cb), .int .i64 k] wr fun e w' => e = .returned (.tuple #[.agg (thingI (k - 1)), .bool true]) ∧ Kept [] wr w') := Lib.hid (by
        have hh := HHW.out.kept HKW.out
        by_cases h1 : k = 1
        · subst h1
          exact grownRoot_walk (b + 3) Y ba nb cb f wr hh (by omega) HR.out
        · have := grownZero_walk (b + 3) Y ba nb cb f k wr hh (by omega) (by omega) (by omega) (HZ.out k (by omega) (by omega))
          rw [show thingI (k - 1) = thingC 0 0 0 by unfold thingI; rw [if_neg (by omega)]]
          exact this)
      obtain ⟨x, y, z, hx⟩ := thingI_form (k - 1)
      rw [hx] at HG
      have HX := Lib.hid hx
      clear hx
      unfold homeC thingC at HG
      go_wp2_with (refine wpList_load_row rfl 97 _ rfl b rfl 97 _ (0, 0) _ HB0.out Tryz.underlying97 rfl size97 ?_)
      refine HG.out.mono ?_
      rintro e v1 ⟨rfl, hk5⟩
      have hnew := heap_alloc_new v1 (.cells (thingC 0 0 0) 50)
      have hp5 := alloc_whole (o' := .cells (thingC x y z) 50) (hk5.keep HP5.out (by simp))
      have hth := heap_alloc_new v1 (.cells (thingC x y z) 50)
      have hown := row_kept HOWN.out (hk5.alloc (.cells (thingC x y z) 50)) (by simp)
      have hkr := HKR.out.trans (hk5.alloc (.cells (thingC x y z) 50)) (by simp)
      have hsz := hk5.size
      have hwz := HKR.out.size
      have HNEW := Lib.hid hnew
      clear hnew
      unfold thingC at *
      go_upto_region 9 with (refine wpList_store_row rfl 50 _ _ rfl v1.heap.size #[.int .i64 x, .int .i64 y, .int .i64 z, .int .i64 0, .slice none 0 0, .slice none 0 0, .int .i64 0] rfl rfl 50 _ HNEW.out size50 rfl rfl ?_)
      have hkr2 := hkr
      generalize hn0 : v1.heap.size = n0 at *
      generalize v1.alloc (.cells #[.int .i64 x, .int .i64 y, .int .i64 z, .int .i64 0, .slice none 0 0, .slice none 0 0, .int .i64 0] 50) = v2 at *
      have HTH := Lib.hid hth
      have c1 := cell_whole hp5 1
      simp only [List.getElem?_toArray, List.getElem?_cons_zero, List.getElem?_cons_succ] at c1
      have l5 := lt_whole hp5
      have hb5 : b + 5 ≤ v2.heap.size := Nat.le_trans (by rw [HS3.out]; exact Nat.le_refl _) hkr.size
      have HP5b := Lib.hid hp5
      have HOWNb := Lib.hid hown
      have HKRb := Lib.hid hkr
      obtain ⟨i0, hi0, hz0, hz1, hz2⟩ := info_parts info50
      clear hth hp5 hown hkr hkr2 HG HOWN HKR HKW HP5 HB0 hk5 HNEW hsz hwz hn0
      go_wp2_with (first | (refine wpList_load_row rfl 50 _ rfl n0 rfl 50 _ (0, 0) _ HTH.out Tryz.underlying50 rfl size50 ?_) | (at_builtin; refine wpList_append_own _ rfl _ _ 30 rfl (b + 5) 50 i0 (.agg #[.int .i64 0, .int .i64 0, .int .i64 0, .int .i64 0, .slice none 0 0, .slice none 0 0, .int .i64 0]) 7 88 Tryz.underlying30 hi0 hz0 hz1 hz2 rfl (by decide) _ (k - 1) _ rfl (World.ownsRow.alloc HOWNb.out _) ⟨v2.heap.size, 0, none⟩ 1 1 [.int .i64 x, .int .i64 y, .int .i64 z, .int .i64 0, .slice none 0 0, .slice none 0 0, .int .i64 0] rfl rfl (new_cells _ _ _ _ rfl) (thing_cells x y z) (by unfold maxLen; omega) (by omega) (le_alloc hb5 _) ?_))
      intro v10 w10 h10 hg10 _
      obtain ⟨a10, d10, hv10⟩ := row_form h10
      have hp10 := grown_whole hg10 (alloc_whole HP5b.out) (fun e => by have := (row_blk HOWNb.out e).1; omega)
      have hk10 := ((HKRb.out.alloc _).grown hg10 (fun j hj => .inr (by have := (row_blk HOWNb.out hj).1; rw [HS3.out]; exact this))).setCell ⟨b + 4, 1, none⟩ v10 (.inl (by simp))
      have hpc := set_whole (i := 1) hp10 v10
      have hoc := row_kept (h10) ((Kept.refl [b + 4] w10).setCell ⟨b + 4, 1, none⟩ v10 (.inl (by simp))) (by simp)
      have hsl : thingsL (k - 1) ++ [.int .i64 x, .int .i64 y, .int .i64 z, .int .i64 0, .slice none 0 0, .slice none 0 0, .int .i64 0] = thingsL k := by
        have h := HX.out
        obtain ⟨q, rfl⟩ : ∃ q, k = q + 1 := ⟨k - 1, by omega⟩
        rw [Nat.add_sub_cancel] at h ⊢
        rw [thingsL, h]
      rw [hsl] at hoc
      have c1 := cell_whole hp10 1
      have f1 := frozen_whole hp10 1
      have l1 := lt_whole hp10
      simp only [List.getElem?_toArray, List.getElem?_cons_zero, List.getElem?_cons_succ] at c1
      have HPC := Lib.hid hpc
      have HOC := Lib.hid hoc
      have HKC := Lib.hid hk10
      clear hp10 hk10 hpc hoc h10 hg10 HP5b HOWNb HKRb HTH hsl
      subst hv10
      go_wp2
      go_roundw
      case rel => exact ⟨k + 1, _, by omega, by omega, by go_num, HPC.out, HOC.out, HKC.out⟩
      case measure => simp [intOf]; omega
    · obtain rfl : k = Y.nodes + 1 := by omega
      have hown := HOWN.out
      rw [Nat.add_sub_cancel] at hown
      obtain ⟨g, c, rfl, hg5, hgl⟩ := row_some hown (by omega)
      have hth := things_own hown
      have hc0 : wr.cell? ⟨g, 0, none⟩ = some (.int .i64 2) := hth.cell (i := 0) (by omega) 0 (.int .i64 2) rfl
      have HTH := Lib.hid hth
      have c1 := cell_whole HP5.out 1
      have c0 := cell_whole HP5.out 0
      have l5 := lt_whole HP5.out
      have d0 := cell_whole HB0.out 0
      have d1 := cell_whole HB0.out 1
      have d2 := cell_whole HB0.out 2
      have d4 := cell_whole HB0.out 4
      have d5 := cell_whole HB0.out 5
      have lb := lt_whole HB0.out
      simp only [List.getElem?_toArray, List.getElem?_cons_zero, List.getElem?_cons_succ] at c1 c0 d0 d1 d2 d4 d5
      have HMP := Lib.hid (maps_walk Y (b + 3) (b + 2) Y.blocks ba nb cb g Y.nodes c cap f wr (HKR.out.keep HT3.out (by simp)) (HM3.out.kept2 HKR.out (by simp)) (HHW.out.kept HKW.out) (by omega) hth ⟨by omega, by omega⟩ hd1 ⟨by omega, by omega⟩ HF0.out HF1.out)
      unfold homeC treeC at HMP
      clear hown hth HOWN
      go_wp2_with fail
      refine HMP.out.mono ?_
      rintro e v1 ⟨rfl, hk5⟩
      have HEN := Lib.hid (entries_walk cap g Y.nodes c v1 (HTH.out.kept hk5) (by omega) (by omega))
      unfold treeC at HEN
      have HP51 := Lib.hid (hk5.keep HP5.out (by simp))
      have HB01 := Lib.hid (hk5.keep HB0.out (by simp))
      have HTH1 := Lib.hid (HTH.out.kept hk5)
      have HKW1 := Lib.hid (HKW.out.trans hk5 (by simp))
      have HR1 := Lib.hid (hk5.keep (HKR.out.keep HR3.out (by simp)) (by simp))
      clear c0 c1 l5 d0 d1 d2 d4 d5 lb c3 hc0 hk5 HMP HTH HP5 HB0 HKW HKR
      go_wp2_with (refine wpList_load_row rfl 32 _ rfl (b + 4) rfl 32 _ (0, 0) _ HP51.out Tryz.underlying32 rfl size32 ?_)
      refine HEN.out.mono ?_
      rintro e v2 ⟨ca, fa, da, rfl, hca, hda, hk6⟩
      have hnew := heap_alloc_new v2 (.cells #[.slice none 0 0, .slice none 0 0, .slice none 0 0] 158)
      have hnm := heap_alloc_new v2 (.cells (namesC ca fa da (Y.nodes + 1)) 158)
      have hk7 := hk6.alloc (.cells (namesC ca fa da (Y.nodes + 1)) 158)
      have hk8 := (Kept.refl [] v2).alloc (.cells (namesC ca fa da (Y.nodes + 1)) 158)
      have HP52 := Lib.hid (hk7.keep HP51.out (by simp))
      have HB02 := Lib.hid (hk7.keep HB01.out (by simp))
      have HR2 := Lib.hid (hk7.keep HR1.out (by simp))
      have HTH2 := Lib.hid (HTH1.out.kept hk7)
      have HCA := Lib.hid (hca.kept hk8)
      have HDA := Lib.hid (hda.kept hk8)
      have HKW2 := Lib.hid (HKW1.out.trans hk7 (by simp))
      have HNEW := Lib.hid hnew
      have HNM := Lib.hid hnm
      clear hnew hnm hk6 hk7 hk8 hca hda HEN HP51 HB01 HTH1 HKW1 HR1
      unfold namesC at *
      go_upto_region 15 with (refine wpList_store_row rfl 158 _ _ rfl v2.heap.size #[.slice (some ⟨ca, 0, none⟩) (Y.nodes + 1) (Y.nodes + 1), .slice (some ⟨fa, 0, none⟩) (Y.nodes + 1) (Y.nodes + 1), .slice (some ⟨da, 0, none⟩) (Y.nodes + 1) (Y.nodes + 1)] rfl rfl 158 _ HNEW.out size158 rfl rfl ?_)
      generalize v2.heap.size = n9 at *
      generalize v2.alloc (.cells #[.slice (some ⟨ca, 0, none⟩) (Y.nodes + 1) (Y.nodes + 1), .slice (some ⟨fa, 0, none⟩) (Y.nodes + 1) (Y.nodes + 1), .slice (some ⟨da, 0, none⟩) (Y.nodes + 1) (Y.nodes + 1)] 158) = v3 at *
      clear HNEW
      go_wp2
      go_loopw [11] (fun v11 wr => ∃ k : Nat, 1 ≤ k ∧ k ≤ Y.nodes + 1 ∧ v11 = .int .i64 k ∧ Kept [] v3 wr) (fun v11 _ => Y.nodes + 1 - (intOf v11).toNat)
      case atStart => exact ⟨1, by omega, by omega, rfl, Kept.refl _ _⟩
      case round =>
        obtain ⟨k, hk1, hk2, rfl, hkr⟩ := hrel
        have HP53 := Lib.hid (hkr.keep HP52.out (by simp))
        have HNM3 := Lib.hid (hkr.keep HNM.out (by simp))
        have hb03 := hkr.keep HB02.out (by simp)
        have c3 := cell_whole hb03 3
        have lb := lt_whole hb03
        simp only [List.getElem?_toArray, List.getElem?_cons_zero, List.getElem?_cons_succ] at c3
        have HTH3 := Lib.hid (HTH2.out.kept hkr)
        have HR3 := Lib.hid (hkr.keep HR2.out (by simp))
        have HKR3 := Lib.hid hkr
        have HKW3 := Lib.hid (HKW2.out.trans hkr (by simp))
        have HCA3 := Lib.hid (HCA.out.kept hkr)
        have HDA3 := Lib.hid (HDA.out.kept hkr)
        clear hkr hb03
        by_cases hlt : k < Y.nodes + 1
        · have HHG := Lib.hid (hangs_walk cap g Y.nodes c k ca fa da _ HTH3.out hk1 (by omega) (by omega) HCA3.out HDA3.out)
          unfold treeC namesC at HHG
          go_wp2_with (first | (refine wpList_load_row rfl 32 _ rfl (b + 4) rfl 32 _ (0, 0) _ HP53.out Tryz.underlying32 rfl size32 ?_) | (refine wpList_load_row rfl 158 _ rfl n9 rfl 158 _ (0, 0) _ HNM3.out Tryz.underlying158 rfl size158 ?_))
          refine HHG.out.mono ?_
          rintro e v4 ⟨rfl, hk7⟩
          have HK7 := Lib.hid (HKR3.out.trans hk7 (by simp))
          clear hk7
          go_wp2
          go_roundw
          case rel => exact ⟨k + 1, by omega, by omega, by go_num, HK7.out⟩
          case measure => simp [intOf]; omega
        · obtain rfl : k = Y.nodes + 1 := by omega
          have HONE := Lib.hid (show ((#[.int .i64 cap, .slice (some ⟨g, 0, none⟩) Y.nodes c] : Array Value).all (·.oneCell') = true) by simp [Value.oneCell'])
          have HRR := Lib.hid (setRow_heap wr (b + 1) _ #[.int .i64 cap, .slice (some ⟨g, 0, none⟩) Y.nodes c] 32 (0, 0) HR3.out)
          have HKS := Lib.hid (HKW3.out.trans (kept_setRow wr (b + 1) #[.int .i64 cap, .slice (some ⟨g, 0, none⟩) Y.nodes c]) (by simp; have := HSM.out; omega))
          have HTS := Lib.hid (HTH3.out.keep2 (kept_setRow wr (b + 1) #[.int .i64 cap, .slice (some ⟨g, 0, none⟩) Y.nodes c]) (by simp; omega))
          go_wp2_with (first | (refine wpList_load_row rfl 32 _ rfl (b + 4) rfl 32 _ (0, 0) _ HP53.out Tryz.underlying32 rfl size32 ?_) | (refine wpList_store_row rfl 32 _ _ rfl (b + 1) #[.int .i64 cap, .slice (some ⟨g, 0, none⟩) Y.nodes c] rfl rfl 32 _ HR3.out size32 rfl HONE.out ?_))
          refine bodyPost_ret (results_row_tmp (P := Tryz.prog) (p := 2) (u := 3) (ty := 32) rfl _ _ (b + 1) 32 #[.int .i64 cap, .slice (some ⟨g, 0, none⟩) Y.nodes c] (0, 0) _ rfl HRR.out Tryz.underlying32 rfl size32) rfl ?_
          exact ⟨g, c, by rw [HCAP.out]; rfl, HTS.out, HKS.out⟩
end Go.Proofs.YtikfphojehgpjaaGreatDoor
