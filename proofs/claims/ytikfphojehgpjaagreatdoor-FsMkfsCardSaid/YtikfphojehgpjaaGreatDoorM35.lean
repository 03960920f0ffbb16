/- vellumref13: grown. -/
import Derived.Test.YtikfphojehgpjaaGreatDoorM34
set_option linter.unusedSimpArgs false
set_option linter.unusedVariables false
namespace Go.Proofs.YtikfphojehgpjaaGreatDoor
open Go.RowKit Vl Go.Maps Go.ChangeMaps
set_option linter.unusedVariables false
/-- The home blocks, as Recover hands them on. -/
def RHome (w : World) (ba n : Nat) (f : Nat → List UInt8) : Prop := ∀ b, b < n → (f b).length = 512 ∧ ∃ g o c, w.cell? ⟨ba, b, none⟩ = some (.slice (some ⟨g, o, none⟩) 512 c) ∧ 512 ≤ c ∧ ba < w.heap.size ∧ BytesAt w (some ⟨g, o, none⟩) (f b)
theorem RHome.kept {w w' : World} {ba n : Nat} {f : Nat → List UInt8} (h : RHome w ba n f) (hk : Kept [] w w') : RHome w' ba n f := fun b hb => by
  obtain ⟨h1, g, o, c, h2, h3, h4, h5⟩ := h b hb
  exact ⟨h1, g, o, c, (cell_kept hk h4 (by simp)).trans h2, h3, Nat.lt_of_lt_of_le h4 hk.size, h5.below hk.below⟩
def homeC (Y : Lay) (ba nb cb : Nat) : Array Value := #[.int .i64 Y.log, .int .i64 Y.home, .int .i64 Y.blocks, .int .i64 Y.nodes, .int .i64 Y.data, .slice (some ⟨ba, 0, none⟩) nb cb]
theorem size50 : (Tryz.prog.info? 50).map (·.size) = some 7 := by kernel_rfl
set_option maxRecDepth 100000 in
set_option maxHeartbeats 4000000 in
theorem grownZero_walk (t : Nat) (Y : Lay) (ba nb cb : Nat) (f : Nat → List UInt8) (k : Nat) (w : World) (h : RHome w ba nb f) (hk1 : 1 ≤ k) (hk2 : 2 + (k - 1) / 4 < nb) (hkn : k ≤ 1024) (hb : cutB (f (2 + (k - 1) / 4)) ((k - 1) % 4 * 128) 128 = z128) :
    Calls Tryz.prog 75 #[.pointer (some ⟨t, 0, none⟩), .agg (homeC Y ba nb cb), .int .i64 k] w fun e w' => e = .returned (.tuple #[.agg (thingC 0 0 0), .bool true]) ∧ Kept [] w w' := by
  have hka := ((Kept.refl [] w).alloc (.cells (homeC Y ba nb cb) 97)).alloc (.cells (thingC 0 0 0) 50)
  have hh := alloc_whole (heap_alloc_new w (.cells (homeC Y ba nb cb) 97)) (o' := .cells (thingC 0 0 0) 50)
  have ht := heap_alloc_new (w.alloc (.cells (homeC Y ba nb cb) 97)) (.cells (thingC 0 0 0) 50)
  rw [size_alloc] at ht
  have H := Lib.hid (h.kept hka)
  unfold homeC thingC at *
  clear h
  go_enter Tryz.func75, Tryz.ntmps75
  go_upto_region 1 with fail
  generalize (w.alloc (.cells #[.int .i64 Y.log, .int .i64 Y.home, .int .i64 Y.blocks, .int .i64 Y.nodes, .int .i64 Y.data, .slice (some ⟨ba, 0, none⟩) nb cb] 97)).alloc (.cells #[.int .i64 0, .int .i64 0, .int .i64 0, .int .i64 0, .slice none 0 0, .slice none 0 0, .int .i64 0] 50) = w1 at *
  have HK1 := Lib.hid hka
  have HT1 := Lib.hid ht
  have c5 := cell_whole hh 5
  have hl := lt_whole hh
  simp only [List.getElem?_toArray, List.getElem?_cons_zero, List.getElem?_cons_succ] at c5
  obtain ⟨hfl, g, o, c, cb2, hc512, hbal, hba⟩ := H.out (2 + (k - 1) / 4) hk2
  have hsub := hba.sub ((k - 1) % 4 * 128) 128
  have HD := Lib.hid (rdecNode_walk z128 0 0 0 z128_node (by omega) rencZero_walk (some ⟨g, o + (k - 1) % 4 * 128, none⟩) (c - (k - 1) % 4 * 128) w1 (by have := hsub; unfold cutB at hb; rw [hb] at this; exact this))
  have e1 : ((k : Int) - 1) % 4 = (((k - 1) % 4 : Nat) : Int) := by omega
  have e2 : ((k : Int) - 1) / 4 = (((k - 1) / 4 : Nat) : Int) := by omega
  generalize hwb : w.heap.size = b at *
  have HWB := Lib.hid hwb
  clear hwb
  generalize (k - 1) % 4 = q at *
  have HHH := Lib.hid hh
  clear hka hh ht hsub hba hb
  go_upto_region 2 with fail
  generalize (k - 1) / 4 = d at *
  go_wp2_with fail
  refine HD.out.mono ?_
  rintro e w2 ⟨rfl, hkd⟩
  have hst := nodeC_store 0 0 0 w2
  have hka2 := (Kept.refl [] w2).alloc (.cells (nodeC 0 0 0) 134)
  have hn2 := heap_alloc_new w2 (.cells (nodeC 0 0 0) 134)
  have HT2 := Lib.hid (hka2.keep (hkd.keep HT1.out (by simp)) (by simp))
  have HK2 := Lib.hid ((HK1.out.trans hkd (by simp)).trans hka2 (by simp))
  rw [show ((0 : Nat) : Int) = 0 from rfl]
  unfold nodeC at *
  clear hkd hka2 c5 cb2 hl hbal HD
  go_upto_region 3 with fail
  generalize w2.alloc (.cells #[.int .i64 0, .int .i64 0, .int .i64 0, .int .i64 0, .int .i64 0, .int .i64 0, .int .i64 0, .int .i64 0, .int .i64 0, .int .i64 0, .int .i64 0, .int .i64 0, .int .i64 0, .int .i64 0, .int .i64 0, .int .i64 0, .int .i64 0] 134) = w3 at *
  generalize w2.heap.size = n at *
  have c0 := cell_whole hn2 0
  have c1 := cell_whole hn2 1
  have c2 := cell_whole hn2 2
  have c3 := cell_whole hn2 3
  have nl := lt_whole hn2
  simp only [List.getElem?_toArray, List.getElem?_cons_zero, List.getElem?_cons_succ] at c0 c1 c2 c3
  have HN := Lib.hid hn2
  clear hst hn2
  go_upto_region 6 with fail
  have hka4 := (Kept.refl [] w3).alloc (.cells #[.int .i64 0, .int .i64 0, .int .i64 0, .int .i64 0, .slice none 0 0, .slice none 0 0, .int .i64 0] 50)
  have ht4 := heap_alloc_new w3 (.cells #[.int .i64 0, .int .i64 0, .int .i64 0, .int .i64 0, .slice none 0 0, .slice none 0 0, .int .i64 0] 50)
  have HT4 := Lib.hid (hka4.keep HT2.out (by simp))
  have HK4 := Lib.hid (HK2.out.trans hka4 (by simp))
  have c0' := (cell_kept hka4 nl (by simp)).trans c0
  have nl' : n < (w3.alloc (.cells #[.int .i64 0, .int .i64 0, .int .i64 0, .int .i64 0, .slice none 0 0, .slice none 0 0, .int .i64 0] 50)).heap.size := by rw [size_alloc]; omega
  generalize w3.alloc (.cells #[.int .i64 0, .int .i64 0, .int .i64 0, .int .i64 0, .slice none 0 0, .slice none 0 0, .int .i64 0] 50) = w4 at *
  generalize w3.heap.size = t2 at *
  have HU4 := Lib.hid ht4
  have ul := lt_whole ht4
  have tl := lt_whole HT4.out
  clear c0 c1 c2 c3 nl hka4 ht4
  go_upto_region 7 with fail
  have hone : (thingC 0 0 0).all (·.oneCell') = true := by simp [thingC, Value.oneCell']
  have HONE := Lib.hid hone
  have HT5 := Lib.hid (setRow_heap w4 (b + 1) _ (thingC 0 0 0) 50 (0, 0) HT4.out)
  have HK5 := Lib.hid (HK4.out.trans (kept_setRow w4 (b + 1) (thingC 0 0 0)) (by simp; rw [HWB.out]; omega))
  clear hone
  go_wp2_with (first | (refine wpList_load_row rfl 50 _ rfl t2 rfl 50 _ (0, 0) _ HU4.out Tryz.underlying50 rfl size50 ?_) | (refine wpList_store_row rfl 50 _ _ rfl (b + 1) (thingC 0 0 0) rfl rfl 50 _ HT4.out size50 rfl HONE.out ?_))
  refine bodyPost_ret (results_row_tmp (P := Tryz.prog) (p := 6) (u := 7) (ty := 50) rfl _ _ (b + 1) 50 (thingC 0 0 0) (0, 0) _ rfl HT5.out Tryz.underlying50 rfl size50) rfl ?_
  exact ⟨rfl, HK5.out⟩
end Go.Proofs.YtikfphojehgpjaaGreatDoor
