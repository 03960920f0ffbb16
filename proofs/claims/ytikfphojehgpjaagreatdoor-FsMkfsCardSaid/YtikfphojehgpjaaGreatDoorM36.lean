/- vellumref13: grown: the root. -/
import Derived.Test.YtikfphojehgpjaaGreatDoorM35
import Derived.Deep.RegionHeld3
import Derived.Deep.CutBlock
import Derived.Deep.MidRow
set_option linter.unusedSimpArgs false
set_option linter.unusedVariables false
namespace Go.Proofs.YtikfphojehgpjaaGreatDoor
open Go.RowKit Vl Go.Maps Go.ChangeMaps
set_option linter.unusedVariables false
theorem size97 : (Tryz.prog.info? 97).map (·.size) = some 6 := by kernel_rfl
set_option maxRecDepth 100000 in
set_option maxHeartbeats 4000000 in
theorem grownRoot_walk (t : Nat) (Y : Lay) (ba nb cb : Nat) (f : Nat → List UInt8) (w : World) (h : RHome w ba nb f) (hnb : 2 < nb) (hb : cutB (f 2) 0 128 = rootB) :
    Calls Tryz.prog 75 #[.pointer (some ⟨t, 0, none⟩), .agg (homeC Y ba nb cb), .int .i64 1] w fun e w' => e = .returned (.tuple #[.agg (thingC 2 2 1), .bool true]) ∧ Kept [] w w' := by
  have hka := ((Kept.refl [] w).alloc (.cells (homeC Y ba nb cb) 97)).alloc (.cells (thingC 0 0 0) 50)
  have hh := alloc_whole (heap_alloc_new w (.cells (homeC Y ba nb cb) 97)) (o' := .cells (thingC 0 0 0) 50)
  have ht := heap_alloc_new (w.alloc (.cells (homeC Y ba nb cb) 97)) (.cells (thingC 0 0 0) 50)
  rw [size_alloc] at ht
  have H := Lib.hid (h.kept hka)
  unfold homeC thingC at *
  clear h
  go_enter Tryz.func75, Tryz.ntmps75
  go_upto_region 1 with fail
  generalize (w.alloc (.cells #[.int .i64 Y.log, .int .i64 Y.home, .int .i64 Y.blocks, .int .i64 Y.nodes, .int .i64 Y.data, .slice (some ⟨ba, 0, none⟩) nb cb] 97)).alloc (.cells #[.int .i64 0, .int .i64 0, .int .i64 0, .int .i64 0, .slice none 0 0, .slice none 0 0, .int .i64 0] 50) = w1 at *
  have HK1 := Lib.hid hka
  have HT1 := Lib.hid ht
  have c5 := cell_whole hh 5
  have hl := lt_whole hh
  simp only [List.getElem?_toArray, List.getElem?_cons_zero, List.getElem?_cons_succ] at c5
  obtain ⟨hfl, g, o, c, cb2, hc512, hbal, hba⟩ := H.out 2 hnb
  have hsub := hba.sub 0 128
  have HD := Lib.hid (rdecNode_walk rootB 2 2 1 rootB_node (by omega) rencRoot_walk (some ⟨g, o, none⟩) c w1 (by have := hsub; unfold cutB at hb; rw [hb] at this; exact this))
  generalize hwb : w.heap.size = b at *
  have HWB := Lib.hid hwb
  clear hwb
  have HHH := Lib.hid hh
  clear hka hh ht hsub hba hb
  go_upto_region 2 with fail
  go_wp2_with fail
  refine HD.out.mono ?_
  rintro e w2 ⟨rfl, hkd⟩
  have hst := nodeC_store 2 2 1 w2
  have hka2 := (Kept.refl [] w2).alloc (.cells (nodeC 2 2 1) 134)
  have hn2 := heap_alloc_new w2 (.cells (nodeC 2 2 1) 134)
  have HT2 := Lib.hid (hka2.keep (hkd.keep HT1.out (by simp)) (by simp))
  have HH2 := Lib.hid (hka2.keep (hkd.keep HHH.out (by simp)) (by simp))
  have HK2 := Lib.hid ((HK1.out.trans hkd (by simp)).trans hka2 (by simp))
  rw [show ((2 : Nat) : Int) = 2 from rfl, show ((1 : Nat) : Int) = 1 from rfl]
  unfold nodeC at *
  clear hkd hka2 c5 cb2 hl hbal HD
  go_upto_region 3 with fail
  generalize w2.alloc (.cells #[.int .i64 2, .int .i64 2, .int .i64 1, .int .i64 0, .int .i64 0, .int .i64 0, .int .i64 0, .int .i64 0, .int .i64 0, .int .i64 0, .int .i64 0, .int .i64 0, .int .i64 0, .int .i64 0, .int .i64 0, .int .i64 0, .int .i64 0] 134) = w3 at *
  generalize w2.heap.size = n at *
  have c0 := cell_whole hn2 0
  have c1 := cell_whole hn2 1
  have c2 := cell_whole hn2 2
  have c3 := cell_whole hn2 3
  have nl := lt_whole hn2
  simp only [List.getElem?_toArray, List.getElem?_cons_zero, List.getElem?_cons_succ] at c0 c1 c2 c3
  have HN := Lib.hid hn2
  clear hst hn2
  go_upto_region 6 with fail
  have hka4 := (Kept.refl [] w3).alloc (.cells #[.int .i64 2, .int .i64 2, .int .i64 1, .int .i64 0, .slice none 0 0, .slice none 0 0, .int .i64 0] 50)
  have ht4 := heap_alloc_new w3 (.cells #[.int .i64 2, .int .i64 2, .int .i64 1, .int .i64 0, .slice none 0 0, .slice none 0 0, .int .i64 0] 50)
  have HT4 := Lib.hid (hka4.keep HT2.out (by simp))
  have HH4 := Lib.hid (hka4.keep HH2.out (by simp))
  have HN4 := Lib.hid (hka4.keep HN.out (by simp))
  have HK4 := Lib.hid (HK2.out.trans hka4 (by simp))
  have HU4 := Lib.hid ht4
  generalize w3.alloc (.cells #[.int .i64 2, .int .i64 2, .int .i64 1, .int .i64 0, .slice none 0 0, .slice none 0 0, .int .i64 0] 50) = w4 at *
  have HT2S := Lib.hid (show w.heap.size ≤ w3.heap.size from HK2.out.size)
  have HNE := Lib.hid (show ¬ b + 1 = w3.heap.size from fun e => by have := lt_whole HT2.out; omega)
  generalize w3.heap.size = t2 at *
  clear c0 c1 c2 c3 nl hka4 ht4
  have d0 := cell_whole HN4.out 0
  have dl := lt_whole HN4.out
  have hl4 := lt_whole HH4.out
  simp only [List.getElem?_toArray, List.getElem?_cons_zero, List.getElem?_cons_succ] at d0
  have HP := rpieces_walk t (homeC Y ba nb cb) w4 rfl
  unfold homeC nodeC at HP
  have HPP := Lib.hid HP
  clear HP
  go_upto_region 8 with fail
  go_wp2_with (first | (refine wpList_load_row rfl 97 _ rfl b rfl 97 _ (0, 0) _ HH4.out Tryz.underlying97 rfl size97 ?_) | (refine wpList_load_row rfl 134 _ rfl n rfl 134 _ (0, 0) _ HN4.out Tryz.underlying134 rfl size134 ?_))
  refine HPP.out.mono ?_
  rintro e w5 ⟨rfl, hk5⟩
  have hn5 := hk5.keep HN4.out (by simp)
  have d3 : w5.cell? ⟨n, 3, none⟩ = some (.int .i64 0) := cell_whole hn5 3
  have nl5 := lt_whole hn5
  have HN5 := Lib.hid hn5
  have HT5 := Lib.hid (hk5.keep HT4.out (by simp))
  have HU5 := Lib.hid (hk5.keep HU4.out (by simp))
  have HK5 := Lib.hid (HK4.out.trans hk5 (by simp))
  clear hk5 hn5 HPP d0 dl hl4
  go_wp2_with fail
  refine (quiet_walk w5).mono ?_
  rintro e w6 ⟨rfl, hw6⟩
  subst hw6
  have u4 := cell_whole HU5.out 4
  have uf := frozen_whole HU5.out 4
  have ul := lt_whole HU5.out
  have HU6 := Lib.hid (show (w6.setCell ⟨t2, 4, none⟩ (.slice none 0 0)).heap[t2]? = some (.cells #[.int .i64 2, .int .i64 2, .int .i64 1, .int .i64 0, .slice none 0 0, .slice none 0 0, .int .i64 0] 50 (0, 0)) from set_whole (i := 4) HU5.out (.slice none 0 0))
  have hks : Kept [t2] w6 (w6.setCell ⟨t2, 4, none⟩ (.slice none 0 0)) := (Kept.refl [t2] w6).setCell _ _ (.inl (by simp))
  have hnt : n ∉ [t2] ∧ b + 1 ∉ [t2] := by
    constructor
    · simp only [List.mem_singleton]
      intro e
      have h1 := HN5.out
      rw [e, HU5.out] at h1
      injection h1 with h1
      injection h1 with _ h4 _
      exact absurd h4 (by decide)
    · simp only [List.mem_singleton]; exact HNE.out
  have HN7 := Lib.hid (hks.keep HN5.out hnt.1)
  have HT7 := Lib.hid (hks.keep HT5.out hnt.2)
  have HK7 := Lib.hid (HK5.out.trans hks (by simp; exact HT2S.out))
  clear hks
  go_upto_region 12 with fail
  generalize w6.setCell ⟨t2, 4, none⟩ (.slice none 0 0) = w7 at *
  have HOW := owned_walk w7.drew
  unfold thingC at HOW
  have n4 : w7.drew.cell? ⟨n, 4, none⟩ = some (.int .i64 0) := cell_whole HN7.out 4
  have nl7 := lt_whole HN7.out
  have HOWW : Hid (Calls Tryz.prog 137 #[.agg #[.int .i64 1, .int .i64 0, .int .i64 0, .int .i64 0, .slice none 0 0, .slice none 0 0, .int .i64 0]] w7.drew fun e w8 => e = .returned (.int .i64 0) ∧ Kept [] w7.drew w8 ∧ w8.cell? ⟨n, 4, none⟩ = some (.int .i64 0)) := Lib.hid (HOW.mono (by
    rintro e w8 ⟨rfl, hk⟩
    exact ⟨rfl, hk, (cell_kept hk nl7 (by simp)).trans n4⟩))
  clear HOW d3 nl5 u4 uf ul
  go_region_held3 (fun w' => w'.cell? ⟨n, 4, none⟩ = some (.int .i64 0))
    (first
      | (with_reducible exact n4)
      | (with_reducible exact e9))
    ((first
      | (go_simp; go_at_call 137; (with_reducible refine HOWW.out.mono ?_); rintro e w8 ⟨rfl, hk8, e9⟩)))
  all_goals
    have hk78 : Kept [] w7 w8 := (Kept.refl [] w7).drew.trans hk8 (by simp)
    have hn8 := hk78.keep HN7.out (by simp)
    have m4 : w8.cell? ⟨n, 4, none⟩ = some (.int .i64 0) := cell_whole hn8 4
    have m0 : w8.cell? ⟨n, 0, none⟩ = some (.int .i64 2) := cell_whole hn8 0
    have ml := lt_whole hn8
    have HN8 := Lib.hid hn8
    have HT8 := Lib.hid (hk78.keep HT7.out (by simp))
    have HU8 := Lib.hid (hk78.keep HU6.out (by simp))
    have HK8 := Lib.hid (HK7.out.trans hk78 (by simp))
    have HSL := rslots_walk w8
    unfold nodeC at HSL
    have HSLL := Lib.hid HSL
    clear hk8 hk78 hn8 HSL n4 nl7 e9
    go_upto_region 15 with fail
    go_wp2_with (refine wpList_load_row rfl 134 _ rfl n rfl 134 _ (0, 0) _ HN8.out Tryz.underlying134 rfl size134 ?_)
    refine HSLL.out.mono ?_
    rintro e w9 ⟨rfl, hk9⟩
    have hu9 := hk9.keep HU8.out (by simp)
    have u5 := cell_whole hu9 5
    have uf5 := frozen_whole hu9 5
    have ul := lt_whole hu9
    have s1 : (w9.setCell ⟨t2, 5, none⟩ (.slice none 0 0)).heap[t2]? = some (.cells #[.int .i64 2, .int .i64 2, .int .i64 1, .int .i64 0, .slice none 0 0, .slice none 0 0, .int .i64 0] 50 (0, 0)) := set_whole (i := 5) hu9 (.slice none 0 0)
    have u4 := cell_whole s1 4
    have uf4 := frozen_whole s1 4
    have s2 : ((w9.setCell ⟨t2, 5, none⟩ (.slice none 0 0)).setCell ⟨t2, 4, none⟩ (.slice none 0 0)).heap[t2]? = some (.cells #[.int .i64 2, .int .i64 2, .int .i64 1, .int .i64 0, .slice none 0 0, .slice none 0 0, .int .i64 0] 50 (0, 0)) := set_whole (i := 4) s1 (.slice none 0 0)
    have hks : Kept [t2] w9 ((w9.setCell ⟨t2, 5, none⟩ (.slice none 0 0)).setCell ⟨t2, 4, none⟩ (.slice none 0 0)) := ((Kept.refl [t2] w9).setCell _ _ (.inl (by simp))).setCell _ _ (.inl (by simp))
    have HU9 := Lib.hid s2
    have HT9 := Lib.hid (hks.keep (hk9.keep HT8.out (by simp)) hnt.2)
    have HK9 := Lib.hid ((HK8.out.trans hk9 (by simp)).trans hks (by simp; exact HT2S.out))
    clear hk9 hu9 s1 s2 hks m4 m0 ml HSLL
    go_upto_region 18 with fail
    generalize (w9.setCell ⟨t2, 5, none⟩ (.slice none 0 0)).setCell ⟨t2, 4, none⟩ (.slice none 0 0) = wa at *
    have hone : (thingC 2 2 1).all (·.oneCell') = true := by simp [thingC, Value.oneCell']
    have HONE := Lib.hid hone
    have HTA := Lib.hid (setRow_heap wa (b + 1) _ (thingC 2 2 1) 50 (0, 0) HT9.out)
    have HKA := Lib.hid (HK9.out.trans (kept_setRow wa (b + 1) (thingC 2 2 1)) (by simp; rw [HWB.out]; omega))
    clear hone u5 uf5 u4 uf4 ul
    go_wp2_with (first | (refine wpList_load_row rfl 50 _ rfl t2 rfl 50 _ (0, 0) _ HU9.out Tryz.underlying50 rfl size50 ?_) | (refine wpList_store_row rfl 50 _ _ rfl (b + 1) (thingC 2 2 1) rfl rfl 50 _ HT9.out size50 rfl HONE.out ?_))
    refine bodyPost_ret (results_row_tmp (P := Tryz.prog) (p := 6) (u := 7) (ty := 50) rfl _ _ (b + 1) 50 (thingC 2 2 1) (0, 0) _ rfl HTA.out Tryz.underlying50 rfl size50) rfl ?_
    exact ⟨rfl, HKA.out⟩
end Go.Proofs.YtikfphojehgpjaaGreatDoor
/- vellumref13: thing, bit, hangs. -/
namespace Go.Proofs.YtikfphojehgpjaaGreatDoor
open Go.RowKit Vl Go.Maps Go.ChangeMaps
set_option linter.unusedVariables false
/-- The i-th thing of the empty tree. -/
def thingI (i : Nat) : Array Value := if i = 0 then thingC 2 2 1 else thingC 0 0 0
theorem thingI_size (i : Nat) : (thingI i).size = 7 := by unfold thingI; split <;> rfl
theorem thingI_one (i : Nat) : (thingI i).all (·.oneCell') = true := by unfold thingI; split <;> simp [thingC, Value.oneCell']
/-- The things of the empty tree. -/
def Things (w : World) (a n : Nat) : Prop := ∀ i, i < n → a < w.heap.size ∧ w.rangeAt a (i * 7) (thingI i).toList
theorem Things.kept {w w' : World} {a n : Nat} (h : Things w a n) (hk : Kept [] w w') : Things w' a n := fun i hi => by
  obtain ⟨h1, h2⟩ := h i hi
  exact ⟨Nat.lt_of_lt_of_le h1 hk.size, fun j u hj => (cell_kept hk h1 (by simp)).trans (h2 j u hj)⟩
theorem Things.cell {w : World} {a n i : Nat} (h : Things w a n) (hi : i < n) (j : Nat) (v : Value) (hv : (thingI i)[j]? = some v) : w.cell? ⟨a, i * 7 + j, none⟩ = some v := (h i hi).2 j v (by rw [Array.getElem?_toList]; exact hv)
def treeC (cap : Int) (a n c : Nat) : Array Value := #[.int .i64 cap, .slice (some ⟨a, 0, none⟩) n c]
set_option maxRecDepth 100000 in
set_option maxHeartbeats 2000000 in
theorem thing_walk (cap : Int) (a n c k : Nat) (w : World) (h : Things w a n) (h1 : 1 ≤ k) (h2 : k ≤ n) (hn : n ≤ 1024) : Calls Tryz.prog 141 #[.agg (treeC cap a n c), .int .i64 k] w fun e w' => e = .returned (.agg (thingI (k - 1))) ∧ Kept [] w w' := by
  obtain ⟨q, rfl⟩ : ∃ q, k = q + 1 := ⟨k - 1, by omega⟩
  rw [show q + 1 - 1 = q by omega]
  have hka := ((Kept.refl [] w).alloc (.cells (treeC cap a n c) 32)).alloc (.cells (thingC 0 0 0) 50)
  have ht := alloc_whole (heap_alloc_new w (.cells (treeC cap a n c) 32)) (o' := .cells (thingC 0 0 0) 50)
  have hz := heap_alloc_new (w.alloc (.cells (treeC cap a n c) 32)) (.cells (thingC 0 0 0) 50)
  rw [size_alloc] at hz
  have hT := h.kept hka
  unfold treeC thingC at *
  clear h
  go_enter Tryz.func141, Tryz.ntmps141
  go_upto_region 1 with fail
  generalize (w.alloc (.cells #[.int .i64 cap, .slice (some ⟨a, 0, none⟩) n c] 32)).alloc (.cells #[.int .i64 0, .int .i64 0, .int .i64 0, .int .i64 0, .slice none 0 0, .slice none 0 0, .int .i64 0] 50) = w1 at *
  generalize hwb : w.heap.size = b at *
  have HWB := Lib.hid hwb
  have c1 := cell_whole ht 1
  have tl := lt_whole ht
  simp only [List.getElem?_toArray, List.getElem?_cons_zero, List.getElem?_cons_succ] at c1
  have hr := (hT q (by omega)).2
  have al := (hT q (by omega)).1
  have HR := Lib.hid hr
  have HZ := Lib.hid hz
  have HS := Lib.hid (setRow_heap w1 (b + 1) _ (thingI q) 50 (0, 0) hz)
  have HK := Lib.hid (hka.trans (kept_setRow w1 (b + 1) (thingI q)) (by simp; omega))
  have hsz : (Tryz.prog.info? 50).map (·.size) = some (thingI q).size := by rw [thingI_size]; exact size50
  have HSZ := Lib.hid hsz
  have HSL := Lib.hid (show (Tryz.prog.info? 50).map (·.size) = some (thingI q).toList.length by rw [Array.length_toList]; exact hsz)
  have HON := Lib.hid (thingI_one q)
  have hta : (thingI q).toList.toArray = thingI q := Array.toArray_toList
  have HTA := Lib.hid hta
  have hsq : (#[Value.int .i64 0, .int .i64 0, .int .i64 0, .int .i64 0, .slice none 0 0, .slice none 0 0, .int .i64 0] : Array Value).size = (thingI q).size := by rw [thingI_size]; rfl
  have HSQ := Lib.hid hsq
  have hcast : ((q + 1 : Nat) : Int) - 1 = (q : Int) := by omega
  clear hr hT hz hka ht hwb hsz hta hsq
  go_wp2_with (first | (refine wpList_load_mid rfl 50 _ rfl a (q * 7) rfl (thingI q).toList _ HR.out Tryz.underlying50 rfl HSL.out ?_; rw [HTA.out]) | (refine wpList_store_row rfl 50 _ _ rfl (b + 1) (thingI q) rfl rfl 50 _ HZ.out HSZ.out HSQ.out HON.out ?_))
  refine bodyPost_ret (results_cell_row (P := Tryz.prog) (p := 4) (ty := 50) rfl _ _ (b + 1) 50 (thingI q) (0, 0) _ rfl HS.out Tryz.underlying50 rfl HSZ.out) rfl ?_
  exact ⟨rfl, HK.out⟩
set_option maxRecDepth 100000 in
set_option maxHeartbeats 1000000 in
theorem bit_walk (l : List UInt8) (g o c i : Nat) (w : World) (h : BytesAt w (some ⟨g, o, none⟩) l) (hl : l.length = 512) (hi : i < 4096) : Calls Tryz.prog 140 #[.slice (some ⟨g, o, none⟩) 512 c, .int .i64 i] w fun e w' => e = .returned (.bool (bitOf l i)) ∧ w' = w := by
  obtain ⟨_, _, e1, hg, hc⟩ := h (i / 8) (by omega)
  cases e1
  have hm : i % 8 < 8 := by omega
  have hd : i / 8 < 512 := by omega
  have hbo : bitOf l i = (l[i / 8]'(by omega)).toNat.testBit (i % 8) := by
    unfold bitOf
    rw [List.getD_eq_getElem?_getD, List.getElem?_eq_getElem (by omega)]
    rfl
  have hx := (l[i / 8]'(by omega)).toNat_lt
  generalize (l[i / 8]'(by omega)) = x at *
  have hbt : bitOf l i = decide (x.toNat / 2 ^ (i % 8) % 2 = 1) := by rw [hbo, Nat.testBit_eq_decide_div_mod_eq]
  generalize bitOf l i = r at *
  clear h hbo
  go_enter Tryz.func140, Tryz.ntmps140
  go_wp2
  go_ret
  refine ⟨?_, rfl⟩
  rw [hbt]
  congr 2
  have e : ((x.toNat : Int) / 2 ^ (i % 8)).tmod 2 = ((x.toNat / 2 ^ (i % 8) % 2 : Nat) : Int) := by
    rw [Int.tmod_eq_emod_of_nonneg (Int.ediv_nonneg (by omega) (Int.le_of_lt (Int.pow_pos (by omega))))]
    push_cast
    rfl
  rw [e]
  by_cases h1 : x.toNat / 2 ^ (i % 8) % 2 = 1
  · rw [h1]; rfl
  · rw [decide_eq_false h1]
    generalize x.toNat / 2 ^ (i % 8) % 2 = y at h1 ⊢
    show Value.bool ((y : Int) == 1) = Value.bool false
    exact congrArg Value.bool (beq_eq_false_iff_ne.2 (fun e => h1 (by omega)))
/-- Counts that are all 0. -/
def Zeros (w : World) (a n : Nat) : Prop := ∀ i, i < n → a < w.heap.size ∧ w.cell? ⟨a, i, none⟩ = some (.int .i64 0)
theorem Zeros.kept {w w' : World} {a n : Nat} (h : Zeros w a n) (hk : Kept [] w w') : Zeros w' a n := fun i hi => ⟨Nat.lt_of_lt_of_le (h i hi).1 hk.size, (cell_kept hk (h i hi).1 (by simp)).trans (h i hi).2⟩
def namesC (a b d m : Nat) : Array Value := #[.slice (some ⟨a, 0, none⟩) m m, .slice (some ⟨b, 0, none⟩) m m, .slice (some ⟨d, 0, none⟩) m m]
theorem size32 : (Tryz.prog.info? 32).map (·.size) = some 2 := by kernel_rfl
set_option maxRecDepth 100000 in
set_option maxHeartbeats 4000000 in
theorem hangs_walk (cap : Int) (a n c k ca fa da : Nat) (w : World) (h : Things w a n) (h1 : 1 ≤ k) (h2 : k ≤ n) (hn : n ≤ 1024) (hc : Zeros w ca (n + 1)) (hd : Zeros w da (n + 1)) :
    Calls Tryz.prog 78 #[.agg (treeC cap a n c), .agg (namesC ca fa da (n + 1)), .int .i64 k] w fun e w' => e = .returned (.bool true) ∧ Kept [] w w' := by
  have hka := ((Kept.refl [] w).alloc (.cells (treeC cap a n c) 32)).alloc (.cells (namesC ca fa da (n + 1)) 158)
  have ht := alloc_whole (heap_alloc_new w (.cells (treeC cap a n c) 32)) (o' := .cells (namesC ca fa da (n + 1)) 158)
  have hz := heap_alloc_new (w.alloc (.cells (treeC cap a n c) 32)) (.cells (namesC ca fa da (n + 1)) 158)
  rw [size_alloc] at hz
  have HTW := Lib.hid (thing_walk cap a n c k ((w.alloc (.cells (treeC cap a n c) 32)).alloc (.cells (namesC ca fa da (n + 1)) 158)) (h.kept hka) h1 h2 hn)
  have HC := Lib.hid (hc.kept hka)
  have HD := Lib.hid (hd.kept hka)
  unfold treeC namesC at *
  clear h hc hd
  go_enter Tryz.func78, Tryz.ntmps78
  go_upto_region 1 with fail
  generalize (w.alloc (.cells #[.int .i64 cap, .slice (some ⟨a, 0, none⟩) n c] 32)).alloc (.cells #[.slice (some ⟨ca, 0, none⟩) (n + 1) (n + 1), .slice (some ⟨fa, 0, none⟩) (n + 1) (n + 1), .slice (some ⟨da, 0, none⟩) (n + 1) (n + 1)] 158) = w1 at *
  generalize w.heap.size = b at *
  have HT := Lib.hid ht
  have HZ := Lib.hid hz
  have HK := Lib.hid hka
  have tl := lt_whole ht
  clear ht hz hka
  go_wp2_with (refine wpList_load_row rfl 32 _ rfl b rfl 32 _ (0, 0) _ HT.out Tryz.underlying32 rfl size32 ?_)
  refine HTW.out.mono ?_
  rintro e w2 ⟨rfl, hk2⟩
  have hz2 := hk2.keep HZ.out (by simp)
  have z0 := cell_whole hz2 0
  have z2 := cell_whole hz2 2
  have zl := lt_whole hz2
  simp only [List.getElem?_toArray, List.getElem?_cons_zero, List.getElem?_cons_succ] at z0 z2
  have HC2 := Lib.hid (HC.out.kept hk2)
  have HD2 := Lib.hid (HD.out.kept hk2)
  have HK2 := Lib.hid (HK.out.trans hk2 (by simp))
  clear hk2 hz2 HTW tl
  by_cases hk1 : k = 1
  · subst hk1
    rw [show thingI (1 - 1) = thingC 2 2 1 from rfl]
    have hka := (Kept.refl [] w2).alloc (.cells (thingC 2 2 1) 50)
    have hn2 := heap_alloc_new w2 (.cells (thingC 2 2 1) 50)
    have y0 := (cell_kept hka zl (by simp)).trans z0
    have y2 := (cell_kept hka zl (by simp)).trans z2
    have yl := Nat.lt_of_lt_of_le zl hka.size
    have dd := ((HD2.out.kept hka) 1 (by omega)).2
    have cc := ((HC2.out.kept hka) 1 (by omega)).2
    have dl := ((HD2.out.kept hka) 1 (by omega)).1
    have cl := ((HC2.out.kept hka) 1 (by omega)).1
    have HK3 := Lib.hid (HK2.out.trans hka (by simp))
    unfold thingC at *
    clear hka z0 z2 zl
    go_upto_region 2 with fail
    generalize w2.alloc (.cells #[.int .i64 2, .int .i64 2, .int .i64 1, .int .i64 0, .slice none 0 0, .slice none 0 0, .int .i64 0] 50) = w3 at *
    generalize w2.heap.size = t at *
    have x0 := cell_whole hn2 0
    have x1 := cell_whole hn2 1
    have x2 := cell_whole hn2 2
    have xl := lt_whole hn2
    simp only [List.getElem?_toArray, List.getElem?_cons_zero, List.getElem?_cons_succ] at x0 x1 x2
    clear hn2
    go_upto_region 8 with fail
    refine wp_canon (by kernel_rfl) (by kernel_rfl) ?_
    go_wp2
    refine ⟨rfl, ?_⟩
    go_wp2
    go_ret
    exact ⟨rfl, HK3.out.drew⟩
  · have hq : thingI (k - 1) = thingC 0 0 0 := if_neg (by omega)
    rw [hq]
    have hka := (Kept.refl [] w2).alloc (.cells (thingC 0 0 0) 50)
    have HK3 := Lib.hid (HK2.out.trans hka (by simp))
    have hn2 := heap_alloc_new w2 (.cells (thingC 0 0 0) 50)
    have x0 := cell_whole hn2 0
    have xl := lt_whole hn2
    unfold thingC at *
    simp only [List.getElem?_toArray, List.getElem?_cons_zero, List.getElem?_cons_succ] at x0
    clear hka hn2 z0 z2 hq
    go_wp2
    go_ret
    exact ⟨rfl, HK3.out⟩
end Go.Proofs.YtikfphojehgpjaaGreatDoor
