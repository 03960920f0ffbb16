/- vellumref2: DecodeNode. -/
import Derived.Test.YtikfphojehgpjaaGreatDoorM33
set_option linter.unusedSimpArgs false
set_option linter.unusedVariables false
namespace Go.Proofs.YtikfphojehgpjaaGreatDoor
open Go.RowKit Vl Go.Maps Go.ChangeMaps
set_option linter.unusedVariables false
structure NodeB (bs : List UInt8) (k l p : Nat) : Prop where
  len : bs.length = 128
  q0 : leV (cutB bs 0 1) = k
  q2 : leV (cutB bs 2 2) = l
  q4 : leV (cutB bs 4 4) = p
  q8 : leV (cutB bs 8 8) = 0
  q16 : leV (cutB bs 16 4) = 0
  q64 : leV (cutB bs 64 4) = 0
  q68 : leV (cutB bs 68 4) = 0
  qd : ∀ i, i < 10 → leV (cutB bs (24 + 4 * i) 4) = 0
set_option maxRecDepth 100000 in
theorem rootB_node : NodeB rootB 2 2 1 := ⟨rootB_length, by decide +kernel, by decide +kernel, by decide +kernel, by decide +kernel, by decide +kernel, by decide +kernel, by decide +kernel, by decide +kernel⟩
set_option maxRecDepth 100000 in
theorem z128_node : NodeB z128 0 0 0 := ⟨z128_length, by decide +kernel, by decide +kernel, by decide +kernel, by decide +kernel, by decide +kernel, by decide +kernel, by decide +kernel, by decide +kernel⟩
theorem nodeC_store (k l p : Int) (w : World) : (storeCells ⟨w.heap.size, 0, none⟩ (nodeC k l p).toList 0).run Tryz.prog (w.alloc (.cells (nodeC 0 0 0) 134)) = .ok () (w.alloc (.cells (nodeC k l p) 134)) := by
  have := run_storeCells_new (P := Tryz.prog) w 134 (nodeC 0 0 0) (nodeC k l p) (by kernel_rfl) (by rfl) (by simp [nodeC, Value.oneCell'])
  simpa using this
theorem kept_setRow (w : World) (g : Nat) (cs : Array Value) : Kept [g] w (w.setRow g cs) := by
  refine ⟨rfl, rfl, rfl, ?_, fun k hk hg => ?_⟩
  · show w.heap.size ≤ (w.heap.modify g _).size; simp
  · show (w.heap.modify g _)[k]? = w.heap[k]?
    rw [Array.getElem?_modify, if_neg (fun e => hg (by simp [e]))]
set_option maxRecDepth 100000 in
set_option maxHeartbeats 4000000 in
theorem rdecNode_walk (bs : List UInt8) (k l p : Nat) (hb : NodeB bs k l p) (hle : k < 256 ∧ l < 65536 ∧ p < 4294967296) (HE : ∀ w, Calls Tryz.prog 178 #[.agg (nodeC k l p)] w (REncN bs w)) (a : Option Addr) (c : Nat) (w : World) (h : BytesAt w a bs) :
    Calls Tryz.prog 134 #[.slice a 128 c] w fun e w' => e = .returned (.tuple #[.agg (nodeC k l p), .int .i64 0]) ∧ Kept [] w w' := by
  have hz := heap_alloc_new w (.cells (nodeC 0 0 0) 134)
  have hk := (Kept.refl [] w).alloc (.cells (nodeC 0 0 0) 134)
  have h1 := h.below hk.below
  have tk := fun (x n v : Nat) (hx : x + n ≤ 128) (hv : leV (cutB bs x n) = v) (hv2 : v < 18014398509481984) => reftake_walk bs a c x n 128 (w.alloc (.cells (nodeC 0 0 0) 134)) h1 hb.len hx (by omega) (by rw [hv]; exact hv2)
  have T0 := tk 0 1 k (by omega) hb.q0 (by omega)
  have T2 := tk 2 2 l (by omega) hb.q2 (by omega)
  have T4 := tk 4 4 p (by omega) hb.q4 (by omega)
  have T8 := tk 8 8 0 (by omega) hb.q8 (by omega)
  have T16 := tk 16 4 0 (by omega) hb.q16 (by omega)
  have T64 := tk 64 4 0 (by omega) hb.q64 (by omega)
  have T68 := tk 68 4 0 (by omega) hb.q68 (by omega)
  rw [hb.q0] at T0
  rw [hb.q2] at T2
  rw [hb.q4] at T4
  rw [hb.q8] at T8
  rw [hb.q16] at T16
  rw [hb.q64] at T64
  rw [hb.q68] at T68
  have hst := nodeC_store k l p (w.alloc (.cells (nodeC 0 0 0) 134))
  have HEE := Lib.hid HE
  have HNB := Lib.hid hb
  have H1 := Lib.hid h1
  have HT0 := Lib.hid T0
  have HT2 := Lib.hid T2
  have HT4 := Lib.hid T4
  have HT8 := Lib.hid T8
  have HT16 := Lib.hid T16
  have HT64 := Lib.hid T64
  have HT68 := Lib.hid T68
  unfold nodeC at hst hz hk HT0 HT2 HT4 HT8 HT16 HT64 HT68 H1 ⊢
  clear h h1 tk T0 T2 T4 T8 T16 T64 T68 HE hb
  go_enter Tryz.func134, Tryz.ntmps134
  go_wp2_with fail
  generalize w.alloc (.cells #[.int .i64 0, .int .i64 0, .int .i64 0, .int .i64 0, .int .i64 0, .int .i64 0, .int .i64 0, .int .i64 0, .int .i64 0, .int .i64 0, .int .i64 0, .int .i64 0, .int .i64 0, .int .i64 0, .int .i64 0, .int .i64 0, .int .i64 0] 134) = w1 at *
  generalize hr : w.heap.size = r at *
  have HR := Lib.hid hr
  have HZ := Lib.hid hz
  have HK := Lib.hid hk
  clear hz hk hr
  refine HT0.out.mono ?_
  rintro e u0 ⟨rfl, hu0⟩
  subst hu0
  go_wp2_with fail
  refine HT2.out.mono ?_
  rintro e u1 ⟨rfl, hu1⟩
  subst hu1
  go_wp2_with fail
  refine HT4.out.mono ?_
  rintro e u2 ⟨rfl, hu2⟩
  subst hu2
  go_wp2_with fail
  refine HT8.out.mono ?_
  rintro e u3 ⟨rfl, hu3⟩
  subst hu3
  go_wp2_with fail
  refine HT16.out.mono ?_
  rintro e u4 ⟨rfl, hu4⟩
  subst hu4
  go_wp2_with fail
  refine HT64.out.mono ?_
  rintro e u5 ⟨rfl, hu5⟩
  subst hu5
  go_wp2_with fail
  refine HT68.out.mono ?_
  rintro e u6 ⟨rfl, hu6⟩
  subst hu6
  go_wp2_with fail
  have hka := (Kept.refl [] u6).alloc (.cells (nodeC k l p) 134)
  have hna := heap_alloc_new u6 (.cells (nodeC k l p) 134)
  have hnr : r ≠ u6.heap.size := fun e => by have := lt_whole HZ.out; omega
  unfold nodeC at hka hna
  generalize u6.alloc (.cells #[.int .i64 k, .int .i64 l, .int .i64 p, .int .i64 0, .int .i64 0, .int .i64 0, .int .i64 0, .int .i64 0, .int .i64 0, .int .i64 0, .int .i64 0, .int .i64 0, .int .i64 0, .int .i64 0, .int .i64 0, .int .i64 0, .int .i64 0] 134) = w2 at *
  generalize hnb : u6.heap.size = nb at *
  have HNBB := Lib.hid hnb
  have HKA := Lib.hid hka
  have HNA := Lib.hid (show w2.heap[nb]? = some (.cells (nodeC k l p) 134 (0, 0)) from hna)
  clear hst hka hna hnb HT0 HT2 HT4 HT8 HT16 HT64 HT68
  go_loopw [5] (fun v5 wr => ∃ i : Nat, i ≤ 10 ∧ v5 = .int .i64 i ∧ wr.heap[nb]? = some (.cells (nodeC k l p) 134 (0, 0)) ∧ Kept [] u6 wr) (fun v5 _ => 10 - (intOf v5).toNat)
  case atStart => exact ⟨0, by omega, rfl, HNA.out, HKA.out⟩
  case round =>
    obtain ⟨i, hi, rfl, hn, hkr⟩ := hrel
    have HN := Lib.hid hn
    have HKR := Lib.hid hkr
    by_cases hlt : i < 10
    · have hq := HNB.out.qd i hlt
      have hT := reftake_walk bs a c (24 + 4 * i) 4 128 wr (H1.out.below hkr.below) HNB.out.len (by omega) (by omega) (by rw [hq]; omega)
      rw [hq, show ((24 + 4 * i : Nat) : Int) = 24 + 4 * (i : Int) by omega] at hT
      have HT := Lib.hid hT
      have c5 : wr.cell? ⟨nb, 5 + i, none⟩ = some (.int .i64 0) := by rw [cell_whole hn (5 + i)]; exact nodeC_zero k l p i (by omega)
      have f5 := frozen_whole hn (5 + i)
      have nl := lt_whole hn
      have HS := Lib.hid (show (wr.setCell ⟨nb, 5 + i, none⟩ (.int .i64 0)).heap[nb]? = some (.cells (nodeC k l p) 134 (0, 0)) by rw [set_whole (i := 5 + i) hn (.int .i64 0), nodeC_set k l p i (by omega)])
      have HKS := Lib.hid (hkr.trans ((Kept.refl [nb] wr).setCell ⟨nb, 5 + i, none⟩ (.int .i64 0) (.inl (by simp))) (by simp [HNBB.out]))
      clear hq hT hn hkr
      go_wp2_with fail
      refine HT.out.mono ?_
      rintro e v1 ⟨rfl, hv1⟩
      subst hv1
      go_wp2
      go_roundw
      case rel => exact ⟨i + 1, by omega, by go_num, HS.out, HKS.out⟩
      case measure => simp [intOf]; omega
    · obtain rfl : i = 10 := by omega
      clear hlt hi
      have nl := lt_whole hn
      have HEN := HEE.out wr
      unfold nodeC at HEN HN
      have HENN := Lib.hid HEN
      clear HEN hn
      go_wp2_with (refine wpList_load_row rfl 134 _ rfl nb rfl 134 _ (0, 0) _ HN.out Tryz.underlying134 rfl size134 ?_)
      refine HENN.out.mono ?_
      rintro e v2 ⟨g, hg, rfl, hbg, hk2⟩
      have hsm := same2_walk bs bs (some ⟨g, 0, none⟩) a 128 c v2 hbg.at (H1.out.below (HKR.out.trans hk2 (by simp)).below) (by rw [HNB.out.len]; omega) (by rw [HNB.out.len]; omega)
      rw [HNB.out.len, decide_eq_true rfl] at hsm
      have HSM := Lib.hid hsm
      have HK2 := Lib.hid (HKR.out.trans hk2 (by simp))
      have HN2 := Lib.hid (hk2.keep HN.out (by simp))
      clear hsm hbg hk2 hkr
      go_wp2_with fail
      refine HSM.out.mono ?_
      rintro e v3 ⟨rfl, hw3⟩
      have hk3 : Kept [] v2 v3 := Kept.of_below hw3
      have HN3 := Lib.hid (hk3.keep HN2.out (by simp))
      have HK3 := Lib.hid (HK2.out.trans hk3 (by simp))
      have HZ3 := Lib.hid ((HK3.out).keep HZ.out (by simp))
      clear hw3 hk3 HSM nl
      go_upto_region 11 with fail
      have hone : (nodeC k l p).all (·.oneCell') = true := by simp [nodeC, Value.oneCell']
      have HK4 := Lib.hid (HK.out.trans HK3.out (by simp) |>.trans (kept_setRow v3 r (nodeC k l p)) (by simp [HR.out]))
      have HZ4 := Lib.hid (setRow_heap v3 r _ (nodeC k l p) 134 (0, 0) HZ3.out)
      have zl := lt_whole HZ3.out
      have HONE := Lib.hid hone
      clear hone
      go_wp2_with (first | (refine wpList_load_row rfl 134 _ rfl nb rfl 134 _ (0, 0) _ HN3.out Tryz.underlying134 rfl size134 ?_) | (refine wpList_store_row rfl 134 _ _ rfl r (nodeC k l p) rfl rfl 134 _ HZ3.out size134 rfl HONE.out ?_))
      refine bodyPost_ret (results_row_tmp (P := Tryz.prog) (p := 2) (u := 3) (ty := 134) rfl _ _ r 134 (nodeC k l p) (0, 0) _ rfl HZ4.out Tryz.underlying134 rfl size134) rfl ?_
      exact ⟨rfl, HK4.out⟩
end Go.Proofs.YtikfphojehgpjaaGreatDoor
/- vellumref13: pieces, quiet, owned, slots: of a node without bytes. -/
namespace Go.Proofs.YtikfphojehgpjaaGreatDoor
open Go.RowKit Vl Go.Maps Go.ChangeMaps
set_option linter.unusedVariables false
theorem quiet_walk (w : World) : Calls Tryz.prog 136 #[.slice none 0 0, .int .i64 0] w fun e w' => e = .returned (.bool true) ∧ w' = w := by
  go_enter Tryz.func136, Tryz.ntmps136
  go_wp2
  go_loopw [5] (fun v5 wr => v5 = .int .i64 0 ∧ wr = w) (fun _ _ => 0)
  case atStart => exact ⟨rfl, rfl⟩
  case round =>
    obtain ⟨rfl, rfl⟩ := hrel
    go_wp2
    go_ret
    exact ⟨rfl, rfl⟩
/-- A thing without bytes. -/
def thingC (k l p : Int) : Array Value := #[.int .i64 k, .int .i64 l, .int .i64 p, .int .i64 0, .slice none 0 0, .slice none 0 0, .int .i64 0]
set_option maxRecDepth 100000 in
set_option maxHeartbeats 1000000 in
theorem owned_walk (w : World) : Calls Tryz.prog 137 #[.agg (thingC 1 0 0)] w fun e w' => e = .returned (.int .i64 0) ∧ Kept [] w w' := by
  have hm := heap_alloc_new w (.cells (thingC 1 0 0) 50)
  have hk := (Kept.refl [] w).alloc (.cells (thingC 1 0 0) 50)
  unfold thingC at hm hk ⊢
  go_enter Tryz.func137, Tryz.ntmps137
  go_upto_region 1 with fail
  generalize w.alloc (.cells #[.int .i64 1, .int .i64 0, .int .i64 0, .int .i64 0, .slice none 0 0, .slice none 0 0, .int .i64 0] 50) = w1 at *
  generalize w.heap.size = b at *
  have c0 := cell_whole hm 0
  have c4 := cell_whole hm 4
  have bl := lt_whole hm
  simp only [List.getElem?_toArray, List.getElem?_cons_zero, List.getElem?_cons_succ] at c0 c4
  clear hm
  go_wp2
  go_loopw [3, 4, 5, 6, 7, 8, 9] (fun v3 _ _ _ v7 _ _ wr => v3 = .int .i64 0 ∧ v7 = .int .i64 0 ∧ wr = w1) (fun _ _ _ _ _ _ _ _ => 0)
  case atStart => exact ⟨rfl, rfl, rfl⟩
  case round =>
    obtain ⟨rfl, rfl, rfl⟩ := hrel
    go_wp2
    go_ret
    exact ⟨rfl, hk⟩
set_option maxRecDepth 100000 in
set_option maxHeartbeats 2000000 in
theorem rslots_walk (w : World) : Calls Tryz.prog 138 #[.agg (nodeC 2 2 1), .slice none 0 0] w fun e w' => e = .returned (.tuple #[.slice none 0 0, .bool true]) ∧ Kept [] w w' := by
  have hm := heap_alloc_new w (.cells (nodeC 2 2 1) 134)
  have hk := (Kept.refl [] w).alloc (.cells (nodeC 2 2 1) 134)
  have c3 : (w.alloc (.cells (nodeC 2 2 1) 134)).cell? ⟨w.heap.size, 3, none⟩ = some (.int .i64 0) := cell_whole hm 3
  have bl := lt_whole hm
  unfold nodeC at c3 bl hk ⊢
  clear hm
  go_enter Tryz.func138, Tryz.ntmps138
  go_upto_region 1 with fail
  generalize w.alloc (.cells #[.int .i64 2, .int .i64 2, .int .i64 1, .int .i64 0, .int .i64 0, .int .i64 0, .int .i64 0, .int .i64 0, .int .i64 0, .int .i64 0, .int .i64 0, .int .i64 0, .int .i64 0, .int .i64 0, .int .i64 0, .int .i64 0, .int .i64 0] 134) = w1 at *
  generalize w.heap.size = b at *
  go_wp2
  go_loopw [6, 7, 8, 9, 10, 11, 12] (fun v6 v7 v8 _ _ _ _ wr => v6 = .slice none 0 0 ∧ v7 = .bool true ∧ v8 = .int .i64 0 ∧ wr = w1) (fun _ _ _ _ _ _ _ _ => 0)
  case atStart => exact ⟨rfl, rfl, rfl, rfl⟩
  case round =>
    obtain ⟨rfl, rfl, rfl, rfl⟩ := hrel
    go_wp2
    refine bodyPost_ret (results_tmp2 rfl _ _ _) rfl ?_
    exact ⟨rfl, hk⟩
set_option maxRecDepth 100000 in
set_option maxHeartbeats 4000000 in
theorem rpieces_walk (t : Nat) (hv : Array Value) (w : World) (hs : hv.size = 6) : Calls Tryz.prog 135 #[.pointer (some ⟨t, 0, none⟩), .agg hv, .agg (nodeC 2 2 1)] w fun e w' => e = .returned (.tuple #[.slice none 0 0, .bool true]) ∧ Kept [] w w' := by
  have hm := heap_alloc_new (w.alloc (.cells hv 97)) (.cells (nodeC 2 2 1) 134)
  have hk := ((Kept.refl [] w).alloc (.cells hv 97)).alloc (.cells (nodeC 2 2 1) 134)
  rw [size_alloc] at hm
  have HM := Lib.hid hm
  have HK := Lib.hid hk
  have c15 : ((w.alloc (.cells hv 97)).alloc (.cells (nodeC 2 2 1) 134)).cell? ⟨w.heap.size + 1, 15, none⟩ = some (.int .i64 0) := cell_whole hm 15
  have c16 : ((w.alloc (.cells hv 97)).alloc (.cells (nodeC 2 2 1) 134)).cell? ⟨w.heap.size + 1, 16, none⟩ = some (.int .i64 0) := cell_whole hm 16
  have bl := lt_whole hm
  unfold nodeC at c15 c16 bl HM HK ⊢
  clear hm hk
  go_enter Tryz.func135, Tryz.ntmps135
  go_upto_region 1 with fail
  generalize (w.alloc (.cells hv 97)).alloc (.cells #[.int .i64 2, .int .i64 2, .int .i64 1, .int .i64 0, .int .i64 0, .int .i64 0, .int .i64 0, .int .i64 0, .int .i64 0, .int .i64 0, .int .i64 0, .int .i64 0, .int .i64 0, .int .i64 0, .int .i64 0, .int .i64 0, .int .i64 0] 134) = w1 at *
  generalize w.heap.size + 1 = b at *
  go_wp2
  go_loopw [8, 9, 10] (fun v8 v9 _ wr => ∃ k : Nat, k ≤ 10 ∧ v8 = .slice none 0 0 ∧ v9 = .int .i64 k ∧ wr = w1) (fun _ v9 _ _ => 10 - (intOf v9).toNat)
  case atStart => exact ⟨0, by omega, rfl, rfl, rfl⟩
  case round =>
    obtain ⟨k, hk, rfl, rfl, rfl⟩ := hrel
    by_cases hlt : k < 10
    · have hc : wr.cell? ⟨b, 5 + k, none⟩ = some (.int .i64 0) := by
        have h1 := cell_whole HM.out (5 + k)
        rw [h1]
        exact nodeC_zero 2 2 1 k (by omega)
      clear c15 c16
      go_wp2
      go_roundw
      case rel => exact ⟨k + 1, by omega, rfl, by go_num, trivial⟩
      case measure => simp [intOf]; omega
    · obtain rfl : k = 10 := by omega
      go_wp2
      refine bodyPost_ret (results_tmp2 rfl _ _ _) rfl ?_
      exact ⟨rfl, HK.out⟩
end Go.Proofs.YtikfphojehgpjaaGreatDoor
