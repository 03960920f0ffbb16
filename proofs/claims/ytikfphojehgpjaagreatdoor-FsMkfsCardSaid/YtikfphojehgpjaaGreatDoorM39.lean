/- vellumref13: Recover. -/
import Derived.Test.YtikfphojehgpjaaGreatDoorM38
import Derived.Test.YtikfphojehgpjaaGreatDoorM32
import Derived.Deep.RegionHeld3
import Derived.Deep.AppendLies
set_option linter.unusedSimpArgs false
set_option linter.unusedVariables false
namespace Go.Proofs.YtikfphojehgpjaaGreatDoor
open Go.RowKit Vl Go.Maps Go.ChangeMaps
set_option linter.unusedVariables false
set_option linter.unusedSimpArgs false
def RRecPost (l : List UInt8) (S L N : Nat) (w : World) (e : Ending) (w' : World) : Prop := ∃ ba cb, e = .returned (.tuple #[.agg (homeC (layOf S L N) ba (layOf S L N).blocks cb), .int .i64 0]) ∧ RHome w' ba (layOf S L N).blocks (fun b => chunk l ((layOf S L N).home + b)) ∧ Kept [] w w'
set_option maxRecDepth 100000 in
set_option maxHeartbeats 4000000 in
theorem recover_walk (l : List UInt8) (S L N ga oa c : Nat) (w : World) (h : BytesAt w (some ⟨ga, oa, none⟩) l) (hi : ImOk l S L N) (hc : 512 * S ≤ c) (hc2 : c ≤ 1000000000) :
    Calls Tryz.prog 26 #[.slice (some ⟨ga, oa, none⟩) (512 * S : Nat) c] w (RRecPost l S L N w) := by
  have HG := Lib.hid (Geo.of hi.geo)
  have g1 := HG.out.s1
  have g2 := HG.out.s2
  have HI := Lib.hid hi
  have HW := Lib.hid h
  have hka := (Kept.refl [] w).alloc (.cells #[.int .i64 0, .int .i64 0, .int .i64 0, .int .i64 0, .int .i64 0, .slice none 0 0] 97)
  have hb0 := heap_alloc_new w (.cells #[.int .i64 0, .int .i64 0, .int .i64 0, .int .i64 0, .int .i64 0, .slice none 0 0] 97)
  have HLD := Lib.hid (rload_walk l S ga oa c (w.alloc (.cells #[.int .i64 0, .int .i64 0, .int .i64 0, .int .i64 0, .int .i64 0, .slice none 0 0] 97)) (h.below hka.below) hi.len (by omega) (by omega) hc)
  have hs1 := size_alloc w (.cells #[.int .i64 0, .int .i64 0, .int .i64 0, .int .i64 0, .int .i64 0, .slice none 0 0] 97)
  clear h hi
  go_enter Tryz.func26, Tryz.ntmps26
  go_upto_region 1 with fail
  generalize w.alloc (.cells #[.int .i64 0, .int .i64 0, .int .i64 0, .int .i64 0, .int .i64 0, .slice none 0 0] 97) = w1 at *
  generalize hwb : w.heap.size = b at *
  have HSM := Lib.hid hwb
  have HK1 := Lib.hid hka
  have HB1 := Lib.hid hb0
  have HS1 := Lib.hid hs1
  clear hka hb0 hwb hs1
  go_wp2_with fail
  refine HLD.out.mono ?_
  rintro e w2 ⟨p, rfl, hrd, hk2⟩
  have hkb : Kept [] w1 w2 := Kept.of_below hk2
  have HK2 := Lib.hid (HK1.out.trans hkb (by simp))
  have HB2 := Lib.hid (hkb.keep HB1.out (by simp))
  have HIM := Lib.hid (HW.out.below HK2.out.below)
  have hsub := HIM.out.sub (512 * 0) 512
  rw [show (l.drop (512 * 0)).take 512 = superB S L N from HI.out.sup, Nat.mul_zero, Nat.add_zero] at hsub
  have HDS := Lib.hid (rdecSuper_walk S L N w2 (some ⟨ga, oa, none⟩) c hsub HG.out HI.out.q1 HI.out.q2 HI.out.q3)
  have HRD := Lib.hid hrd
  clear hrd hk2 hkb hsub HLD
  go_wp2_with fail
  refine HDS.out.mono ?_
  rintro e w3 ⟨rfl, hk3⟩
  have hnew := heap_alloc_new w3 (.cells #[.int .i64 0, .int .i64 0, .int .i64 0] 53)
  have hsb := heap_alloc_new w3 (.cells #[.int .i64 S, .int .i64 L, .int .i64 N] 53)
  have hk4 := hk3.alloc (.cells #[.int .i64 S, .int .i64 L, .int .i64 N] 53)
  have HK4 := Lib.hid (HK2.out.trans hk4 (by simp))
  have HB4 := Lib.hid (hk4.keep HB2.out (by simp))
  have HRD4 := Lib.hid (HRD.out.below (hk4.below.mono (by omega)))
  have HNEW := Lib.hid hnew
  clear hnew hk3 hk4 HDS HB2 HRD HIM HK2
  go_upto_region 5 with (refine wpList_store_row rfl 53 _ _ rfl w3.heap.size #[.int .i64 S, .int .i64 L, .int .i64 N] rfl rfl 53 _ HNEW.out size53 rfl rfl ?_)
  generalize w3.heap.size = s6 at *
  generalize w3.alloc (.cells #[.int .i64 S, .int .i64 L, .int .i64 N] 53) = w4 at *
  have c0 := cell_whole hsb 0
  have c1 := cell_whole hsb 1
  have l6 := lt_whole hsb
  simp only [List.getElem?_toArray, List.getElem?_cons_zero, List.getElem?_cons_succ] at c0 c1
  have HSB := Lib.hid hsb
  have HPL := Lib.hid (refplan_nat S L N w4 HI.out.geo)
  clear hsb HNEW
  go_wp2_with (refine wpList_load_row rfl 53 _ rfl s6 rfl 53 _ (0, 0) _ HSB.out Tryz.underlying53 rfl size53 ?_)
  refine HPL.out.mono ?_
  rintro e w5 ⟨rfl, hk5⟩
  obtain ⟨Y, hY⟩ : ∃ Y, layOf S L N = Y := ⟨_, rfl⟩
  have hy1 : Y.home + Y.blocks ≤ S := by rw [← hY]; show 3 + L + (S - (3 + L)) ≤ S; omega
  have hy2 : 1 ≤ Y.blocks := by rw [← hY]; show 1 ≤ S - (3 + L); omega
  rw [hY]
  have HYY := Lib.hid hY
  unfold Lay.vals
  have hnew := heap_alloc_new w5 (.cells #[.int .i64 0, .int .i64 0, .int .i64 0, .int .i64 0, .int .i64 0] 94)
  have hv8 := heap_alloc_new w5 (.cells #[.int .i64 Y.log, .int .i64 Y.home, .int .i64 Y.blocks, .int .i64 Y.nodes, .int .i64 Y.data] 94)
  have hk6 := hk5.alloc (.cells #[.int .i64 Y.log, .int .i64 Y.home, .int .i64 Y.blocks, .int .i64 Y.nodes, .int .i64 Y.data] 94)
  have HK6 := Lib.hid (HK4.out.trans hk6 (by simp))
  have HB6 := Lib.hid (hk6.keep HB4.out (by simp))
  have hrd6 := HRD4.out.below (hk6.below.mono (by omega))
  have HSB6 := Lib.hid (hk6.keep HSB.out (by simp))
  have HNEW := Lib.hid hnew
  clear hnew hk5 hk6 HPL HB4 HRD4 HK4 HSB c0 c1 l6 hY
  go_upto_region 8 with (refine wpList_store_row rfl 94 _ _ rfl w5.heap.size #[.int .i64 Y.log, .int .i64 Y.home, .int .i64 Y.blocks, .int .i64 Y.nodes, .int .i64 Y.data] rfl rfl 94 _ HNEW.out size94 rfl rfl ?_)
  generalize w5.heap.size = s8 at *
  generalize w5.alloc (.cells #[.int .i64 Y.log, .int .i64 Y.home, .int .i64 Y.blocks, .int .i64 Y.nodes, .int .i64 Y.data] 94) = w6 at *
  have c1 := cell_whole HSB6.out 1
  have l6 := lt_whole HSB6.out
  simp only [List.getElem?_toArray, List.getElem?_cons_zero, List.getElem?_cons_succ] at c1
  have HV8 := Lib.hid hv8
  have HOP := Lib.hid (rwopen_walk hrd6 (by omega) L ⟨HG.out.l1, HG.out.l2⟩ (by omega) HI.out.ring HI.out.seven HI.out.left HI.out.right)
  have hpb := hrd6.lo
  have HPB := Lib.hid hpb
  have HNE := Lib.hid (show s8 ≠ p from fun e => by
    obtain ⟨a, c, h217, _⟩ := hrd6.form
    rw [← e, hv8] at h217
    injection h217 with h217
    injection h217 with _ h4 _
    exact absurd h4 (by decide))
  clear hv8 HNEW hrd6 hpb
  go_wp2_with fail
  refine HOP.out.mono ?_
  rintro e w7 ⟨lg, rfl, _, hk7⟩
  have HK7 := Lib.hid (HK6.out.trans hk7 (by have := HPB.out; have := HSM.out; have := HS1.out; simp; omega))
  have HB7 := Lib.hid (hk7.keep HB6.out (by have := HPB.out; have := HS1.out; simp; omega))
  have HV7 := Lib.hid (hk7.keep HV8.out (by have := HNE.out; simpa using this))
  have HN7 := Lib.hid (heap_alloc_new w7 (.cells #[.int .i64 0, .int .i64 0, .int .i64 0, .int .i64 0, .int .i64 0, .slice none 0 0] 97))
  clear c1 l6 hk7 HOP HB6 HK6 HSB6 HV8
  go_upto_region 16 with (first | (refine wpList_load_row rfl 94 _ rfl s8 rfl 94 _ (0, 0) _ HV7.out Tryz.underlying94 rfl size94 ?_) | (refine wpList_store_row rfl 97 _ _ rfl w7.heap.size #[.int .i64 Y.log, .int .i64 Y.home, .int .i64 Y.blocks, .int .i64 Y.nodes, .int .i64 Y.data, .slice none 0 0] rfl rfl 97 _ HN7.out size97 rfl rfl ?_))
  have hn11 := heap_alloc_new w7 (.cells #[.int .i64 Y.log, .int .i64 Y.home, .int .i64 Y.blocks, .int .i64 Y.nodes, .int .i64 Y.data, .slice none 0 0] 97)
  have hk8 := (Kept.refl [] w7).alloc (.cells #[.int .i64 Y.log, .int .i64 Y.home, .int .i64 Y.blocks, .int .i64 Y.nodes, .int .i64 Y.data, .slice none 0 0] 97)
  have HK8 := Lib.hid (HK7.out.trans hk8 (by simp))
  have HB8 := Lib.hid (hk8.keep HB7.out (by simp))
  have HV8 := Lib.hid (hk8.keep HV7.out (by simp))
  have HIM := Lib.hid (HW.out.below HK8.out.below)
  have h11b : b < w7.heap.size := lt_whole HB7.out
  have h11s : s8 < w7.heap.size := lt_whole HV7.out
  generalize w7.heap.size = n11 at *
  generalize w7.alloc (.cells #[.int .i64 Y.log, .int .i64 Y.home, .int .i64 Y.blocks, .int .i64 Y.nodes, .int .i64 Y.data, .slice none 0 0] 97) = W at *
  have HN11 := Lib.hid hn11
  have hnW := lt_whole hn11
  have hgW := HIM.out
  clear hn11 hk8 HN7 HV7 HB7 HK7 hgW
  go_wp2
  go_loopw [12, 13] (fun v12 _ wr => ∃ (k : Nat) (v : Value), k ≤ Y.blocks ∧ v12 = .int .i64 k ∧ wr.heap[n11]? = some (.cells #[.int .i64 Y.log, .int .i64 Y.home, .int .i64 Y.blocks, .int .i64 Y.nodes, .int .i64 Y.data, v] 97 (0, 0)) ∧ wr.ownsRow W.heap.size 22 1 v k (hslices ga oa c Y.home k) ∧ Kept [n11] W wr) (fun v12 _ _ => Y.blocks - (intOf v12).toNat)
  case atStart => exact ⟨0, .slice none 0 0, by omega, rfl, HN11.out, World.ownsRow_nil _ _ _ _, Kept.refl _ _⟩
  case round =>
    obtain ⟨k, v, hk, rfl, hn, hown, hkr⟩ := hrel
    have hv := hkr.keep HV8.out (by simp; omega)
    have d1 := cell_whole hv 1
    have d2 := cell_whole hv 2
    have ld := lt_whole hv
    simp only [List.getElem?_toArray, List.getElem?_cons_zero, List.getElem?_cons_succ] at d1 d2
    have HKR := Lib.hid hkr
    have HN := Lib.hid hn
    have HOWN := Lib.hid hown
    have HKW := Lib.hid (HK8.out.trans hkr (by have := HSM.out; simp; omega))
    clear hkr hn hown hv
    by_cases hlt : k < Y.blocks
    · go_upto_region 20 with fail
      obtain ⟨o, ho⟩ : ∃ o, o = 512 * (Y.home + k) := ⟨_, rfl⟩
      have ho1 : (((Y.home : Int) + (k : Int)) * 512) = (o : Int) := by omega
      have hoc : o + 512 ≤ c := by omega
      rw [ho1]
      have HO := Lib.hid ho
      obtain ⟨i0, hi0, hz0, hz1, hz2⟩ := info_parts info22
      have hw7 : IntKind.wrap .i64 ((o : Int) + 512) = (o : Int) + 512 := IntWalk.i64_in _ (by omega)
      have hz7 : (0 : Int) ≤ (o : Int) + 512 := by omega
      have ht7 : ((o : Int) + 512).toNat = o + 512 := by omega
      have hle7 : (o : Int) + 512 ≤ (c : Int) := by omega
      have hge7 : (o : Int) ≤ (o : Int) + 512 := by omega
      have hge8 : o ≤ o + 512 := by omega
      have hlt8 : o < c := by omega
      have hsub : o + 512 - o = 512 := by omega
      have d5 := cell_whole HN.out 5
      have ln := lt_whole HN.out
      simp only [List.getElem?_toArray, List.getElem?_cons_zero, List.getElem?_cons_succ] at d5
      have hBW : W.heap.size ≤ wr.heap.size := HKR.out.size
      clear ho ho1 d1 d2
      refine wp_canon (by kernel_rfl) (by kernel_rfl) ?_
      go_wp2_with (at_builtin; refine wpList_append_own _ rfl _ _ 95 rfl W.heap.size 22 i0 (.slice none 0 0) 1 24 Tryz.underlying95 hi0 hz0 hz1 hz2 rfl (by decide) _ k _ rfl (World.ownsRow.alloc HOWN.out _) ⟨wr.heap.size, 0, none⟩ 1 1 [_] rfl rfl (new_one _ _ _ _ rfl) (Vl.one_cell rfl) (by unfold maxLen; omega) (by omega) (le_alloc hBW _) ?_)
      intro v10 w10 h10 hg10 _
      obtain ⟨a10, e10, hv10⟩ := row_form h10
      have hp10 := grown_whole hg10 (alloc_whole HN.out) (fun e => by have := (row_blk HOWN.out e).1; omega)
      have hk10 := ((HKR.out.alloc _).drew.grown hg10 (fun j hj => .inr (row_blk HOWN.out hj).1)).setCell ⟨n11, 5, none⟩ v10 (.inl (by simp))
      have hpc := set_whole (i := 5) hp10 v10
      have hoc := row_kept h10 ((Kept.refl [n11] w10).setCell ⟨n11, 5, none⟩ v10 (.inl (by simp))) (by simp; omega)
      rw [HO.out, ← hslices_succ] at hoc
      have c5 := cell_whole hp10 5
      have f5 := frozen_whole hp10 5
      have l5 := lt_whole hp10
      simp only [List.getElem?_toArray, List.getElem?_cons_zero, List.getElem?_cons_succ] at c5
      have HPC := Lib.hid hpc
      have HOC := Lib.hid hoc
      have HKC := Lib.hid hk10
      clear hp10 hk10 hpc hoc h10 hg10 HN HOWN HKR HKW d5 ln
      subst hv10
      go_wp2
      refine ⟨rfl, ?_⟩
      go_wp2
      go_roundw
      case rel => exact ⟨k + 1, _, by omega, by go_num, HPC.out, HOC.out, HKC.out⟩
      case measure => simp [intOf]; omega
    · obtain rfl : k = Y.blocks := by omega
      have hBW : W.heap.size ≤ wr.heap.size := HKR.out.size
      obtain ⟨g, cb, rfl, hg5, hgl⟩ := row_some HOWN.out (by omega)
      have hb9 := HKR.out.keep HB8.out (by simp; omega)
      have HB9 := Lib.hid hb9
      have HRR := Lib.hid (setRow_heap wr b _ #[.int .i64 Y.log, .int .i64 Y.home, .int .i64 Y.blocks, .int .i64 Y.nodes, .int .i64 Y.data, .slice (some ⟨g, 0, none⟩) Y.blocks cb] 97 (0, 0) hb9)
      have hks := kept_setRow wr b #[.int .i64 Y.log, .int .i64 Y.home, .int .i64 Y.blocks, .int .i64 Y.nodes, .int .i64 Y.data, .slice (some ⟨g, 0, none⟩) Y.blocks cb]
      have HKS := Lib.hid (HKW.out.trans hks (by have := HSM.out; simp; omega))
      have HONE := Lib.hid (show ((#[.int .i64 Y.log, .int .i64 Y.home, .int .i64 Y.blocks, .int .i64 Y.nodes, .int .i64 Y.data, .slice (some ⟨g, 0, none⟩) Y.blocks cb] : Array Value).all (·.oneCell') = true) by simp [Value.oneCell'])
      have HHS := Lib.hid (home_of (row_kept HOWN.out hks (by simp; omega)) (HW.out.below HKS.out.below) HI.out.len hy1 hc)
      clear hb9 hks
      go_wp2
      go_loopw [14, 15, 16] (fun v14 _ _ wr2 => v14 = .int .i64 0 ∧ wr2 = wr) (fun _ _ _ _ => 0)
      case atStart => exact ⟨rfl, rfl⟩
      case round =>
        obtain ⟨rfl, rfl⟩ := hrel
        go_wp2_with (first | (refine wpList_load_row rfl 97 _ rfl n11 rfl 97 _ (0, 0) _ HN.out Tryz.underlying97 rfl size97 ?_) | (refine wpList_store_row rfl 97 _ _ rfl b #[.int .i64 Y.log, .int .i64 Y.home, .int .i64 Y.blocks, .int .i64 Y.nodes, .int .i64 Y.data, .slice (some ⟨g, 0, none⟩) Y.blocks cb] rfl rfl 97 _ HB9.out size97 rfl HONE.out ?_))
        refine bodyPost_ret (results_row_tmp (P := Tryz.prog) (p := 2) (u := 3) (ty := 97) rfl _ _ b 97 #[.int .i64 Y.log, .int .i64 Y.home, .int .i64 Y.blocks, .int .i64 Y.nodes, .int .i64 Y.data, .slice (some ⟨g, 0, none⟩) Y.blocks cb] (0, 0) _ rfl HRR.out Tryz.underlying97 rfl size97) rfl ?_
        exact ⟨g, cb, by rw [HYY.out]; rfl, by rw [HYY.out]; exact HHS.out, HKS.out⟩
end Go.Proofs.YtikfphojehgpjaaGreatDoor
