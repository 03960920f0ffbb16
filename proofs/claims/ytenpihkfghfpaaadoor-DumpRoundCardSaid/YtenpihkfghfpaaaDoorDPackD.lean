/- dump's Pack. -/
import Derived.Test.YtenpihkfghfpaaaDoorDRightD
namespace Go.Proofs.YtenpihkfghfpaaaDoor
open Go.RowKit Vl Go.Maps
set_option linter.unusedVariables false

theorem PK.of_all {L : List Itm} (h : rightAll L = true) : ∀ k, k ≤ L.length → PK L k := by
  intro k
  induction k with
  | zero => exact fun _ => PK.start L
  | succ k ih =>
    intro hk
    have h1 := ih (by omega)
    cases hr : rightAt (L.take k) (L[k]'(by omega)) with
    | false => rw [h1.stop (by omega) hr] at h; cases h
    | true => exact (h1.next (by omega) hr).1

theorem flat_mono (L : List Itm) (k : Nat) : ((L.take k).flatMap packItm).length ≤ (L.flatMap packItm).length := by
  conv => rhs; rw [← List.take_append_drop k L]
  rw [List.flatMap_append, List.length_append]
  omega

set_option maxRecDepth 100000 in
set_option maxHeartbeats 4000000 in
theorem pack_walk (L : List Itm) (a : Option Addr) (c : Nat) (w : World) (h : ItemsAt w a L) (hs : SizeAll L) (hM : MaxAt w) : Calls Tryd.prog 7 #[.slice a L.length c] w (PackPost L w) := by
  have hLn := hs.1
  by_cases hlong : 4096 < L.length
  · have HP := Lib.hid (spec_long hlong)
    have b1 : decide ((4096 : Int) < (L.length : Int)) = true := decide_eq_true (by omega)
    go_enter Tryd.func7, Tryd.ntmps7
    go_wp2
    go_ret2
    exact pack_bad HP.out (Below.refl _ _)
  · have b1 : decide ((4096 : Int) < (L.length : Int)) = false := decide_eq_false (by omega)
    have H := Lib.hid h
    have HLG := Lib.hid hlong
    have hL2 : L.length ≤ 4096 := by omega
    have HRW := Lib.hid (right_walk (H := Unit) L a c w h hs hM)
    clear h hs hlong hM
    cases hr : rightAll L
    · have HF := Lib.hid (spec_wrong HLG.out hr)
      rw [hr] at HRW
      clear hr
      go_enter Tryd.func7, Tryd.ntmps7
      go_wp2_with fail
      refine HRW.out.mono ?_
      rintro e w1 ⟨rfl, hb1⟩
      have HB1 := Lib.hid hb1
      clear hb1
      go_wp2
      go_ret2
      exact pack_bad HF.out HB1.out
    · have HPKA := Lib.hid (PK.of_all hr)
      have HALL := Lib.hid hr
      rw [hr] at HRW
      clear hr
      go_enter Tryd.func7, Tryd.ntmps7
      go_wp2_with fail
      refine HRW.out.mono ?_
      rintro e w1 ⟨rfl, hb1⟩
      have HB1 := Lib.hid hb1
      clear hb1
      have HNP := Lib.hid (newPacker_walk w1)
      go_wp2_with fail
      refine HNP.out.mono ?_
      rintro e w2 ⟨p, v, rfl, hp, hb2⟩
      have HP2 := Lib.hid hp
      have HB2 := Lib.hid hb2
      clear hp hb2
      have HPX := Lib.hid (HB1.out.trans (HB2.out.mono HB1.out.size))
      have hB12 : w.heap.size ≤ w1.heap.size := HB1.out.size
      have hB22 : w1.heap.size ≤ w2.heap.size := HB2.out.size
      go_wp2
      go_loopw [16] (fun v16 wr => ∃ k : Nat, k ≤ L.length ∧ v16 = .int .i64 k ∧ (∃ v, PkX wr w1.heap.size p k (magicB ++ (L.take k).flatMap packItm) v) ∧ ((L.take k).flatMap packItm).length ≤ 4194287 ∧ Below w1.heap.size w1 wr) (fun v16 _ => L.length - (intOf v16).toNat)
      case atStart => exact ⟨0, by omega, rfl, ⟨_, by simpa using HP2.out⟩, by simp, HB2.out⟩
      case round =>
        obtain ⟨k, hk, rfl, ⟨v, hp⟩, hfl, hbr⟩ := hrel
        have HP := Lib.hid hp
        have HBR := Lib.hid hbr
        have HBW := Lib.hid (HB1.out.trans (hbr.mono HB1.out.size))
        have hBr : w1.heap.size ≤ wr.heap.size := hbr.size
        clear hp hbr
        by_cases hlt : k < L.length
        · obtain ⟨g, off, ra, rc, da, dc, hit0⟩ := H.out k hlt
          have hit := hit0.below HBW.out
          have e := hit.addr
          subst e
          have c0 := hit.c0
          have c1 := hit.c1
          have c2 := hit.c2
          have c3 := hit.c3
          have c4 := hit.c4
          have c5 := hit.c5
          have HSUC := Lib.hid (flat_succ hlt)
          have HMO := Lib.hid (flat_mono L (k + 1))
          have HIT := Lib.hid (show ItemV w L[k] (.agg #[.int .i64 L[k].kind, .string (strOf L[k].path), .string (strOf L[k].target), .int .i64 L[k].size, .slice ra L[k].runs.length rc, .slice da L[k].data.length dc]) ra rc da dc from ⟨rfl, hit0.runs, hit0.data⟩)
          have hmem : L[k] ∈ L.take (k + 1) := by
            rw [List.take_succ_eq_append_getElem hlt]
            exact List.mem_append_right _ (List.mem_singleton_self _)
          have HFIT := Lib.hid ((HPKA.out (k + 1) (by omega)).fits _ hmem)
          clear hmem
          clear hit hit0
          generalize L[k] = x at *
          have hlen : (magicB ++ (L.take k).flatMap packItm).length ≤ 4194295 := by rw [List.length_append]; show 8 + _ ≤ _; omega
          have HADD := Lib.hid (add_walk w (wr.alloc (.cells #[.int .i64 x.kind, .string (strOf x.path), .string (strOf x.target), .int .i64 x.size, .slice ra x.runs.length rc, .slice da x.data.length dc] 47)) w1.heap.size p k v _ _ x ra da rc dc HIT.out HFIT.out (HBW.out.alloc HBW.out.size _) hB12 (le_alloc hBr _) (HP.out.alloc _) (by omega) (by omega))
          go_wp2_with fail
          refine HADD.out.mono ?_
          rintro e w3 ⟨rfl, v3, hp3, hr3⟩
          have HB3 := Lib.hid ((HBR.out.alloc hBr _).trans hr3.low)
          rw [List.append_assoc, ← HSUC.out] at hp3
          have HP3 := Lib.hid hp3
          have d0 := cell_whole hp3.blk 0
          simp only [List.getElem?_toArray, List.getElem?_cons_zero] at d0
          obtain ⟨a3, c3, rfl⟩ := hp3.own.form
          clear hp3 hr3 HADD
          obtain ⟨m, hm⟩ : ∃ m, m = (magicB ++ (L.take (k + 1)).flatMap packItm).length := ⟨_, rfl⟩
          have HM := Lib.hid (show m = 8 + ((L.take (k + 1)).flatMap packItm).length by rw [hm, List.length_append]; rfl)
          rw [← hm] at d0
          have HMM := Lib.hid hm
          clear hm
          have hmb : m ≤ 100000000 := by
            have h1 := HM.out
            have h2 := packLen_le HFIT.out
            rw [HSUC.out, List.length_append, packItm_length] at h1
            omega
          by_cases hg : 4194304 < m + 9
          · have HF := Lib.hid (spec_great HLG.out HALL.out (by rw [packAll_length]; have := HM.out; have := HMO.out; omega))
            have t1 : decide ((4194304 : Int) < (m : Int) + 9) = true := decide_eq_true (by omega)
            go_wp2
            go_ret2
            exact pack_bad HF.out (HB1.out.trans (HB3.out.mono HB1.out.size))
          · have t1 : decide ((4194304 : Int) < (m : Int) + 9) = false := decide_eq_false (by omega)
            go_wp2
            go_roundw
            case rel => exact ⟨k + 1, by omega, by go_num, ⟨_, HP3.out.x⟩, by have := HM.out; omega, HB3.out⟩
            case measure => simp [intOf]; omega
        · obtain rfl : k = L.length := by omega
          rw [List.take_length] at HP hfl
          have HG := Lib.hid (spec_good HLG.out HALL.out (by rw [packAll_length]; omega))
          have hlen : (magicB ++ L.flatMap packItm).length ≤ 4194295 := by rw [List.length_append]; show 8 + _ ≤ _; omega
          have HEND := Lib.hid (pend_walk w1.heap.size p L.length v _ wr (by omega) HP.out hBr (by omega))
          go_wp2_with fail
          refine HEND.out.mono ?_
          rintro e w3 ⟨v3, rfl, ho3, hb3⟩
          have HO3 := Lib.hid (show Own w3 w.heap.size 5 v3 (packAll L).length (bcells (packAll L)) from World.ownsRow.mono ho3 hB12)
          have HB3 := Lib.hid (HB1.out.trans ((HBR.out.trans hb3).mono HB1.out.size))
          clear ho3 hb3
          go_wp2
          go_ret2
          exact pack_good HG.out HO3.out HB3.out
end Go.Proofs.YtenpihkfghfpaaaDoor
