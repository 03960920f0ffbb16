/- DumpRound. -/
import Derived.Test.YtenpihkfghfpaaaDoorDOneByte
import Derived.Test.YtenpihkfghfpaaaDoorDListed
namespace Go.Proofs.YtenpihkfghfpaaaDoor
open Go.RowKit Vl Go.Maps
set_option linter.unusedVariables false

theorem spec_bad {L : List Itm} {b : List UInt8} {e : Nat} (h : packSpec L = (b, e)) (he : e ≠ 0) : b = [] ∧ (e = 7 ∨ e = 150) := by
  unfold packSpec at h
  split at h
  · cases h; exact ⟨rfl, .inl rfl⟩
  · split at h
    · cases h; exact ⟨rfl, .inr rfl⟩
    · split at h
      · cases h; exact ⟨rfl, .inl rfl⟩
      · cases h; exact absurd rfl he
/-- What List answers of a changed archive. -/
theorem listOf_cases (a : List UInt8) (h : a.length ≤ 4194304) : (∃ M, listOf (parseD a) a = (M, 0) ∧ packSpec M = (a, 0)) ∨ listOf (parseD a) a = ([], 150) := by
  unfold listOf
  rw [if_neg (by omega)]
  cases hp : parseD a with
  | none => exact .inr rfl
  | some M =>
    simp only
    split
    · rename_i h1; exact .inl ⟨M, rfl, h1⟩
    · exact .inr rfl

set_option maxRecDepth 100000 in
set_option maxHeartbeats 4000000 in
theorem dumpRound_walk (L : List Itm) (k at_ v : Int) (back sum : Bool) (a : Option Addr) (c : Nat) (w : World) (h : ItemsAt w a L) (hs : SizeAll L) (hL : L.length * 96 ≤ 140737488351232) (hat : -9223372036854775808 ≤ at_ ∧ at_ ≤ 9223372036854775807) (hM : MaxAt w) :
    Calls Tryd.prog 5 #[.slice a L.length c, .agg #[.int .i64 k, .int .i64 at_, .int .i64 v, .bool back, .bool sum]] w fun e w' => e = .returned (.bool true) ∧ Below w.heap.size w w' := by
  have H := Lib.hid h
  have HS := Lib.hid hs
  have HM := Lib.hid hM
  have h1 := heap_alloc_new w (.cells #[.int .i64 k, .int .i64 at_, .int .i64 v, .bool back, .bool sum] 39)
  have hb1 : Below w.heap.size w (w.alloc (.cells #[.int .i64 k, .int .i64 at_, .int .i64 v, .bool back, .bool sum] 39)) := (Below.refl _ _).alloc (Nat.le_refl _) _
  have HB1 := Lib.hid hb1
  have HQ1 := Lib.hid h1
  clear h h1 hb1 hs hM
  go_enter Tryd.func5, Tryd.ntmps5
  go_upto_region 1 with fail
  generalize w.alloc (.cells #[.int .i64 k, .int .i64 at_, .int .i64 v, .bool back, .bool sum] 39) = w1 at *
  obtain ⟨q, hq⟩ : ∃ q, q = w.heap.size := ⟨_, rfl⟩
  rw [← hq] at HQ1 ⊢
  have HQE := Lib.hid hq
  clear hq
  have HF := Lib.hid (first_walk w1 (HM.out.below HB1.out))
  go_wp2_with fail
  refine HF.out.mono ?_
  rintro e w2 ⟨rfl, hb2⟩
  have HB2 := Lib.hid (HB1.out.trans (hb2.mono HB1.out.size))
  have HQ2 := Lib.hid ((hb2.block q (lt_whole HQ1.out)).trans HQ1.out)
  have HTW := Lib.hid (twins_walk L a c w2 (H.out.below HB2.out) HS.out hL)
  clear hb2 HF HQ1 HB1
  go_wp2_with fail
  refine HTW.out.mono ?_
  rintro e w3 ⟨tv, rfl, ⟨ds, hio⟩, hb3⟩
  obtain ⟨ta, tc, rfl⟩ := row_form hio.row
  have HB3 := Lib.hid (HB2.out.trans (hb3.mono HB2.out.size))
  have HQ3 := Lib.hid ((hb3.block q (lt_whole HQ2.out)).trans HQ2.out)
  have HP := Lib.hid (pack_walk L ta tc w3 (hio.at).2 HS.out (HM.out.below HB3.out))
  clear hb3 HTW hio HB2 HQ2
  go_wp2_with fail
  refine HP.out.mono ?_
  rintro e w4 ⟨pv, rfl, hown, hb4⟩
  obtain ⟨pa, pc, rfl⟩ := hown.form
  have HB4 := Lib.hid (HB3.out.trans (hb4.mono HB3.out.size))
  have HQ4 := Lib.hid ((hb4.block q (lt_whole HQ3.out)).trans HQ3.out)
  have HO := Lib.hid hown
  have hqw3 : q ≤ w3.heap.size := by have := lt_whole HQ3.out; omega
  clear hb4 HP hown HB3 HQ3
  rcases hps : packSpec L with ⟨pb, pe⟩
  rw [hps] at HO
  simp only at HO ⊢
  by_cases he : pe = 0
  · subst he
    have HPS := Lib.hid hps
    have hpl : pb.length ≤ 4194304 := (packSpec_ok hps).2.2.2
    have HLP := Lib.hid (list_pack hps)
    clear hps
    go_wp2_with fail
    refine (num_walk _ _).mono ?_
    rintro e w5 ⟨rfl, rfl⟩
    have HTB := Lib.hid (twin_walk pb pa pc w5 (BytesAt.of_own HO.out).2 (by omega))
    go_wp2_with fail
    refine HTB.out.mono ?_
    rintro e w6 ⟨bv, rfl, hown6, hb6⟩
    obtain ⟨b6, c6, rfl⟩ := hown6.form
    have HB6 := Lib.hid (HB4.out.trans (hb6.mono HB4.out.size))
    have HQ6 := Lib.hid ((hb6.block q (lt_whole HQ4.out)).trans HQ4.out)
    have HO6 := Lib.hid (own_kept HO.out hb6)
    have HL6 := Lib.hid (list_walk pb b6 c6 w6 (BytesAt.of_own hown6).2 (own_cap hown6) (by omega) (HM.out.below HB6.out))
    rw [HLP.out] at HL6
    clear hown6 hb6 HTB HO HB4 HQ4
    go_wp2_with fail
    refine HL6.out.mono ?_
    rintro e w7 ⟨lv, rfl, hb7, ds7, hio7⟩
    obtain ⟨la, lc, rfl⟩ := row_form hio7.row
    have HB7 := Lib.hid (HB6.out.trans (hb7.mono HB6.out.size))
    have HQ7 := Lib.hid ((hb7.block q (lt_whole HQ6.out)).trans HQ6.out)
    have HO7 := Lib.hid (own_kept HO6.out hb7)
    have HSI := Lib.hid (sameItems_walk L L la a lc c w7 (hio7.at).2 (H.out.below HB7.out) HS.out HS.out)
    rw [decide_eq_true rfl] at HSI
    simp only
    clear hio7 hb7 HL6 HO6 HB6 HQ6
    go_wp2_with fail
    refine (num_walk _ _).mono ?_
    rintro e w8 ⟨rfl, rfl⟩
    go_wp2_with fail
    refine HSI.out.mono ?_
    rintro e w9 ⟨rfl, hb9⟩
    have HB9 := Lib.hid (HB7.out.trans (hb9.mono HB7.out.size))
    have hq9 := (hb9.block q (lt_whole HQ7.out)).trans HQ7.out
    have HQ9 := Lib.hid hq9
    have HO9 := Lib.hid (own_kept HO7.out hb9)
    have f0 := frozen_whole hq9 0
    have c0 := cell_whole hq9 0
    have c1 := cell_whole hq9 1
    have c2 := cell_whole hq9 2
    have c3 := cell_whole hq9 3
    have c4 := cell_whole hq9 4
    simp only [List.getElem?_toArray, List.getElem?_cons_succ, List.getElem?_cons_zero] at c0 c1 c2 c3 c4
    clear hb9 HSI HO7 HB7 HQ7 hq9
    go_upto_region 10 with fail
    have hqb : w.heap.size ≤ q := by have := HQE.out; omega
    have HBA := Lib.hid (HB9.out.setCell (p := ⟨q, 0, none⟩) hqb (.int .i64 0))
    have HQA := Lib.hid (show (w9.setCell ⟨q, 0, none⟩ (.int .i64 0)).heap[q]? = some (.cells #[.int .i64 0, .int .i64 at_, .int .i64 v, .bool back, .bool sum] 39 (0, 0)) by rw [set_whole (i := 0) HQ9.out]; rfl)
    have HOA := Lib.hid (row_setCell (b := q) (i := 0) (u := .int .i64 0) HO9.out HQ9.out (by decide))
    clear f0 c0 c1 c2 c3 c4 HB9 HQ9 HO9
    generalize w9.setCell ⟨q, 0, none⟩ (.int .i64 0) = wA at *
    have c0 := cell_whole HQA.out 0
    have c1 := cell_whole HQA.out 1
    have c2 := cell_whole HQA.out 2
    have c3 := cell_whole HQA.out 3
    have c4 := cell_whole HQA.out 4
    simp only [List.getElem?_toArray, List.getElem?_cons_succ, List.getElem?_cons_zero] at c0 c1 c2 c3 c4
    have HCH := Lib.hid (changed_walk pb 0 at_ v back sum pa pc wA (BytesAt.of_own (show Own wA _ 5 _ _ _ from HOA.out)).2 (by omega) hat)
    have hcl : (changedB pb 0 at_ v back sum).length ≤ 4194304 := by rw [changed_zero_len]; exact hpl
    have HREF := Lib.hid (fun (M : List Itm) (h : packSpec M = (changedB pb 0 at_ v back sum, 0)) (h2 : sum = false) => (show changedB pb 0 at_ v back sum = pb by subst h2; exact changed_refused at_ v back HPS.out h))
    go_wp2_with fail
    refine HCH.out.mono ?_
    rintro e wB ⟨r, rfl, ⟨na, nc, rfl, hna⟩, hbB⟩
    have HBB := Lib.hid (HBA.out.trans (hbB.mono HBA.out.size))
    have hqB := (hbB.block q (lt_whole HQA.out)).trans HQA.out
    have HQB := Lib.hid hqB
    have HOB := Lib.hid (own_kept (show Own wA _ 5 _ _ _ from HOA.out) hbB)
    have HNA := Lib.hid hna
    generalize changedB pb 0 at_ v back sum = cb at *
    have HTC := Lib.hid (twin_walk cb na nc wB HNA.out (by omega))
    clear hbB hqB HCH HOA HBA HQA c0 c1 c2 c3 c4 hna
    go_wp2_with fail
    refine HTC.out.mono ?_
    rintro e wC ⟨dv, rfl, hownC, hbC⟩
    obtain ⟨dC, eC, rfl⟩ := hownC.form
    have HBC := Lib.hid (HBB.out.trans (hbC.mono HBB.out.size))
    have HQC := Lib.hid ((hbC.block q (lt_whole HQB.out)).trans HQB.out)
    have HOC := Lib.hid (own_kept HOB.out hbC)
    have HNC := Lib.hid (HNA.out.below hbC)
    have HLC := Lib.hid (list_walk cb dC eC wC (BytesAt.of_own hownC).2 (own_cap hownC) (by omega) (HM.out.below HBC.out))
    have hMS := listOf_size cb
    clear hownC hbC HTC HOB HNA HBB HQB
    go_wp2_with fail
    refine HLC.out.mono ?_
    rintro e wD ⟨mv, rfl, hbD, dsD, hioD⟩
    have HBD := Lib.hid (HBC.out.trans (hbD.mono HBC.out.size))
    have hqD := (hbD.block q (lt_whole HQC.out)).trans HQC.out
    have HQD := Lib.hid hqD
    have HOD := Lib.hid (own_kept HOC.out hbD)
    have HND := Lib.hid (HNC.out.below hbD)
    have HPE := Lib.hid (show listOf (parseD pb) pb = (L, 0) from HLP.out)
    rcases listOf_cases cb (by omega) with ⟨M, hM1, hM2⟩ | hM1
    · rw [hM1] at hioD hMS ⊢
      simp only at hioD hMS ⊢
      obtain ⟨ma, mc, rfl⟩ := row_form hioD.row
      have HPM := Lib.hid (pack_walk M ma mc wD (hioD.at).2 hMS (HM.out.below HBD.out))
      have HCE := Lib.hid (fun h2 => HREF.out M hM2 h2)
      have HM2 := Lib.hid hM2
      clear hioD hbD HLC HOC HNC HBC HQC hqD hM1 hM2 hMS HREF
      go_wp2_with fail
      refine (num_walk _ _).mono ?_
      rintro e wE ⟨rfl, rfl⟩
      go_wp2_with fail
      refine HPM.out.mono ?_
      rintro e wF ⟨gv, rfl, hownF, hbF⟩
      rw [HM2.out] at hownF ⊢
      simp only at hownF ⊢
      obtain ⟨gF, fF, rfl⟩ := hownF.form
      have HBF := Lib.hid (HBD.out.trans (hbF.mono HBD.out.size))
      have HQF := Lib.hid ((hbF.block q (lt_whole HQD.out)).trans HQD.out)
      have HOF := Lib.hid (own_kept HOD.out hbF)
      have HNF := Lib.hid (HND.out.below hbF)
      have HSM := Lib.hid (same_walk cb cb gF na fF nc wF (BytesAt.of_own hownF).2 HNF.out (by omega) (by omega))
      rw [decide_eq_true rfl] at HSM
      clear hownF hbF HPM HOD HND HBD HQD
      go_wp2_with fail
      refine (num_walk _ _).mono ?_
      rintro e wG ⟨rfl, rfl⟩
      go_wp2_with fail
      refine HSM.out.mono ?_
      rintro e wH ⟨rfl, hbH⟩
      have HBH := Lib.hid (HBF.out.trans (hbH.mono HBF.out.size))
      have hqH := (hbH.block q (lt_whole HQF.out)).trans HQF.out
      have HOH := Lib.hid (own_kept HOF.out hbH)
      have HNH := Lib.hid (HNF.out.below hbH)
      have k4 := cell_whole hqH 4
      simp only [List.getElem?_toArray, List.getElem?_cons_succ, List.getElem?_cons_zero] at k4
      have HSB := Lib.hid (same_walk cb pb na pa nc pc wH HNH.out (BytesAt.of_own HOH.out).2 (by omega) (by omega))
      clear hbH hqH HSM HOF HNF HBF HQF
      cases sum with
      | true =>
        go_wp2
        go_ret
        exact ⟨rfl, HBH.out⟩
      | false =>
        have hce := HCE.out rfl
        rw [decide_eq_true hce] at HSB
        clear hce
        go_wp2_with fail
        refine HSB.out.mono ?_
        rintro e wI ⟨rfl, hbI⟩
        have HBI := Lib.hid (HBH.out.trans (hbI.mono HBH.out.size))
        clear hbI
        go_wp2
        go_ret
        exact ⟨rfl, HBI.out⟩
    · have hne : cb ≠ pb := by
        intro e
        have h2 := HPE.out
        rw [← e, hM1] at h2
        simp at h2
      rw [hM1] at hioD hMS ⊢
      simp only at hioD hMS ⊢
      obtain ⟨ma, mc, rfl⟩ := row_form hioD.row
      have HSB := Lib.hid (same_walk cb pb na pa nc pc wD HND.out (BytesAt.of_own HOD.out).2 (by omega) (by omega))
      rw [decide_eq_false hne] at HSB
      clear hioD hbD HLC HOC HNC HBC HQC hqD hM1 hMS HREF hne
      simp only [List.length_nil]
      go_wp2_with fail
      refine (num_walk _ _).mono ?_
      rintro e wE ⟨rfl, rfl⟩
      go_wp2_with fail
      refine (num_walk _ _).mono ?_
      rintro e wF ⟨rfl, rfl⟩
      go_wp2_with fail
      refine HSB.out.mono ?_
      rintro e wG ⟨rfl, hbG⟩
      have HBG := Lib.hid (HBD.out.trans (hbG.mono HBD.out.size))
      clear hbG
      go_wp2
      go_ret
      exact ⟨rfl, HBG.out⟩
  · obtain ⟨rfl, h7⟩ := spec_bad hps he
    clear he hps
    simp only [List.length_nil]
    rcases h7 with rfl | rfl
    · go_wp2_with fail
      refine (num_walk _ _).mono ?_
      rintro e w5 ⟨rfl, rfl⟩
      go_wp2_with fail
      refine (num_walk _ _).mono ?_
      rintro e w6 ⟨rfl, rfl⟩
      go_wp2
      go_ret
      exact ⟨rfl, HB4.out⟩
    · go_wp2_with fail
      refine (num_walk _ _).mono ?_
      rintro e w5 ⟨rfl, rfl⟩
      go_wp2_with fail
      refine (num_walk _ _).mono ?_
      rintro e w6 ⟨rfl, rfl⟩
      go_wp2_with fail
      refine (num_walk _ _).mono ?_
      rintro e w7 ⟨rfl, rfl⟩
      go_wp2
      go_ret
      exact ⟨rfl, HB4.out⟩
end Go.Proofs.YtenpihkfghfpaaaDoor
