/- ShellOwn: the law's function, walked (under way). -/
import Derived.Test.YtheflheeaiopfaaDoorShOwnA
import Derived.Deep.CutBlock
namespace Go.Proofs.YtheflheeaiopfaaDoor
open Go.RowKit Vl
set_option linter.unusedVariables false

set_option maxRecDepth 1000000 in
set_option maxHeartbeats 4000000 in
theorem shellOwn_walk (ls : List ByteArray) (A : Option Addr) (C : Nat) (w : World) (hT : Lib.Utf8Tabs 0 1 w) (h : StringsAt w A ls) (hlen : ls.length ≤ maxLen) :
    Calls Tryd.prog 4 #[.slice A ls.length C] w fun e w' => e = .returned (.bool true) ∧ Keeps w.heap.size w w' := by
  obtain ⟨i0, hi, hz0, hz1, hz2⟩ := info_parts info22
  have HT := Lib.hid hT
  have H := Lib.hid h
  clear hT h
  unfold maxLen at hlen
  have hh := words_walk ⟨#[97, 32, 34, 98, 34]⟩ w HT.out (by unfold maxLen; decide)
  unfold WPost at hh
  rw [(own_head (bytes ⟨#[97, 32, 34, 98, 34]⟩) rfl).1, (own_head (bytes ⟨#[97, 32, 34, 98, 34]⟩) rfl).2] at hh
  have HH := Lib.hid hh
  clear hh
  go_enter Tryd.func4, Tryd.ntmps4
  go_wp2_with fail
  refine HH.out.mono ?_
  rintro e w1 ⟨v1, rfl, hO1, hB1⟩
  obtain ⟨a1, c1, rfl⟩ := hO1.form
  obtain ⟨g1, rfl, hc1⟩ := own_cell' hO1 (k := 0) (by simp)
  obtain ⟨g2, e2, hc2⟩ := own_cell' hO1 (k := 1) (by simp)
  cases e2
  have hc1' : w1.cell? ⟨g1, 0, none⟩ = some (.string ⟨#[97]⟩) := hc1
  have hc2' : w1.cell? ⟨g1, 1, none⟩ = some (.string ⟨#[98]⟩) := hc2
  have HO1 := Lib.hid hO1
  have HB1 := Lib.hid hB1
  clear hc1 hc2 hO1 hB1 HH
  go_upto_block 0 with fail
  go_cut [5, 7, 8, 9, 10, 11, 12, 13] from 48 to 109 (fun v5 v7 v8 v9 v10 v11 v12 v13 wr => ∃ L : List (Value × List (List UInt8)), L.length ≤ 10000 ∧ (∀ ws ∈ L.map (·.2), ws.length ≤ 65537) ∧ Kept wr w.heap.size v5 L ∧ Below w.heap.size w wr)
  case first =>
    go_wp2
    go_loopw [5, 7] (fun v5 v7 wr => ∃ (k : Nat) (L : List (Value × List (List UInt8))), k ≤ ls.length ∧ k ≤ 4096 ∧ v7 = .int .i64 k ∧ L.map (·.2) = keptOf ls k ∧ Kept wr w.heap.size v5 L ∧ Below w.heap.size w wr) (fun _ v7 _ => ls.length - (intOf v7).toNat)
    case atStart =>
      refine ⟨0, [(.slice (some ⟨g1, 0, none⟩) 2 c1, [[97], [98]])], by omega, by omega, rfl, rfl, ⟨?_, ?_⟩, HB1.out.alloc HB1.out.size _⟩
      · have := (Rows'.nil (w1.alloc (.cells #[.slice (some ⟨g1, 0, none⟩) 2 c1] 22)) w.heap.size).snoc (v := .slice (some ⟨g1, 0, none⟩) 2 c1) (xs := [[97], [98]]) (HO1.out.alloc _) (Nat.le_refl _) (fun i hi => by simp at hi)
        exact this
      · exact own_one w1 w.heap.size 22 _ HB1.out.size
    case round =>
      obtain ⟨k, L, hk, hk2, rfl, hL, hKept, hbw⟩ := hrel
      have HK := Lib.hid hKept
      have HW := Lib.hid hbw
      have HL := Lib.hid hL
      have hLlen : L.length = 2 * k + 1 := by
        have := congrArg List.length hL
        rw [List.length_map, keptOf_len hk] at this
        exact this
      have HLL := Lib.hid hLlen
      have hL6 : L.length + 2 < 1000000 := by omega
      obtain ⟨ak, ck, rfl⟩ := hKept.kept.form
      clear hKept hbw hL hLlen
      by_cases hgo : k < ls.length ∧ k < 4096
      ·
        --BEGIN A
        obtain ⟨hlt, hlt2⟩ := hgo
        obtain ⟨G, O, rfl, hG, hcell, hsz⟩ := (H.out.below HW.out) k hlt
        have HX := Lib.hid (keptOf_succ hlt)
        generalize hx : ls[k] = x at *
        clear hx
        have HSZ := Lib.hid hsz
        clear hsz
        go_wp2_with fail
        refine (words_walk x _ (Utf8Tabs_below HT.out HW.out) HSZ.out).mono ?_
        rintro e w2 ⟨v2, rfl, hO2, hB2⟩
        have HW2 := Lib.hid (HW.out.trans (hB2.mono HW.out.size))
        have hcell2 : w2.cell? ⟨G, O + k, none⟩ = some (.string x) := by rw [hB2.cell hG]; exact hcell
        have hG2 : G < w2.heap.size := Nat.lt_of_lt_of_le hG hB2.size
        obtain ⟨a2, c2, rfl⟩ := hO2.form
        have HO2 := Lib.hid hO2
        have HB2 := Lib.hid hB2
        clear hO2 hB2 hcell
        go_wp2_with fail
        refine (words_walk x _ (Utf8Tabs_below HT.out HW2.out) HSZ.out).mono ?_
        rintro e w3 ⟨v3, rfl, hO3, hB3⟩
        have HW3 := Lib.hid (HW2.out.trans (hB3.mono HW2.out.size))
        have hcell3 : w3.cell? ⟨G, O + k, none⟩ = some (.string x) := by rw [hB3.cell hG2]; exact hcell2
        obtain ⟨a3, c3, rfl⟩ := hO3.form
        have HO23 := Lib.hid (own_kept HO2.out hB3)
        have HO3 := Lib.hid hO3
        have HB3 := Lib.hid hB3
        clear hO3 hB3 hcell2
        go_wp2_with fail
        refine (refWords_walk x _ HSZ.out).mono ?_
        rintro e w4 ⟨v4, rfl, hO4, hB4⟩
        have HO24 := Lib.hid (own_kept HO23.out hB4)
        have HO34 := Lib.hid (own_kept HO3.out hB4)
        have hwl := wsOf_le (bytes x)
        have hs1 := same_self _ _ _ _ (wsOf (bytes x)) w4 HO24.out hO4 (by omega)
        have HS1 := Lib.hid hs1
        have HO4 := Lib.hid hO4
        have HB4 := Lib.hid hB4
        clear hs1 hO4 hB4 hcell3
        generalize erOf (bytes x) = er at *
        go_wp2_with fail
        refine HS1.out.mono ?_
        rintro e w5 ⟨rfl, hB5⟩
        have hs2 := same_self _ _ _ _ (wsOf (bytes x)) w5 (own_kept HO34.out hB5) (own_kept HO4.out hB5) (by omega)
        have HS2 := Lib.hid hs2
        have HB5 := Lib.hid hB5
        clear hs2 hB5
        go_wp2_with fail
        refine HS2.out.mono ?_
        rintro e w6 ⟨rfl, hB6⟩
        have HB46 := Lib.hid (HB5.out.trans (hB6.mono HB5.out.size))
        have HB36 := Lib.hid (HB4.out.trans (HB46.out.mono HB4.out.size))
        have HB26 := Lib.hid (HB3.out.trans (HB36.out.mono HB3.out.size))
        have HBr6 := Lib.hid (HB2.out.trans (HB26.out.mono HB2.out.size))
        have HK6 := Lib.hid (HK.out.below HBr6.out)
        have HO26 := Lib.hid (own_kept HO24.out HB46.out)
        have HO36 := Lib.hid (own_kept HO34.out HB46.out)
        have HW6 := Lib.hid (HW.out.trans (HBr6.out.mono HW.out.size))
        have hlt1 := Lib.hid (rows_lt HK.out)
        have hlt2' := Lib.hid (rows_lt_snoc (xs' := wsOf (bytes x)) hlt1.out HB2.out.size HO2.out)
        have hLm : (L.map (·.1)).length = L.length := List.length_map _
        have HS2r := Lib.hid HB2.out.size
        have HSW := Lib.hid HW.out.size
        have HS6 := Lib.hid HW6.out.size
        clear hB6
        generalize wsOf (bytes x) = ws at *
        generalize hn2 : ws.length = nw at *
        go_wp2_with (at_builtin; refine wpList_append_own _ rfl _ _ 30 rfl w.heap.size 22 i0 (.slice none 0 0) 1 24 Tryd.underlying30 hi hz0 hz1 hz2 rfl (by decide) (.slice ak L.length ck) L.length _ rfl (HK6.out.kept.alloc _) ⟨w6.heap.size, 0, none⟩ 1 1 [.slice a2 nw c2] rfl rfl (new_one _ _ _ _ rfl) (one_cell rfl) (by unfold maxLen; omega) (by omega) (le_alloc HS6.out _) ?_)
        intro v7 w7 h7 hg7 _
        obtain ⟨hK7, hB7, hk7⟩ := Kept.push (xs := ws) ⟨HK6.out.rows.alloc _, HK6.out.kept.alloc _⟩ (le_alloc HS6.out _) (by rw [hn2]; exact HO26.out.alloc _) HSW.out hlt1.out h7 hg7
        have HO37 := Lib.hid (hk7 _ _ _ _ (HO36.out.alloc _))
        obtain ⟨ak7, ck7, rfl⟩ := (Own.form hK7.kept)
        have HW7 := Lib.hid ((HW6.out.alloc HS6.out _).trans hB7)
        have hl7 : (L ++ [((Value.slice a2 nw c2), ws)]).length = L.length + 1 := by simp
        have HK7 : Hid (Kept w7 w.heap.size (.slice ak7 (L.length + 1) ck7) (L ++ [((Value.slice a2 nw c2), ws)])) := by
          have h := hK7
          rw [hl7] at h
          exact h
        have HK7' : Hid (Own w7 w.heap.size 22 (.slice ak7 (L.length + 1) ck7) (L.length + 1) ((L ++ [((Value.slice a2 nw c2), ws)]).map (·.1))) := by
          have := hK7.kept
          rw [hl7] at this
          exact this
        clear hK7 hB7 hk7 h7 hg7
        rw [hl7]
        clear hl7
        go_wp2_with (at_builtin; refine wpList_append_own _ rfl _ _ 30 rfl w.heap.size 22 i0 (.slice none 0 0) 1 24 Tryd.underlying30 hi hz0 hz1 hz2 rfl (by decide) (.slice ak7 (L.length + 1) ck7) (L.length + 1) _ rfl (HK7'.out.alloc _) ⟨w7.heap.size, 0, none⟩ 1 1 [.slice a3 nw c3] rfl rfl (new_one _ _ _ _ rfl) (one_cell rfl) (by unfold maxLen; omega) (by omega) (le_alloc HW7.out.size _) ?_)
        intro v8 w8 h8 hg8 _
        have h8' : w8.ownsRow w.heap.size 22 1 v8 ((L ++ [((Value.slice a2 nw c2), ws)]).length + 1) ((L ++ [((Value.slice a2 nw c2), ws)]).map (·.1) ++ [.slice a3 nw c3]) := by
          rw [show (L ++ [((Value.slice a2 nw c2), ws)]).length = L.length + 1 by simp, List.map_append, List.append_assoc]; exact h8
        obtain ⟨hK8, hB8, _⟩ := Kept.push (xs := ws) ⟨HK7.out.rows.alloc _, HK7.out.kept.alloc _⟩ (le_alloc HW7.out.size _) (by rw [hn2]; exact HO37.out.alloc _) (Nat.le_trans HSW.out HS2r.out) hlt2'.out h8' hg8
        have HK8 := Lib.hid hK8
        have HW8 := Lib.hid ((HW7.out.alloc HW7.out.size _).trans hB8)
        clear hK8 hB8 h8 h8' hg8
        go_wp2
        go_roundw
        case rel =>
          refine ⟨k + 1, _, by omega, by omega, by go_num, ?_, HK8.out, HW8.out⟩
          rw [HX.out, ← HL.out]
          simp
        case measure => simp [intOf]; omega
        --END A
      · have hgo' : ¬ k < ls.length ∨ (k < ls.length ∧ ¬ k < 4096) := by omega
        clear hgo
        have hN : L.length ≤ 10000 := by have := HLL.out; omega
        have HBN := Lib.hid (show ∀ ws ∈ L.map (·.2), ws.length ≤ 65537 by rw [HL.out]; exact keptOf_bound)
        rcases hgo' with hg | ⟨hg1, hg2⟩
        all_goals
          go_wp2
          go_meet
          case rel => exact ⟨L, hN, HBN.out, HK.out, HW.out⟩
  case rest =>
    obtain ⟨L, hN, hbn, hKept, hbw⟩ := hcut
    have HBN := Lib.hid hbn
    have HK := Lib.hid hKept
    have HW := Lib.hid hbw
    obtain ⟨ak, ck, rfl⟩ := hKept.kept.form
    clear hbn hKept hbw
    go_wp2
    go_loopw [14] (fun v14 wr => ∃ (t : Nat) (L' : List (Value × List (List UInt8))), t ≤ L.length ∧ v14 = .int .i64 t ∧ Marked L L' t ∧ Kept wr w.heap.size (.slice ak L.length ck) L' ∧ Below w.heap.size w wr) (fun v14 _ => L.length - (intOf v14).toNat)
    case atStart => exact ⟨0, L, by omega, rfl, Marked.start L, HK.out, HW.out⟩
    case round =>
      obtain ⟨t, L', ht, rfl, hMk, hKp, hBw⟩ := hrel
      have HMk := Lib.hid hMk
      have HKp := Lib.hid hKp
      have HBw := Lib.hid hBw
      clear hMk hKp hBw
      by_cases htl : t < L.length
      ·
        --BEGIN B
        have hmw := marked_walk (t + 1) t (by omega) (by omega)
        have HMW := Lib.hid hmw
        clear hmw
        have hms : (strOf (markL t)).size ≤ 20000 := by rw [strOf_size]; have := markL_len t; omega
        have hme : (⟨#[107, 101, 112, 116, 32]⟩ : ByteArray) ++ strOf (markL t) = strOf (keptW t) := by
          rw [show (⟨#[107, 101, 112, 116, 32]⟩ : ByteArray) = strOf [107, 101, 112, 116, 32] from rfl, strOf_append]; rfl
        have HME := Lib.hid hme
        clear hme
        generalize strOf (markL t) = sm at *
        go_wp2_with fail
        refine (HMW.out _).mono ?_
        rintro e w5 ⟨rfl, hb5⟩
        have HKp5 := Lib.hid (HKp.out.below hb5)
        have HBw5 := Lib.hid (HBw.out.trans (hb5.mono HBw.out.size))
        clear hb5
        go_wp2
        generalize (⟨#[107, 101, 112, 116, 32]⟩ : ByteArray) ++ sm = mk at *
        have hMk5 := HMk.out
        have htl5 : t < L'.length := by rw [hMk5.len]; exact htl
        have HSt := Lib.hid (show ∃ h2 : t < L'.length, (L'[t].2).take 0 = List.replicate 0 (keptW t) from ⟨htl5, by simp⟩)
        clear hMk5
        obtain ⟨nt, hnt⟩ : ∃ nt, nt = L[t].2.length := ⟨_, rfl⟩
        have hnb : nt ≤ 65537 := by
          rw [hnt]
          refine HBN.out _ ?_
          exact List.mem_map.2 ⟨L[t], List.getElem_mem htl, rfl⟩
        have HNT := Lib.hid hnt
        clear hnt
        go_loopw [16] (fun v16 wr => ∃ (j : Nat) (L2 : List (Value × List (List UInt8))), j ≤ nt ∧ v16 = .int .i64 j ∧ Marked L L2 t ∧ (∃ h2 : t < L2.length, (L2[t].2).take j = List.replicate j (keptW t)) ∧ Kept wr w.heap.size (.slice ak L.length ck) L2 ∧ Below w.heap.size w wr) (fun v16 _ => nt - (intOf v16).toNat)
        case atStart => exact ⟨0, L', by omega, rfl, HMk.out, HSt.out, HKp5.out, HBw5.out⟩
        case round =>
          obtain ⟨j, L2, hj, rfl, hM2, ⟨h2, htk⟩, hK2, hB2⟩ := hrel
          obtain ⟨g, eg, hcg⟩ := hK2.cell h2
          cases eg
          have hnl := (hM2.leni h2 htl).trans HNT.out.symm
          obtain ⟨at_, ct, hv⟩ := (hK2.rows.own t h2).form
          have hown := hK2.rows.own t h2
          rw [hv, hnl] at hown
          rw [hv, hnl] at hcg
          have HM2 := Lib.hid hM2
          have HTK := Lib.hid htk
          have HK2 := Lib.hid hK2
          have HB2 := Lib.hid hB2
          have HV := Lib.hid hv
          have HNL := Lib.hid hnl
          clear hM2 htk hK2 hB2 hv hnl
          by_cases hjl : j < nt
          · obtain ⟨gt, et, hct⟩ := own_cell' hown (k := j) (by rw [HNL.out]; exact hjl)
            cases et
            obtain ⟨_, _, cur, hcur⟩ := hown.block rfl
            have hfr := frozen_whole hcur j
            have HOwn := Lib.hid hown
            clear hown hcur
            go_wp2
            go_roundw
            case rel =>
              have hj2 : j < L2[t].2.length := by rw [HNL.out]; omega
              have hs := HK2.out.store h2 HV.out hj2 (y := keptW t)
              have hmkk : mk = strOf (keptW t) := HME.out
              rw [← hmkk] at hs
              refine ⟨j + 1, _, by omega, by go_num, HM2.out.set h2 (keptW t), ⟨by rw [List.length_set]; exact h2, ?_⟩, hs, Below.setCell (p := ⟨gt, j, none⟩) HB2.out (HOwn.out.block rfl).1 _⟩
              rw [List.getElem_set_self]
              exact take_set_next hj2 HTK.out
            case measure => simp [intOf]; omega
          · have hje : j = nt := by omega
            have hdone : L2[t].2 = List.replicate L2[t].2.length (keptW t) := by
              have := HTK.out
              rw [hje, ← HNL.out, List.take_length] at this
              exact this
            have HD := Lib.hid hdone
            clear hdone hown
            go_wp2
            go_roundw
            case rel => exact ⟨t + 1, L2, by omega, by go_num, HM2.out.next h2 HD.out, HK2.out, HB2.out⟩
            case measure => simp [intOf]; omega
        --END B
      · obtain rfl : t = L.length := by omega
        clear htl
        have hlN : L'.length = L.length := HMk.out.len
        have HLN := Lib.hid hlN
        clear hlN
        go_wp2
        have HKp2 := Lib.hid HKp.out.kept
        have HKpr := Lib.hid HKp.out.rows
        obtain ⟨C0, hC0⟩ : ∃ C0, C0 = wr.heap.size := ⟨_, rfl⟩
        have HBC := Lib.hid (show w.heap.size ≤ C0 by rw [hC0]; exact HBw.out.size)
        have HKC := Lib.hid (show ∀ g, (Value.slice ak L.length ck).ownBlock = some g → g < C0 from fun g hg => by rw [hC0]; exact (HKp2.out.block hg).2.1)
        have HC0 := Lib.hid hC0
        clear hC0
        go_loopw [6, 17] (fun v6 v17 wr => ∃ (t : Nat) (G : List Value), t ≤ L.length ∧ v17 = .int .i64 t ∧ LongOk wr w.heap.size L' G t ∧ Own wr C0 22 v6 G.length G ∧ Own wr w.heap.size 22 (.slice ak L.length ck) L.length (L'.map (·.1)) ∧ Keeps w.heap.size w wr ∧ C0 ≤ wr.heap.size) (fun _ v17 _ => L.length - (intOf v17).toNat)
        case atStart =>
          refine ⟨0, [], by omega, rfl, LongOk.start HKpr.out, Own.nil _ _ _, ?_, Keeps.of_below HBw.out, Nat.le_of_eq HC0.out⟩
          have := HKp2.out
          rw [HLN.out] at this
          exact this
        case round =>
          obtain ⟨t2, G, ht2, rfl, hLO, hG, hKO, hB3, hC3⟩ := hrel
          have HLO := Lib.hid hLO
          have HG := Lib.hid hG
          have HKO := Lib.hid hKO
          have HB3 := Lib.hid hB3
          have HC3 := Lib.hid hC3
          have hGb : G.length ≤ 10000 := by rw [hLO.len]; omega
          obtain ⟨ag, cg, rfl⟩ := hG.form
          clear hLO hG hKO hB3 hC3
          by_cases ht2l : t2 < L.length
          ·
            --BEGIN C
            have ht2' : t2 < L'.length := by rw [HLN.out]; exact ht2l
            obtain ⟨gk, ek, hck⟩ : ∃ g, ak = some ⟨g, 0, none⟩ ∧ wr.cell? ⟨g, t2, none⟩ = some L'[t2].1 := by
              cases ak with
              | none => exact absurd (HKO.out.nil_of_none rfl).2.2 (by omega)
              | some ad =>
                obtain ⟨g, off, sp⟩ := ad
                obtain ⟨rfl, rfl, _, hc⟩ := HKO.out.cells rfl
                refine ⟨g, rfl, ?_⟩
                rw [hc t2 ht2l, List.getElem?_map, List.getElem?_eq_getElem ht2']; rfl
            have hkb : gk < wr.heap.size := by subst ek; exact (HKO.out.block rfl).2.1
            obtain ⟨at2, ct2, hv2⟩ := (HLO.out.left t2 ht2' (Nat.le_refl _)).form
            rw [hv2] at hck
            have HV2 := Lib.hid hv2
            have HKB := Lib.hid hkb
            clear hv2 hkb
            subst ek
            have HMW2 := Lib.hid (marked_walk (t2 + 1) t2 (by omega) (by omega))
            have hms2 : (strOf (markL t2)).size ≤ 20000 := by rw [strOf_size]; have := markL_len t2; omega
            have HME2 := Lib.hid (show (⟨#[109, 111, 114, 101, 32]⟩ : ByteArray) ++ strOf (markL t2) = strOf (moreW t2) by
              rw [show (⟨#[109, 111, 114, 101, 32]⟩ : ByteArray) = strOf [109, 111, 114, 101, 32] from rfl, strOf_append]; rfl)
            generalize strOf (markL t2) = sm2 at *
            have hnb2 : L'[t2].2.length ≤ 65537 := by
              rw [HMk.out.leni ht2' ht2l]
              refine HBN.out _ ?_
              exact List.mem_map.2 ⟨L[t2], List.getElem_mem ht2l, rfl⟩
            generalize hnt2 : L'[t2].2.length = nt2 at *
            have HNT2 := Lib.hid hnt2
            obtain ⟨i9, hi9, hy0, hy1, hy2⟩ := info_parts info9
            clear hnt2
            go_wp2
            refine wp_canon_call 5 [3] [[4, 5, 0, 1, 2, 3, 6, 7, 8, 9], [0, 1, 2, 3, 4, 5, 6, 7, 8, 9]] (by kernel_rfl) (by kernel_rfl) (by kernel_rfl) ⟨?_, ?_, trivial⟩
            all_goals simp only [fm_cons, List.filterMap_nil, List.getElem?_toArray, List.getElem?_cons_zero, List.getElem?_cons_succ, Option.elim_some]
            all_goals
              go_wp2_with fail
              refine (HMW2.out _).mono ?_
              rintro e w7 ⟨rfl, hb7⟩
              have hck7 : w7.cell? ⟨gk, t2, none⟩ = some (.slice at2 nt2 ct2) := by rw [hb7.cell (p := ⟨gk, t2, none⟩) HKB.out]; exact hck
              clear hck
              have hb7' : Below wr.heap.size wr w7 := (Below.refl wr.heap.size wr).drew.trans hb7
              have HB7 := Lib.hid hb7'
              have HLO7 := Lib.hid (HLO.out.below hb7')
              clear hb7'
              have hown7 := HLO7.out.left t2 ht2' (Nat.le_refl _)
              rw [HV2.out, HNT2.out] at hown7
              obtain ⟨bb, hcame, hbk⟩ := own_came hown7
              have HCA := Lib.hid hcame
              have HBK := Lib.hid hbk
              have hle7 := hown7.len
              have HO7 := Lib.hid hown7
              clear hcame hbk hown7 hb7
              go_wp2_with (at_builtin; refine wpList_append_onto _ rfl _ _ 22 rfl HCA.out i9 (.string ByteArray.empty) 16 Tryd.underlying22 hi9 hy0 hy1 hy2 rfl (by decide) (v := .slice at2 nt2 ct2) rfl (Onto.alloc (Onto.start HCA.out) HCA.out _) ⟨w7.heap.size, 0, none⟩ 1 [_] rfl rfl (new_one _ _ _ _ rfl) (one_cell rfl) (by unfold maxLen; omega) (by omega) ?_)
              intro v8 w8 h8
              have HO8 := Lib.hid h8
              clear h8 hck7
              go_wp2
              refine ⟨rfl, ?_⟩
              go_wp2
              go_loopw [18, 19] (fun v18 v19 wr2 => ∃ j : Nat, j ≤ 70 ∧ v19 = .int .i64 j ∧ Onto w7 9 1 at2 bb 0 nt2 ct2 (scells L'[t2].2) wr2 v18 (j + 1) (List.replicate (j + 1) (.string ((⟨#[109, 111, 114, 101, 32]⟩ : ByteArray) ++ sm2)))) (fun _ v19 _ => 70 - (intOf v19).toNat)
              case atStart => exact ⟨0, by omega, rfl, HO8.out⟩
              case round =>
                obtain ⟨j, hj, rfl, hO⟩ := hrel
                by_cases hj70 : j < 70
                · have HO := Lib.hid hO
                  clear hO
                  go_wp2_with fail
                  refine (HMW2.out _).mono ?_
                  rintro e w9 ⟨rfl, hb9⟩
                  have HO9 := Lib.hid (onto_below HO.out HCA.out HO.out.kept.size hb9)
                  clear hb9
                  go_wp2_with (at_builtin; refine wpList_append_onto _ rfl _ _ 22 rfl HCA.out i9 (.string ByteArray.empty) 16 Tryd.underlying22 hi9 hy0 hy1 hy2 rfl (by decide) rfl (Onto.alloc HO9.out HCA.out _) ⟨w9.heap.size, 0, none⟩ 1 [_] rfl rfl (new_one _ _ _ _ rfl) (one_cell rfl) (by unfold maxLen; omega) (by omega) ?_)
                  intro v10 w10 h10
                  rw [← List.replicate_succ'] at h10
                  have HO10 := Lib.hid h10
                  clear h10
                  go_wp2
                  go_roundw
                  case rel => exact ⟨j + 1, by omega, by go_num, HO10.out⟩
                  case measure => simp [intOf]; omega
                · have hje : j = 70 := by omega
                  subst hje
                  rw [HME2.out] at hO
                  obtain ⟨a18, c18, rfl⟩ := onto_form hO
                  have HLO8 := Lib.hid (HLO7.out.next ht2' (ao := at2) (c := ct2) (by rw [HNT2.out]; exact HV2.out) (by rw [HNT2.out]; exact HCA.out) (by rw [HV2.out]; exact HBK.out) (by rw [HNT2.out]; exact hO))
                  have HKO8 := Lib.hid (own_onto (own_kept HKO.out HB7.out) (by decide) HO7.out HBK.out hO)
                  have HG8 := Lib.hid (own_onto (own_kept HG.out HB7.out) (by decide) HO7.out HBK.out hO)
                  have HS7 := Nat.le_trans HB3.out.size HB7.out.size
                  have HBx := Lib.hid ((HB3.out.below HB7.out HB3.out.size).onto hO (fun hc => (HO7.out.block (HBK.out hc)).1) HS7)
                  have HCx := Lib.hid (Nat.le_trans HC3.out (Nat.le_trans HB7.out.size hO.kept.size))
                  have HSx := Lib.hid (Nat.le_trans HS7 hO.kept.size)
                  clear hO HS7
                  go_wp2_with (at_builtin; refine wpList_append_own _ rfl _ _ 30 rfl C0 22 i0 (.slice none 0 0) 1 24 Tryd.underlying30 hi hz0 hz1 hz2 rfl (by decide) (.slice ag G.length cg) G.length _ rfl (HG8.out.alloc _) ⟨wr.heap.size, 0, none⟩ 1 1 [_] rfl rfl (new_one _ _ _ _ rfl) (one_cell rfl) (by unfold maxLen; omega) (by omega) (le_alloc HCx.out _) ?_)
                  intro v11 w11 h11 hg11 _
                  have HG11 := Lib.hid h11
                  have HKO11 := Lib.hid (own_push (HKO8.out.alloc _) HKC.out (HG8.out.alloc _) hg11)
                  have HLO11 := Lib.hid ((HLO8.out.alloc _).push (HG8.out.alloc _) (by decide) hg11)
                  have HB11 := Lib.hid (Keeps.grown (Keeps.alloc HBx.out HSx.out _) hg11 (le_alloc HSx.out _) (fun g hg => Nat.le_trans HBC.out (HG8.out.block hg).1))
                  have HC11 := Lib.hid (Nat.le_trans (le_alloc HCx.out _) hg11.size)
                  clear h11 hg11
                  go_wp2
                  go_roundw
                  case rel => exact ⟨t2 + 1, G ++ [_], by omega, by go_num, HLO11.out, by rw [List.length_append]; exact HG11.out, HKO11.out, HB11.out, HC11.out⟩
                  case measure => simp [intOf]; omega
            --END C
          · obtain rfl : t2 = L.length := by omega
            clear ht2l
            have hgl := HLO.out.len
            generalize hgl' : G.length = gl at *
            subst hgl
            have HGL := Lib.hid hgl'
            clear hgl'
            obtain ⟨W6, hW6⟩ : ∃ W6, W6 = wr := ⟨_, rfl⟩
            rw [← hW6] at HLO HG HKO HB3 HC3
            have HW6 := Lib.hid hW6
            clear hW6
            go_wp2
            go_loopw [20] (fun v20 wr2 => ∃ t : Nat, t ≤ L.length ∧ v20 = .int .i64 t ∧ Below W6.heap.size W6 wr2) (fun v20 _ => L.length - (intOf v20).toNat)
            case atStart => exact ⟨0, by omega, rfl, by rw [HW6.out]; exact Below.refl _ _⟩
            case round =>
              obtain ⟨t3, ht3, rfl, hB6⟩ := hrel
              by_cases ht3l : t3 < L.length
              ·
                --BEGIN D
                have ht3' : t3 < L'.length := by rw [HLN.out]; exact ht3l
                obtain ⟨a3, c3, a3', c3', hlook⟩ := look_of HLO.out HLN.out HKO.out HG.out ht3l ht3' (HMk.out.done t3 ht3' ht3l)
                have HLK := Lib.hid hlook
                clear hlook
                have hnb3 : L'[t3].2.length ≤ 65537 := by
                  rw [HMk.out.leni ht3' ht3l]
                  refine HBN.out _ ?_
                  exact List.mem_map.2 ⟨L[t3], List.getElem_mem ht3l, rfl⟩
                generalize L'[t3].2.length = n3 at *
                clear ht3'
                have HMW3 := Lib.hid (marked_walk (t3 + 1) t3 (by omega) (by omega))
                have hms3 : (strOf (markL t3)).size ≤ 20000 := by rw [strOf_size]; have := markL_len t3; omega
                have HME3 := Lib.hid (show (⟨#[109, 111, 114, 101, 32]⟩ : ByteArray) ++ strOf (markL t3) = strOf (moreW t3) by
                  rw [show (⟨#[109, 111, 114, 101, 32]⟩ : ByteArray) = strOf [109, 111, 114, 101, 32] from rfl, strOf_append]; rfl)
                have HMK3 := Lib.hid (show (⟨#[107, 101, 112, 116, 32]⟩ : ByteArray) ++ strOf (markL t3) = strOf (keptW t3) by
                  rw [show (⟨#[107, 101, 112, 116, 32]⟩ : ByteArray) = strOf [107, 101, 112, 116, 32] from rfl, strOf_append]; rfl)
                generalize strOf (markL t3) = sm3 at *
                obtain ⟨gk, rfl, hkc⟩ := HLK.out.kc
                obtain ⟨gg, rfl, hgc⟩ := HLK.out.gc
                have hk1 := hkc _ hB6
                have HKCC := Lib.hid hkc
                have HGCC := Lib.hid hgc
                have HB6 := Lib.hid hB6
                clear hkc hgc hB6
                go_wp2
                go_loopw [22] (fun v22 wr2 => ∃ j : Nat, j ≤ n3 + 71 ∧ v22 = .int .i64 j ∧ Below W6.heap.size W6 wr2) (fun v22 _ => n3 + 71 - (intOf v22).toNat)
                case atStart => exact ⟨0, by omega, rfl, HB6.out⟩
                case round =>
                  obtain ⟨j, hj, rfl, hB7⟩ := hrel
                  have hk2 := HKCC.out _ hB7
                  have hg2 := HGCC.out _ hB7
                  have HB7 := Lib.hid hB7
                  clear hB7
                  by_cases hjl : j < n3 + 71
                  · by_cases hjn : j < n3
                    · have hjn' : ¬ n3 ≤ j := by omega
                      obtain ⟨g3, rfl, hwk⟩ := HLK.out.kept j hjn
                      obtain ⟨g4, rfl, hwl⟩ := HLK.out.long j hjn
                      rw [← HMK3.out] at hwk hwl
                      have hwk1 := hwk _ HB7.out
                      have hwl1 := hwl _ HB7.out
                      have HWK := Lib.hid hwk
                      have HWL := Lib.hid hwl
                      clear hwk hwl
                      go_wp2
                      refine wp_canon_call 12 [7, 10] [[0, 1, 2, 3, 11, 12, 4, 5, 6, 7, 8, 9, 10, 13, 14, 15, 16, 17, 18, 19, 20, 21, 22, 23, 24, 25, 26, 27, 28, 29, 30, 31, 32], [0, 1, 2, 3, 4, 5, 6, 7, 11, 12, 8, 9, 10, 13, 14, 15, 16, 17, 18, 19, 20, 21, 22, 23, 24, 25, 26, 27, 28, 29, 30, 31, 32], [0, 1, 2, 3, 4, 5, 6, 7, 8, 9, 10, 11, 12, 13, 14, 15, 16, 17, 18, 19, 20, 21, 22, 23, 24, 25, 26, 27, 28, 29, 30, 31, 32]] (by kernel_rfl) (by kernel_rfl) (by kernel_rfl) ⟨?_, ?_, ?_, trivial⟩
                      all_goals simp only [fm_cons, List.filterMap_nil, List.getElem?_toArray, List.getElem?_cons_zero, List.getElem?_cons_succ, Option.elim_some]
                      all_goals
                        go_wp2_with fail
                        refine (HMW3.out _).mono ?_
                        rintro e w9 ⟨rfl, hb9⟩
                        have hB9 : Below W6.heap.size W6 w9 := HB7.out.drew.trans (hb9.mono HB7.out.size)
                        have hk9 := HKCC.out _ hB9
                        have hg9 := HGCC.out _ hB9
                        have hwk9 := HWK.out _ hB9
                        have hwl9 := HWL.out _ hB9
                        have HB9 := Lib.hid hB9
                        clear hb9 hB9 hk2 hg2 hwk1 hwl1
                        go_wp2
                        refine ⟨rfl, ?_⟩
                        go_wp2
                        refine wp_canon_call 12 [7, 10] [[0, 1, 2, 3, 11, 12, 4, 5, 6, 7, 8, 9, 10, 13, 14, 15], [0, 1, 2, 3, 4, 5, 6, 7, 11, 12, 8, 9, 10, 13, 14, 15], [0, 1, 2, 3, 4, 5, 6, 7, 8, 9, 10, 11, 12, 13, 14, 15]] (by kernel_rfl) (by kernel_rfl) (by kernel_rfl) ⟨?_, ?_, ?_, trivial⟩
                        all_goals simp only [fm_cons, List.filterMap_nil, List.getElem?_toArray, List.getElem?_cons_zero, List.getElem?_cons_succ, Option.elim_some]
                        all_goals
                          go_wp2
                          refine ⟨rfl, ?_⟩
                          go_wp2
                          go_roundw
                          case rel => exact ⟨j + 1, by omega, by go_num, HB9.out.drew⟩
                          case measure => simp [intOf]; omega
                    · have hjn' : n3 ≤ j := by omega
                      obtain ⟨g4, rfl, hwl⟩ := HLK.out.more j hjn' hjl
                      rw [← HME3.out] at hwl
                      have hwl1 := hwl _ HB7.out
                      have HWL := Lib.hid hwl
                      clear hwl
                      go_wp2
                      refine wp_canon_call 12 [7, 10] [[0, 1, 2, 3, 11, 12, 4, 5, 6, 7, 8, 9, 10, 13, 14, 15, 16, 17, 18, 19, 20, 21, 22, 23, 24, 25, 26, 27, 28, 29, 30, 31, 32], [0, 1, 2, 3, 4, 5, 6, 7, 11, 12, 8, 9, 10, 13, 14, 15, 16, 17, 18, 19, 20, 21, 22, 23, 24, 25, 26, 27, 28, 29, 30, 31, 32], [0, 1, 2, 3, 4, 5, 6, 7, 8, 9, 10, 11, 12, 13, 14, 15, 16, 17, 18, 19, 20, 21, 22, 23, 24, 25, 26, 27, 28, 29, 30, 31, 32]] (by kernel_rfl) (by kernel_rfl) (by kernel_rfl) ⟨?_, ?_, ?_, trivial⟩
                      all_goals simp only [fm_cons, List.filterMap_nil, List.getElem?_toArray, List.getElem?_cons_zero, List.getElem?_cons_succ, Option.elim_some]
                      all_goals
                        go_wp2
                        refine ⟨rfl, ?_⟩
                        go_wp2
                        refine wp_canon_call 12 [7, 10] [[0, 1, 2, 3, 11, 12, 4, 5, 6, 7, 8, 9, 10, 13, 14, 15], [0, 1, 2, 3, 4, 5, 6, 7, 11, 12, 8, 9, 10, 13, 14, 15], [0, 1, 2, 3, 4, 5, 6, 7, 8, 9, 10, 11, 12, 13, 14, 15]] (by kernel_rfl) (by kernel_rfl) (by kernel_rfl) ⟨?_, ?_, ?_, trivial⟩
                        all_goals simp only [fm_cons, List.filterMap_nil, List.getElem?_toArray, List.getElem?_cons_zero, List.getElem?_cons_succ, Option.elim_some]
                        all_goals
                          go_wp2_with fail
                          refine (HMW3.out _).mono ?_
                          rintro e w9 ⟨rfl, hb9⟩
                          have hB9 : Below W6.heap.size W6 w9 := HB7.out.drew.drew.trans (hb9.mono HB7.out.size)
                          have hk9 := HKCC.out _ hB9
                          have hg9 := HGCC.out _ hB9
                          have hwl9 := HWL.out _ hB9
                          have HB9 := Lib.hid hB9
                          clear hb9 hB9 hk2 hg2 hwl1
                          go_wp2
                          refine ⟨rfl, ?_⟩
                          go_wp2
                          go_roundw
                          case rel => exact ⟨j + 1, by omega, by go_num, HB9.out⟩
                          case measure => simp [intOf]; omega
                  · obtain rfl : j = n3 + 71 := by omega
                    clear hjl
                    go_wp2
                    go_roundw
                    case rel => exact ⟨t3 + 1, by omega, by go_num, HB7.out⟩
                    case measure => simp [intOf]; omega
                --END D
              · obtain rfl : t3 = L.length := by omega
                clear ht3l
                have HBe := Lib.hid (HB3.out.below hB6 HB3.out.size)
                clear hB6
                go_wp2
                go_ret
                exact ⟨rfl, HBe.out⟩
end Go.Proofs.YtheflheeaiopfaaDoor
