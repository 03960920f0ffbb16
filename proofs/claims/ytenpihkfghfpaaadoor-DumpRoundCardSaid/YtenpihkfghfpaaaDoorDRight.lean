/- The reference's right. -/
import Derived.Test.YtenpihkfghfpaaaDoorDFind
import Derived.Deep.RegionWith
import Derived.Deep.CutRange
import Derived.Laws.Cover1
namespace Go.Proofs.YtenpihkfghfpaaaDoor
open Go.RowKit Vl
set_option linter.unusedVariables false

theorem take_last {L : List Itm} {i : Nat} (hi : i < L.length) (h0 : 0 < i) : (L.take i).getLast? = some L[i - 1] := by
  rw [List.getLast?_eq_getElem?, List.length_take, Nat.min_eq_left (by omega), List.getElem?_take, if_pos (by omega), List.getElem?_eq_getElem (by omega)]

/-- Is the item's key above the one's ahead? -/
def aboveB (prev : List Itm) (x : Itm) : Bool := match prev.getLast? with | none => true | some y => ltB (keyB y.path) (keyB x.path)
theorem rightAt_none {prev : List Itm} {x : Itm} (h : partsB x.path = none) : rightAt prev x = false := by unfold rightAt; rw [h]
theorem rightAt_some {prev : List Itm} {x : Itm} {ps : List (List UInt8)} (h : partsB x.path = some ps) : rightAt prev x = (aboveB prev x && (decide (ps.length ≤ 1) || decide (kindAt prev (joinP ps.dropLast) = 2)) && kindB prev x) := by
  unfold rightAt aboveB; rw [h]; rfl

theorem join_last {ps : List (List UInt8)} (h : ps ≠ []) : joinP ps = joinP ps.dropLast ++ 47 :: ps.getLast h := by
  conv => lhs; rw [← List.dropLast_concat_getLast h]
  unfold joinP
  rw [List.flatMap_append]
  simp
theorem joinP_len (ps : List (List UInt8)) : ps.length ≤ (joinP ps).length := by
  induction ps with
  | nil => simp
  | cons p ps ih => rw [joinP_cons]; simp only [List.length_cons, List.length_append]; omega
theorem parts_len {path : List UInt8} {ps : List (List UInt8)} (h : partsB path = some ps) : ps.length ≤ 1023 ∧ path.length ≤ 1023 := by
  obtain ⟨h1, hj, _⟩ := partsB_some h
  have := joinP_len ps
  rw [← hj] at this
  omega
theorem up_facts {path : List UInt8} {ps : List (List UInt8)} (h : partsB path = some ps) (h1 : 1 < ps.length) :
    path.length = (joinP ps.dropLast).length + 1 + (ps[ps.length - 1]'(by omega)).length ∧ path.take (joinP ps.dropLast).length = joinP ps.dropLast := by
  obtain ⟨_, hj, hne, _⟩ := partsB_some h
  have e := join_last hne
  rw [List.getLast_eq_getElem] at e
  rw [hj]
  constructor
  · conv => lhs; rw [e]
    rw [List.length_append, List.length_cons]; omega
  · conv => lhs; rw [e]
    simp

set_option maxRecDepth 100000 in
set_option maxHeartbeats 4000000 in
theorem refRight_walk (L : List Itm) (a : Option Addr) (c i : Nat) (w : World) (h : ItemsAt w a L) (hs : SizeAll L) (hi : i < L.length) (hr : Rising L i) :
    Calls Tryd.prog 21 #[.slice a L.length c, .int .i64 i] w fun e w' => e = .returned (.bool (rightAt (L.take i) L[i])) ∧ Below w.heap.size w w' := by
  have H := Lib.hid h
  have HS := Lib.hid hs
  have hLn := hs.1
  have HR := Lib.hid hr
  obtain ⟨g, off, ra, rc, da, dc, hit⟩ := h i hi
  have e := hit.addr
  subst e
  have c0 := hit.c0
  have c1 := hit.c1
  have c2 := hit.c2
  have c3 := hit.c3
  have c4 := hit.c4
  have c5 := hit.c5
  have HSZ := Lib.hid (hs.2 L[i] (List.getElem_mem hi))
  have HRU := Lib.hid hit.runs
  have HDA := Lib.hid hit.data
  have HPREV := Lib.hid (fun h0 => take_last hi h0)
  clear h hs hr hit
  generalize L[i] = x at *
  go_enter Tryd.func21, Tryd.ntmps21
  go_wp2_with fail
  have HBW : Hid (Below w.heap.size w (w.alloc (.cells #[.int .i64 x.kind, .string (strOf x.path), .string (strOf x.target), .int .i64 x.size, .slice ra x.runs.length rc, .slice da x.data.length dc] 47))) := Lib.hid ((Below.refl _ _).alloc (Nat.le_refl _) _)
  have HW1 : Hid (w.heap.size < (w.alloc (.cells #[.int .i64 x.kind, .string (strOf x.path), .string (strOf x.target), .int .i64 x.size, .slice ra x.runs.length rc, .slice da x.data.length dc] 47)).heap.size) := Lib.hid (by rw [size_alloc]; omega)
  have HBOX := Lib.hid (fun (wr : World) => box_cells (w := w) (wr := wr) (c0 := .int .i64 x.kind) (c1 := .string (strOf x.path)) (c2 := .string (strOf x.target)) (c3 := .int .i64 x.size) (c4 := .slice ra x.runs.length rc) (c5 := .slice da x.data.length dc))
  generalize w.alloc (.cells #[.int .i64 x.kind, .string (strOf x.path), .string (strOf x.target), .int .i64 x.size, .slice ra x.runs.length rc, .slice da x.data.length dc] 47) = w1 at *
  clear c0 c1 c2 c3 c4 c5
  have hpp := refParts_walk (strOf x.path) w1 (by have := HSZ.out.path; rw [strOf_size]; exact this)
  unfold PartsPost at hpp
  rw [show bytes (strOf x.path) = x.path from rfl] at hpp
  have HPP := Lib.hid hpp
  clear hpp
  have hsxz : (strOf x.path).size = x.path.length := strOf_size _
  have hsxb : bytes (strOf x.path) = x.path := rfl
  have HKX := Lib.hid (show ∀ w, Calls Tryd.prog 40 #[.string (strOf x.path)] w (fun e w' => e = .returned (.string (strOf (keyB x.path))) ∧ Below w.heap.size w w') from fun w => key_walk (strOf x.path) w (by have := HSZ.out.path; rw [strOf_size]; exact this))
  generalize hsx : strOf x.path = sx at *
  have HSX := Lib.hid hsx
  clear hsx
  have HXZ := Lib.hid hsxz
  have HXB := Lib.hid hsxb
  clear hsxz hsxb
  cases hps : partsB x.path with
  | none =>
    have HF := Lib.hid (rightAt_none (prev := L.take i) hps)
    rw [hps] at HPP
    refine HPP.out.mono ?_
    rintro e w2 ⟨rfl, hb2⟩
    have HB2 := Lib.hid (HBW.out.trans (hb2.mono HBW.out.size))
    clear hb2
    go_wp2
    go_ret
    exact ⟨by rw [HF.out]; rfl, HB2.out⟩
  | some ps =>
    rw [hps] at HPP
    have HRA := Lib.hid (rightAt_some (prev := L.take i) hps)
    have HPS := Lib.hid hps
    obtain ⟨hpb, hxb⟩ := parts_len hps
    clear hps
    refine HPP.out.mono ?_
    rintro e w2 ⟨⟨v, rfl, ho⟩, hb2⟩
    obtain ⟨av, cv, rfl⟩ := ho.form
    have hpn : 0 < ps.length := List.length_pos_iff.2 (partsB_some HPS.out).2.2.1
    obtain ⟨gl, rfl, hdrop⟩ := own_str ho (k := ps.length - 1) (by omega)
    clear hdrop hpn
    have HO := Lib.hid ho
    have HB2 := Lib.hid hb2
    clear hb2 ho
    go_upto_region 5 with fail
    go_cut [36] from 22 to 36 (fun v36 wx => v36 = .bool (!aboveB (L.take i) x) ∧ Below w2.heap.size w2 wx)
    case first =>
      rcases Nat.eq_zero_or_pos i with h0 | h0
      · subst h0
        have HAB := Lib.hid (show aboveB (L.take 0) x = true from rfl)
        refine wp_canon_call 9 [8, 11] [[0, 1, 2, 3, 4, 5, 6, 7, 8, 9, 10, 11, 12, 13, 14], [0, 1, 2, 3, 4, 5, 6, 7, 8, 10, 11, 9, 12, 13, 14]] (by kernel_rfl) (by kernel_rfl) (by kernel_rfl) ⟨?_, ?_, trivial⟩
        all_goals simp only [fm_cons, List.filterMap_nil, List.getElem?_toArray, List.getElem?_cons_zero, List.getElem?_cons_succ, Option.elim_some]
        all_goals
          go_wp2_with fail
          refine ⟨rfl, ?_⟩
          go_wp2_with fail
          go_meet
          exact ⟨by rw [HAB.out]; rfl, (Below.refl _ _).drew⟩
      · obtain ⟨j, rfl⟩ : ∃ j, i = j + 1 := ⟨i - 1, by omega⟩
        have HAB := Lib.hid (show aboveB (L.take (j + 1)) x = ltB (keyB (L[j]'(by omega)).path) (keyB x.path) by unfold aboveB; rw [HPREV.out h0]; rfl)
        have hjl : j < L.length := by omega
        obtain ⟨g', off', ra', rc', da', dc', hit'⟩ := H.out j hjl
        have e := hit'.addr
        cases e
        have HPC := Lib.hid (show ∀ wr, Below w1.heap.size w1 wr → wr.cell? ⟨g, off + j * 6 + 1, none⟩ = some (.string (strOf (L[j]'hjl).path)) from fun wr hb => by
          have hb' := HBW.out.trans (hb.mono HBW.out.size)
          exact (hit'.below hb').c1)
        have hpl : (L[j]'hjl).path.length ≤ maxLen := (HS.out.2 _ (List.getElem_mem hjl)).path
        have hxl : x.path.length ≤ maxLen := HSZ.out.path
        have HK := Lib.hid (show ∀ l : List UInt8, l.length ≤ maxLen → ∀ w, Calls Tryd.prog 40 #[.string (strOf l)] w (fun e w' => e = .returned (.string (strOf (keyB l))) ∧ Below w.heap.size w w') from fun l hl w => key_walk (strOf l) w (by rw [strOf_size]; exact hl))
        have hbl : Op.bytesLess (strOf (keyB (L[j]'hjl).path)).toList (strOf (keyB x.path)).toList = aboveB (L.take (j + 1)) x := by
          rw [HAB.out, ByteArray.toList_eq, ByteArray.toList_eq, bytesLess_ltB]; rfl
        have pc0 := HPC.out w2 HB2.out
        have bx0 := (HBOX.out w2 HB2.out).2.1
        clear hit' h0 HAB
        generalize aboveB (L.take (j + 1)) x = q at *
        generalize (L[j]'hjl).path = pp at *
        have HK1 := Lib.hid (HK.out pp hpl)
        have HK2 := HKX
        clear HK hpl hxl
        generalize strOf (keyB pp) = kp at *
        generalize strOf (keyB x.path) = kx at *
        generalize strOf pp = sp at *
        refine wp_canon_call 9 [8, 11] [[0, 1, 2, 3, 4, 5, 6, 7, 8, 9, 10, 11, 12, 13, 14], [0, 1, 2, 3, 4, 5, 6, 7, 8, 10, 11, 9, 12, 13, 14]] (by kernel_rfl) (by kernel_rfl) (by kernel_rfl) ⟨?_, ?_, trivial⟩
        all_goals simp only [fm_cons, List.filterMap_nil, List.getElem?_toArray, List.getElem?_cons_zero, List.getElem?_cons_succ, Option.elim_some]
        all_goals
          go_wp2_with fail
          refine (HK1.out _).mono ?_
          rintro e w3 ⟨rfl, hb3⟩
          have HC1 := Lib.hid ((Below.refl w2.heap.size w2).drew.trans hb3)
          have bx1 := (HBOX.out _ (HB2.out.trans (HC1.out.mono HB2.out.size))).2.1
          clear hb3
          go_wp2_with fail
          refine (HK2.out _).mono ?_
          rintro e w4 ⟨rfl, hb4⟩
          have HC2 := Lib.hid (HC1.out.trans (hb4.mono HC1.out.size))
          clear hb4
          cases q
          all_goals
            go_wp2_with fail
            refine ⟨rfl, ?_⟩
            go_wp2_with fail
            go_meet
            exact ⟨rfl, HC2.out⟩
    case rest =>
      obtain ⟨rfl, hbc⟩ := hcut
      have HBC := Lib.hid hbc
      clear hbc
      cases hab : aboveB (L.take i) x
      · have HF := Lib.hid (show rightAt (L.take i) x = false by rw [HRA.out, hab]; rfl)
        clear hab
        go_wp2
        go_ret
        exact ⟨by rw [HF.out]; rfl, HBW.out.trans (HB2.out.trans (HBC.out.mono HB2.out.size) |>.mono HBW.out.size)⟩
      · rw [hab, Bool.true_and] at HRA
        clear hab
        go_upto_if 39 with fail
        go_cut [8] from 39 to 59 (fun _ wx => (decide (ps.length ≤ 1) || decide (kindAt (L.take i) (joinP ps.dropLast) = 2)) = true ∧ Below w2.heap.size w2 wx)
        case first =>
          have HBcw : Hid (Below w1.heap.size w1 wc) := Lib.hid (HB2.out.trans (HBC.out.mono HB2.out.size))
          by_cases hp1 : 1 < ps.length
          · obtain ⟨up1, up2⟩ := up_facts HPS.out hp1
            obtain ⟨gl', el, hcl⟩ := own_str (own_kept HO.out HBC.out) (k := ps.length - 1) (by omega)
            cases el
            obtain ⟨f0, f1, f2, f3, f4, f5⟩ := HBOX.out wc HBcw.out
            obtain ⟨m, hm⟩ : ∃ m, m = (joinP ps.dropLast).length := ⟨_, rfl⟩
            obtain ⟨jj, hjj⟩ : ∃ jj, jj = ps.length - 1 := ⟨_, rfl⟩
            have e1 : (ps.length : Int) - 1 = (jj : Int) := by omega
            have hjl : jj < ps.length := by omega
            have HXP : Hid (x.path.length ≤ maxLen) := Lib.hid HSZ.out.path
            have hxz := HXZ.out
            have HUP := Lib.hid (show bytes (sx.extract 0 m) = joinP ps.dropLast by
              rw [bytes_extract _ 0 m (by omega), HXB.out]
              rw [List.drop_zero, Nat.sub_zero, hm, up2])
            rw [← hm] at up1
            rw [show ps[ps.length - 1]'(by omega) = ps[jj] by congr 1; exact hjj.symm] at up1 hcl
            rw [← hjj] at hcl
            have e2 : (sx.size : Int) - ((strOf ps[jj]).size : Int) - 1 = (m : Int) := by rw [strOf_size]; omega
            have e3 : m ≤ sx.size := by omega
            have HFI := Lib.hid (fun w (h : ItemsAt w (some ⟨g, off, none⟩) L) => find_walk L _ c i (sx.extract 0 m) w h HS.out (by omega) HR.out (by have := HXP.out; rw [ByteArray.size_extract]; omega))
            rw [HUP.out] at HFI
            have hsx : sx.size ≤ 1023 := by omega
            have hsl : (strOf ps[jj]).size + 1 ≤ sx.size := by rw [strOf_size]; omega
            have d0 : decide (1 < (ps.length : Int)) = true := decide_eq_true (by omega)
            have HP1 := Lib.hid hp1
            clear hjj hm up1 up2 HUP hxz
            generalize strOf ps[jj] = sl at *
            go_wp2
            refine wp_canon (by kernel_rfl) (by kernel_rfl) ?_
            go_wp2_with fail
            refine ⟨rfl, ?_⟩
            go_wp2_with fail
            have HIT := Lib.hid (H.out.below (HBW.out.trans (HBcw.out.mono HBW.out.size)))
            refine (HFI.out _ (HIT.out.below ((Below.refl _ _).drew))).mono ?_
            rintro e w5 ⟨rfl, hb5⟩
            have HB5 := Lib.hid (HBC.out.drew.trans (hb5.mono HBC.out.size))
            clear hb5
            generalize kindAt (L.take i) (joinP ps.dropLast) = kk at *
            by_cases hkk : kk = 2
            · have d1 : (kk != 2) = false := by rw [hkk]; rfl
              have HC := Lib.hid (show (decide (ps.length ≤ 1) || decide (kk = 2)) = true by rw [decide_eq_true hkk, Bool.or_true])
              clear hkk
              go_wp2
              go_meet
              exact ⟨HC.out, HB5.out⟩
            · have d1 : (kk != 2) = true := by rw [bne_iff_ne]; exact hkk
              have HF := Lib.hid (show rightAt (L.take i) x = false by
                rw [HRA.out, decide_eq_false hkk, decide_eq_false (show ¬ ps.length ≤ 1 by have := HP1.out; omega)]; rfl)
              clear hkk
              go_wp2
              go_ret
              exact ⟨by rw [HF.out]; rfl, HBW.out.trans ((HB2.out.trans (HB5.out.mono HB2.out.size)).mono HBW.out.size)⟩
          · have d1 : decide (1 < (ps.length : Int)) = false := decide_eq_false (by omega)
            have HC := Lib.hid (show (decide (ps.length ≤ 1) || decide (kindAt (L.take i) (joinP ps.dropLast) = 2)) = true by rw [decide_eq_true (show ps.length ≤ 1 by omega)]; rfl)
            go_wp2
            go_meet
            exact ⟨HC.out, HBC.out⟩
        case rest =>
          obtain ⟨hcond, hbd⟩ := hcut
          rw [hcond, Bool.true_and] at HRA
          have HBC2 := Lib.hid hbd
          have HBd : Hid (Below w1.heap.size w1 wc) := Lib.hid (HB2.out.trans (hbd.mono HB2.out.size))
          clear hcond hbd
          obtain ⟨f0, f1, f2, f3, f4, f5⟩ := HBOX.out wc HBd.out
          by_cases k1 : x.kind = 1
          · have d1 : (x.kind == 1) = true := by rw [beq_iff_eq]; exact k1
            have HKB := Lib.hid (show rightAt (L.take i) x = (x.target.isEmpty && fileB x) by rw [HRA.out]; unfold kindB; rw [if_pos k1])
            have HFW := Lib.hid (fun w (h : ItemV w x (.agg #[.int .i64 x.kind, .string (strOf x.path), .string (strOf x.target), .int .i64 x.size, .slice ra x.runs.length rc, .slice da x.data.length dc]) ra rc da dc) => refFile_walk x _ ra da rc dc w h HSZ.out)
            rw [HSX.out] at HFW
            have HIV : Hid (ItemV wc x (.agg #[.int .i64 x.kind, .string sx, .string (strOf x.target), .int .i64 x.size, .slice ra x.runs.length rc, .slice da x.data.length dc]) ra rc da dc) := Lib.hid ⟨by rw [HSX.out], HRU.out.below (HBW.out.trans (HBd.out.mono HBW.out.size)), HDA.out.below (HBW.out.trans (HBd.out.mono HBW.out.size))⟩
            generalize (x.target.isEmpty && fileB x) = q at *
            clear k1
            go_wp2_with fail
            refine (HFW.out _ HIV.out).mono ?_
            rintro e w6 ⟨rfl, hb6⟩
            have HB6 := Lib.hid (HBd.out.trans (hb6.mono HBd.out.size))
            clear hb6
            go_wp2
            go_ret
            exact ⟨by rw [HKB.out]; rfl, HBW.out.trans (HB6.out.mono HBW.out.size)⟩
          · have d1 : (x.kind == 1) = false := by rw [beq_eq_false_iff_ne]; exact k1
            have HKB := Lib.hid (show rightAt (L.take i) x = (bareB x && (if x.kind = 2 then x.target.isEmpty else if x.kind = 3 then !x.target.isEmpty && decide (x.target.length ≤ 255) && !x.target.contains 0 else if x.kind = 4 then decide (kindAt (L.take i) x.target = 1) else false)) by rw [HRA.out]; unfold kindB; rw [if_neg k1])
            clear HRA k1
            have hrl : x.runs.length ≤ 10000000000000 := by have := HSZ.out.runs; omega
            have hdl : x.data.length ≤ 140737488351232 := HSZ.out.data
            by_cases hbare : bareB x = true
            · rw [hbare, Bool.true_and] at HKB
              have hb3 : x.size = 0 ∧ x.runs = [] ∧ x.data = [] := by
                simpa [bareB, List.isEmpty_iff, and_assoc] using hbare
              have s1 : (x.size != 0) = false := by rw [hb3.1]; rfl
              rw [show x.runs.length = 0 by rw [hb3.2.1]; rfl] at f4
              rw [show x.data.length = 0 by rw [hb3.2.2]; rfl] at f5
              clear hbare hb3
              by_cases k2 : x.kind = 2
              · have d2 : (x.kind == 2) = true := by rw [beq_iff_eq]; exact k2
                rw [if_pos k2] at HKB
                have ht : (strOf x.target).toList.isEmpty = x.target.isEmpty := by rw [ByteArray.toList_eq]; rfl
                generalize x.target.isEmpty = q at *
                clear k2
                go_wp2
                go_ret
                exact ⟨by rw [HKB.out]; rfl, HBW.out.trans (HBd.out.mono HBW.out.size)⟩
              · have d2 : (x.kind == 2) = false := by rw [beq_eq_false_iff_ne]; exact k2
                rw [if_neg k2] at HKB
                clear k2
                by_cases k3 : x.kind = 3
                · have d3 : (x.kind == 3) = true := by rw [beq_iff_eq]; exact k3
                  rw [if_pos k3] at HKB
                  clear k3
                  have htz := HSZ.out.target
                  unfold maxLen at htz
                  have HST : Hid (bytes (strOf x.target) = x.target) := Lib.hid rfl
                  have hts : (strOf x.target).size = x.target.length := strOf_size _
                  have hstb : (strOf x.target).size ≤ 9223372036854775807 := by omega
                  generalize strOf x.target = st at *
                  have HTS := Lib.hid hts
                  clear hts htz
                  go_wp2
                  go_loopw [9] (fun v9 wr => ∃ k : Nat, k ≤ st.size ∧ v9 = .int .i64 k ∧ (0 : UInt8) ∉ (bytes st).take k ∧ wr = wc) (fun v9 _ => st.size - (intOf v9).toNat)
                  case atStart => exact ⟨0, by omega, rfl, by simp, rfl⟩
                  case round =>
                    obtain ⟨k, hk, rfl, hno, rfl⟩ := hrel
                    have HNO := Lib.hid hno
                    clear hno
                    by_cases hlt : k < st.size
                    · have hkl : k < (bytes st).length := by rw [bytes_len]; exact hlt
                      have HTK := Lib.hid (List.take_succ_eq_append_getElem hkl)
                      have HME := Lib.hid (List.getElem_mem hkl)
                      rw [show (bytes st)[k] = st[k] from rfl] at HTK HME
                      by_cases hz : st[k] = 0
                      · have n0 : (((st[k].toNat : Nat) : Int) == 0) = true := by rw [hz]; rfl
                        have HF := Lib.hid (show rightAt (L.take i) x = false by
                          rw [HKB.out]
                          have : x.target.contains 0 = true := by rw [← HST.out, List.contains_iff_mem]; rw [← hz]; exact HME.out
                          rw [this]; simp)
                        clear hz
                        go_wp2
                        go_ret
                        exact ⟨by rw [HF.out]; rfl, HBW.out.trans (HBd.out.mono HBW.out.size)⟩
                      · have n0 : (((st[k].toNat : Nat) : Int) == 0) = false := by
                          rw [beq_eq_false_iff_ne]; exact fun e => hz (UInt8.toNat_inj.1 (by simpa using Int.ofNat_inj.1 e))
                        have HN2 := Lib.hid (show (0 : UInt8) ∉ (bytes st).take (k + 1) by
                          rw [HTK.out, List.mem_append]
                          rintro (h | h)
                          · exact HNO.out h
                          · rw [List.mem_singleton] at h; exact hz h.symm)
                        clear hz
                        go_wp2
                        go_roundw
                        case rel => exact ⟨k + 1, by omega, by go_num, HN2.out, trivial⟩
                        case measure => simp [intOf]; omega
                    · obtain rfl : k = st.size := by omega
                      have HF := Lib.hid (show rightAt (L.take i) x = (decide (1 ≤ st.size) && decide (st.size ≤ 255)) by
                        rw [HKB.out]
                        have h1 := HNO.out
                        rw [List.take_of_length_le (by rw [bytes_len]; omega), HST.out] at h1
                        have h2 : x.target.contains 0 = false := by rw [List.contains_eq_mem, decide_eq_false_iff_not]; exact h1
                        have h3 : x.target.isEmpty = decide (x.target.length = 0) := by
                          rw [Bool.eq_iff_iff]; simp [List.isEmpty_iff]
                        rw [h2, h3, HTS.out, Bool.eq_iff_iff]
                        simp only [Bool.and_eq_true, Bool.not_eq_true', decide_eq_true_eq, decide_eq_false_iff_not, Bool.not_false, and_true]
                        omega)
                      by_cases z1 : 1 ≤ st.size
                      · by_cases z2 : st.size ≤ 255
                        · rw [decide_eq_true z1, decide_eq_true z2] at HF
                          go_wp2
                          go_ret
                          exact ⟨by rw [HF.out]; first | rfl | (simp; done) | (simp; omega), HBW.out.trans (HBd.out.mono HBW.out.size)⟩
                        · rw [decide_eq_false z2, Bool.and_false] at HF
                          go_wp2
                          go_ret
                          exact ⟨by rw [HF.out]; first | rfl | (simp; done) | (simp; omega), HBW.out.trans (HBd.out.mono HBW.out.size)⟩
                      · rw [decide_eq_false z1, Bool.false_and] at HF
                        go_wp2
                        go_ret
                        exact ⟨by rw [HF.out]; first | rfl | (simp; done) | (simp; omega), HBW.out.trans (HBd.out.mono HBW.out.size)⟩
                · have d3 : (x.kind == 3) = false := by rw [beq_eq_false_iff_ne]; exact k3
                  rw [if_neg k3] at HKB
                  clear k3
                  by_cases k4 : x.kind = 4
                  · have d4 : (x.kind == 4) = true := by rw [beq_iff_eq]; exact k4
                    rw [if_pos k4] at HKB
                    clear k4
                    have HFI := Lib.hid (fun w (h : ItemsAt w (some ⟨g, off, none⟩) L) => find_walk L _ c i (strOf x.target) w h HS.out (by omega) HR.out (by have := HSZ.out.target; rw [strOf_size]; exact this))
                    rw [show bytes (strOf x.target) = x.target from rfl] at HFI
                    generalize kindAt (L.take i) x.target = kk at *
                    generalize strOf x.target = st at *
                    have HIT := Lib.hid (H.out.below (HBW.out.trans (HBd.out.mono HBW.out.size)))
                    go_wp2_with fail
                    refine (HFI.out _ HIT.out).mono ?_
                    rintro e w6 ⟨rfl, hb6⟩
                    have HB6 := Lib.hid (HBd.out.trans (hb6.mono HBd.out.size))
                    clear hb6
                    have hbk : (kk == 1) = decide (kk = 1) := by rw [Bool.eq_iff_iff]; simp
                    go_wp2
                    go_ret
                    exact ⟨by rw [HKB.out]; simp, HBW.out.trans (HB6.out.mono HBW.out.size)⟩
                  · have d4 : (x.kind == 4) = false := by rw [beq_eq_false_iff_ne]; exact k4
                    rw [if_neg k4] at HKB
                    clear k4
                    go_wp2
                    go_ret
                    exact ⟨by rw [HKB.out]; rfl, HBW.out.trans (HBd.out.mono HBW.out.size)⟩
            · have HF := Lib.hid (show rightAt (L.take i) x = false by rw [HKB.out, Bool.eq_false_iff.2 hbare, Bool.false_and])
              clear HKB
              by_cases s1 : x.size = 0
              · by_cases s2 : x.runs = []
                · have s3 : x.data ≠ [] := by
                    intro e
                    apply hbare
                    simp [bareB, s1, s2, e]
                  have t1 : (x.size != 0) = false := by rw [s1]; rfl
                  rw [show x.runs.length = 0 by rw [s2]; rfl] at f4
                  have t3 : decide ((0 : Int) < (x.data.length : Int)) = true := decide_eq_true (by have := List.length_pos_iff.2 s3; omega)
                  have p3 : 0 < x.data.length := List.length_pos_iff.2 s3
                  clear hbare s1 s2 s3
                  go_wp2
                  go_ret
                  exact ⟨by rw [HF.out]; rfl, HBW.out.trans (HBd.out.mono HBW.out.size)⟩
                · have t1 : (x.size != 0) = false := by rw [s1]; rfl
                  have t2 : decide ((0 : Int) < (x.runs.length : Int)) = true := decide_eq_true (by have := List.length_pos_iff.2 s2; omega)
                  have p2 : 0 < x.runs.length := List.length_pos_iff.2 s2
                  clear hbare s1 s2
                  go_wp2
                  go_ret
                  exact ⟨by rw [HF.out]; rfl, HBW.out.trans (HBd.out.mono HBW.out.size)⟩
              · have t1 : (x.size != 0) = true := by rw [bne_iff_ne]; exact s1
                clear hbare s1
                go_wp2
                go_ret
                exact ⟨by rw [HF.out]; rfl, HBW.out.trans (HBd.out.mono HBW.out.size)⟩
end Go.Proofs.YtenpihkfghfpaaaDoor
