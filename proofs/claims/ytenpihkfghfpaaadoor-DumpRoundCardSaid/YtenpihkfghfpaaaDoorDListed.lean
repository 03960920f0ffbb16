/- The law's listed; DumpLists. -/
import Derived.Test.YtenpihkfghfpaaaDoorDFirst
import Derived.Test.YtenpihkfghfpaaaDoorDChangeW
namespace Go.Proofs.YtenpihkfghfpaaaDoor
open Go.RowKit Vl Go.Maps
set_option linter.unusedVariables false

theorem listOf_size (l : List UInt8) : SizeAll (listOf (parseD l) l).1 := by
  unfold listOf
  split
  · exact ⟨by simp, by simp⟩
  · rename_i h
    cases hp : parseD l with
    | none => exact ⟨by simp, by simp⟩
    | some L =>
      simp only
      split
      · exact parseD_size hp (by omega)
      · exact ⟨by simp, by simp⟩

theorem own_cap {w : World} {B e n c : Nat} {a : Option Addr} {xs : List Value} (h : Own w B e (.slice a n c) n xs) : n ≤ c := by
  rcases h.2 with ⟨h, h0⟩ | ⟨_, cap, _, h, _, _, h3, _⟩
  · omega
  · cases h; exact h3

set_option maxRecDepth 100000 in
set_option maxHeartbeats 4000000 in
theorem listed_walk (l : List UInt8) (a : Option Addr) (c : Nat) (w : World) (h : BytesAt w a l) (hl : l.length ≤ 140737488351232) (hM : MaxAt w) :
    Calls Tryd.prog 13 #[.slice a l.length c] w fun e w' => e = .returned (.bool true) ∧ Below w.heap.size w w' := by
  have H := Lib.hid h
  have HM := Lib.hid hM
  have HN := Lib.hid (twin_walk l a c w h hl)
  clear h hM
  go_enter Tryd.func13, Tryd.ntmps13
  go_wp2_with fail
  refine HN.out.mono ?_
  rintro e w1 ⟨tv, rfl, hown, hb1⟩
  obtain ⟨ta, tc, rfl⟩ := hown.form
  have HB1 := Lib.hid hb1
  have HT := Lib.hid (BytesAt.of_own hown).2
  have HL := Lib.hid (list_walk l ta tc w1 HT.out (own_cap hown) hl (HM.out.below hb1))
  clear hown hb1 HN
  go_wp2_with fail
  refine HL.out.mono ?_
  rintro e w2 ⟨lv, rfl, hb2, ds, hio⟩
  obtain ⟨la, lc, rfl⟩ := row_form hio.row
  have HIO := Lib.hid hio
  have HB2 := Lib.hid (HB1.out.trans (hb2.mono HB1.out.size))
  have HT2 := Lib.hid (HT.out.below hb2)
  have HR := Lib.hid (reflist_walk l a c w2 (H.out.below HB2.out) hl)
  rw [← list_same] at HR
  clear hio hb2 HL HT
  have hsz := listOf_size l
  generalize listOf (parseD l) l = r at *
  obtain ⟨L, code⟩ := r
  simp only at hsz HIO HR ⊢
  have HSZ := Lib.hid hsz
  clear hsz
  go_wp2_with fail
  refine HR.out.mono ?_
  rintro e w3 ⟨rv, rfl, hb3, ds2, hio2⟩
  obtain ⟨ra, rc, rfl⟩ := row_form hio2.row
  have HB3 := Lib.hid (HB2.out.trans (hb3.mono HB2.out.size))
  have HT3 := Lib.hid (HT2.out.below hb3)
  have HSI := Lib.hid (sameItems_walk L L la ra lc rc w3 ((HIO.out.below hb3).at).2 (hio2.at).2 HSZ.out HSZ.out)
  rw [decide_eq_true rfl] at HSI
  clear hio2 hb3 HR HT2 HIO
  simp only
  go_wp2_with fail
  refine HSI.out.mono ?_
  rintro e w4 ⟨rfl, hb4⟩
  have HB4 := Lib.hid (HB3.out.trans (hb4.mono HB3.out.size))
  have HT4 := Lib.hid (HT3.out.below hb4)
  clear hb4 HSI HT3
  go_wp2_with fail
  refine (num_walk code _).mono ?_
  rintro e w5 ⟨rfl, rfl⟩
  have HSM := Lib.hid (same_walk l l ta a tc c w5 HT4.out (H.out.below HB4.out) hl hl)
  rw [decide_eq_true rfl] at HSM
  go_wp2_with fail
  refine HSM.out.mono ?_
  rintro e w6 ⟨rfl, hb6⟩
  have HB6 := Lib.hid (HB4.out.trans (hb6.mono HB4.out.size))
  clear hb6 HSM
  go_wp2
  go_ret
  exact ⟨rfl, HB6.out⟩

/-- A change, as it comes in. -/
structure Chg where
  kind : Int
  at_ : Int
  value : Int
  back : Bool
  sum : Bool
def Chg.ok (x : Chg) : Prop := -9223372036854775808 ≤ x.at_ ∧ x.at_ ≤ 9223372036854775807
def ChangesAt (w : World) (a : Option Addr) (C : List Chg) : Prop := ∀ i (h : i < C.length), ∃ g off, a = some ⟨g, off, none⟩ ∧ g < w.heap.size ∧ w.cell? ⟨g, off + i * 5, none⟩ = some (.int .i64 C[i].kind) ∧ w.cell? ⟨g, off + i * 5 + 1, none⟩ = some (.int .i64 C[i].at_) ∧
  w.cell? ⟨g, off + i * 5 + 2, none⟩ = some (.int .i64 C[i].value) ∧ w.cell? ⟨g, off + i * 5 + 3, none⟩ = some (.bool C[i].back) ∧ w.cell? ⟨g, off + i * 5 + 4, none⟩ = some (.bool C[i].sum)
theorem ChangesAt.below {w w' : World} {a : Option Addr} {C : List Chg} (h : ChangesAt w a C) (hb : Below w.heap.size w w') : ChangesAt w' a C := by
  intro i hi
  obtain ⟨g, off, h1, h2, h3, h4, h5, h6, h7⟩ := h i hi
  exact ⟨g, off, h1, Nat.lt_of_lt_of_le h2 hb.size, by rw [hb.cell h2]; exact h3, by rw [hb.cell h2]; exact h4, by rw [hb.cell h2]; exact h5, by rw [hb.cell h2]; exact h6, by rw [hb.cell h2]; exact h7⟩
theorem spec_len (L : List Itm) : (packSpec L).1.length ≤ 4194304 := by
  unfold packSpec
  split
  · simp
  · split
    · simp
    · split
      · simp
      · rename_i h1 h2 h3; simp only; omega

set_option maxRecDepth 100000 in
set_option maxHeartbeats 4000000 in
theorem dumpLists_walk (L : List Itm) (C : List Chg) (raw : List UInt8) (a ca ra : Option Addr) (c cc rc : Nat) (w : World) (h : ItemsAt w a L) (hs : SizeAll L) (hC : ChangesAt w ca C) (hCok : ∀ x ∈ C, x.ok) (hCl : C.length ≤ maxLen)
    (hr : BytesAt w ra raw) (hrl : raw.length ≤ 140737488351232) (hM : MaxAt w) :
    Calls Tryd.prog 4 #[.slice a L.length c, .slice ca C.length cc, .slice ra raw.length rc] w fun e w' => e = .returned (.bool true) ∧ Below w.heap.size w w' := by
  have HC := Lib.hid hC
  have HOK := Lib.hid hCok
  have HRW := Lib.hid hr
  have HM := Lib.hid hM
  have HN := Lib.hid (refPack_walk L a c w h hs)
  unfold maxLen at hCl
  clear h hs hC hCok hr hM
  go_enter Tryd.func4, Tryd.ntmps4
  go_wp2_with fail
  refine HN.out.mono ?_
  rintro e w1 ⟨bv, rfl, hown, hb1⟩
  obtain ⟨ba, bc, rfl⟩ := hown.form
  have HB1 := Lib.hid hb1
  have HBA := Lib.hid (BytesAt.of_own hown).2
  have hbl := spec_len L
  have HL := Lib.hid (listed_walk (packSpec L).1 ba bc w1 HBA.out (by omega) (HM.out.below hb1))
  clear hown hb1 HN
  generalize (packSpec L).2 = pe at *
  generalize (packSpec L).1 = pb at *
  go_wp2_with fail
  refine HL.out.mono ?_
  rintro e w2 ⟨rfl, hb2⟩
  have HB2 := Lib.hid (HB1.out.trans (hb2.mono HB1.out.size))
  have HBA2 := Lib.hid (HBA.out.below hb2)
  have HL2 := Lib.hid (listed_walk raw ra rc w2 (HRW.out.below HB2.out) hrl (HM.out.below HB2.out))
  clear hb2 HL HBA
  go_wp2_with fail
  refine HL2.out.mono ?_
  rintro e w3 ⟨rfl, hb3⟩
  have HB3 := Lib.hid (HB2.out.trans (hb3.mono HB2.out.size))
  have HBA3 := Lib.hid (HBA2.out.below hb3)
  have HF := Lib.hid (first_walk w3 (HM.out.below HB3.out))
  clear hb3 HL2 HBA2
  go_wp2_with fail
  refine HF.out.mono ?_
  rintro e w4 ⟨rfl, hb4⟩
  have HB4 := Lib.hid (HB3.out.trans (hb4.mono HB3.out.size))
  have HBA4 := Lib.hid (HBA3.out.below hb4)
  clear hb4 HF HBA3
  go_wp2_with fail
  go_loopw [7, 9] (fun v7 v9 wr => ∃ (i : Nat) (bl : List UInt8) (xa : Option Addr) (xc : Nat), i ≤ C.length ∧ i ≤ 20 ∧ v9 = .int .i64 i ∧ v7 = .slice xa bl.length xc ∧ BytesAt wr xa bl ∧ bl.length ≤ 4194304 + i ∧ Below w.heap.size w wr) (fun _ v9 _ => 20 - (intOf v9).toNat)
  case atStart => exact ⟨0, pb, ba, bc, Nat.zero_le _, by omega, rfl, rfl, HBA4.out, by omega, HB4.out⟩
  case round =>
    obtain ⟨i, bl, xa, xc, hi, hi20, rfl, rfl, hba, hbl2, hbw⟩ := hrel
    have HBX := Lib.hid hba
    have HBW := Lib.hid hbw
    clear hba hbw
    by_cases hlt : i < C.length
    · by_cases h20 : i < 20
      · obtain ⟨g, off, rfl, hg, k0, k1, k2, k3, k4⟩ := (HC.out.below HBW.out) i hlt
        have hok := HOK.out C[i] (List.getElem_mem hlt)
        generalize C[i] = x at *
        obtain ⟨ck, cat, cv, cbk, csm⟩ := x
        simp only at k0 k1 k2 k3 k4
        have HCH := Lib.hid (changed_walk bl ck cat cv cbk csm xa xc wr HBX.out (by omega) hok)
        have hcl := changedB_len bl ck cat cv cbk csm
        clear hok
        go_wp2_with fail
        refine HCH.out.mono ?_
        rintro e w5 ⟨r, rfl, ⟨na, nc, rfl, hna⟩, hb5⟩
        have HB5 := Lib.hid (HBW.out.trans (hb5.mono HBW.out.size))
        have HNA := Lib.hid hna
        generalize changedB bl ck cat cv cbk csm = nb at *
        have HLL := Lib.hid (listed_walk nb na nc w5 HNA.out (by omega) (HM.out.below HB5.out))
        clear hna hb5 HCH
        go_wp2_with fail
        refine HLL.out.mono ?_
        rintro e w6 ⟨rfl, hb6⟩
        have HB6 := Lib.hid (HB5.out.trans (hb6.mono HB5.out.size))
        have HNA6 := Lib.hid (HNA.out.below hb6)
        clear hb6 HLL HNA
        go_wp2
        go_roundw
        case rel => exact ⟨i + 1, nb, na, nc, by omega, by omega, by go_num, rfl, HNA6.out, by omega, HB6.out⟩
        case measure => simp [intOf]; omega
      · go_wp2
        go_ret
        exact ⟨rfl, HBW.out⟩
    · go_wp2
      go_ret
      exact ⟨rfl, HBW.out⟩
end Go.Proofs.YtenpihkfghfpaaaDoor
