/- The law's first; DumpPacks. -/
import Derived.Test.YtenpihkfghfpaaaDoorDTwins
namespace Go.Proofs.YtenpihkfghfpaaaDoor
open Go.RowKit Vl Go.Maps
set_option linter.unusedVariables false

theorem list_pack {L : List Itm} {a : List UInt8} (h : packSpec L = (a, 0)) : listOf (parseD a) a = (L, 0) := by
  have h4 := (packSpec_ok h).2.2.2
  rw [parseD_pack h]
  unfold listOf
  rw [if_neg (by omega)]
  simp only
  rw [if_pos h]
def dirD : Itm := { kind := 2, path := [47, 100], target := [], size := 0, runs := [], data := [] }
theorem first_right : rightAll [dirD] = true := by decide
theorem first_len : (packAll [dirD]).length = 22 := by
  unfold packAll packBody packItm dirD magicB
  simp [leB_length]
theorem first_pack : packSpec [dirD] = (packAll [dirD], 0) := spec_good (by simp) first_right (by rw [first_len]; omega)
theorem dir_size : SizeItm dirD := by
  refine ⟨by unfold I64 dirD; simp, by unfold I64 dirD; simp, by unfold maxLen dirD; simp, by unfold maxLen dirD; simp, by unfold dirD; simp, by unfold dirD; simp, fun r hr => by unfold dirD at hr; simp at hr⟩
theorem dirs_size : SizeAll [dirD] := ⟨by simp, fun x hx => by simp at hx; subst hx; exact dir_size⟩
theorem dir_at {w : World} {b : Nat} (h : w.heap[b]? = some (.cells #[.int .i64 2, .string ⟨#[47, 100]⟩, .string ⟨#[]⟩, .int .i64 0, .slice none 0 0, .slice none 0 0] 47 (0, 0))) : ItemsAt w (some ⟨b, 0, none⟩) [dirD] := by
  intro i hi
  have : i = 0 := by simp at hi; omega
  subst this
  exact ⟨b, 0, none, 0, none, 0, rfl, lt_whole h, cell_whole h 0, cell_whole h 1, cell_whole h 2, cell_whole h 3, cell_whole h 4, cell_whole h 5, fun i hi => by simp [dirD] at hi, fun i hi => by simp [dirD] at hi⟩

set_option maxRecDepth 100000 in
set_option maxHeartbeats 4000000 in
theorem first_walk (w : World) (hM : MaxAt w) : Calls Tryd.prog 12 #[] w fun e w' => e = .returned (.bool true) ∧ Below w.heap.size w w' := by
  have h1 := heap_alloc_new w (.cells #[.int .i64 2, .string ⟨#[47, 100]⟩, .string ⟨#[]⟩, .int .i64 0, .slice none 0 0, .slice none 0 0] 47)
  have hb1 : Below w.heap.size w (w.alloc (.cells #[.int .i64 2, .string ⟨#[47, 100]⟩, .string ⟨#[]⟩, .int .i64 0, .slice none 0 0, .slice none 0 0] 47)) := (Below.refl _ _).alloc (Nat.le_refl _) _
  have HN := Lib.hid (pack_walk [dirD] _ 1 _ (dir_at h1) dirs_size (hM.below hb1))
  have HB1 := Lib.hid hb1
  have HM := Lib.hid hM
  clear h1 hb1 hM
  go_enter Tryd.func12, Tryd.ntmps12
  go_wp2_with fail
  refine HN.out.mono ?_
  rintro e w2 ⟨pv, rfl, hown, hb2⟩
  rw [first_pack] at hown ⊢
  simp only at hown ⊢
  obtain ⟨pa, pc, rfl⟩ := hown.form
  have HO := Lib.hid hown
  have HB2 := Lib.hid (HB1.out.trans (hb2.mono HB1.out.size))
  have hpc : (packAll [dirD]).length ≤ pc := by
    rcases hown.2 with ⟨h, h0⟩ | ⟨g, cap, cur, h, _, _, h3, _⟩
    · cases h; first | done | omega
    · cases h; exact h3
  have HL := Lib.hid (list_walk (packAll [dirD]) pa pc w2 (BytesAt.of_own hown).2 hpc (by rw [first_len]; omega) (HM.out.below HB2.out))
  rw [list_pack first_pack] at HL
  have hlen := first_len
  clear hown hb2 HN
  generalize packAll [dirD] = fb at *
  rw [hlen] at HL
  go_wp2_with fail
  refine HL.out.mono ?_
  rintro e w3 ⟨lv, rfl, hb3, ds, hio⟩
  have HB3 := Lib.hid (HB2.out.trans (hb3.mono HB2.out.size))
  obtain ⟨la, lc, rfl⟩ := row_form hio.row
  obtain ⟨g, off, ra, rc, da, dc, hx⟩ := (hio.at).2 0 (by simp)
  have hxa := hx.addr
  have x0 := hx.c0
  have x1 := hx.c1
  have x2 := hx.c2
  have x3 := hx.c3
  have x4 := hx.c4
  have x5 := hx.c5
  have HS := Lib.hid (sameItem_walk dirD dirD ra da none none rc dc 0 0 (.agg #[.int .i64 2, .string ⟨#[47, 100]⟩, .string ⟨#[]⟩, .int .i64 0, .slice ra 0 rc, .slice da 0 dc]) (.agg #[.int .i64 2, .string ⟨#[47, 100]⟩, .string ⟨#[]⟩, .int .i64 0, .slice none 0 0, .slice none 0 0]) w3 hx.v ⟨rfl, fun i hi => by simp [dirD] at hi, fun i hi => by simp [dirD] at hi⟩ dir_size dir_size)
  rw [decide_eq_true rfl] at HS
  subst hxa
  simp only [List.getElem_cons_zero, dirD, List.length_nil, Nat.zero_mul, Nat.add_zero] at x0 x1 x2 x3 x4 x5
  have hl1 : ([dirD] : List Itm).length = 1 := rfl
  clear hb3 hio hx
  rw [hl1]
  have p1 : strOf [47, 100] = ⟨#[47, 100]⟩ := rfl
  have p2 : strOf [] = ⟨#[]⟩ := rfl
  rw [p1] at x1
  rw [p2] at x2
  go_wp2_with fail
  refine (num_walk 0 _).mono ?_
  rintro e w4 ⟨rfl, rfl⟩
  go_wp2_with fail
  refine (num_walk 0 _).mono ?_
  rintro e w5 ⟨rfl, rfl⟩
  go_wp2_with fail
  refine HS.out.mono ?_
  rintro e w6 ⟨rfl, hb6⟩
  have HB6 := Lib.hid (HB3.out.trans (hb6.mono HB3.out.size))
  clear hb6 HS
  go_wp2
  go_ret
  exact ⟨rfl, HB6.out⟩

set_option maxRecDepth 100000 in
set_option maxHeartbeats 4000000 in
theorem dumpPacks_walk (L : List Itm) (a : Option Addr) (c : Nat) (w : World) (h : ItemsAt w a L) (hs : SizeAll L) (hL : L.length * 96 ≤ 140737488351232) (hM : MaxAt w) :
    Calls Tryd.prog 3 #[.slice a L.length c] w fun e w' => e = .returned (.bool true) ∧ Below w.heap.size w w' := by
  have H := Lib.hid h
  have HS := Lib.hid hs
  have HM := Lib.hid hM
  have HN := Lib.hid (twins_walk L a c w h hs hL)
  clear h hs hM
  go_enter Tryd.func3, Tryd.ntmps3
  go_wp2_with fail
  refine HN.out.mono ?_
  rintro e w1 ⟨tv, rfl, ⟨ds, hio⟩, hb1⟩
  obtain ⟨ta, tc, rfl⟩ := row_form hio.row
  have HIO := Lib.hid hio
  have HB1 := Lib.hid hb1
  have HP := Lib.hid (pack_walk L ta tc w1 (hio.at).2 HS.out (HM.out.below hb1))
  clear hio hb1 HN
  go_wp2_with fail
  refine HP.out.mono ?_
  rintro e w2 ⟨pv, rfl, hown, hb2⟩
  obtain ⟨pa, pc, rfl⟩ := hown.form
  have HO := Lib.hid hown
  have HIO2 := Lib.hid (HIO.out.below hb2)
  have HB2 := Lib.hid (HB1.out.trans (hb2.mono HB1.out.size))
  have HR := Lib.hid (refPack_walk L a c w2 (H.out.below HB2.out) HS.out)
  clear hown hb2 HP HIO
  go_wp2_with fail
  refine HR.out.mono ?_
  rintro e w3 ⟨rv, rfl, hown2, hb3⟩
  obtain ⟨qa, qc, rfl⟩ := hown2.form
  have HB3 := Lib.hid (HB2.out.trans (hb3.mono HB2.out.size))
  have HIO3 := Lib.hid (HIO2.out.below hb3)
  have HBP := Lib.hid ((BytesAt.of_own HO.out).2.below hb3)
  have HBQ := Lib.hid (BytesAt.of_own hown2).2
  have hpl : (packSpec L).1.length ≤ 140737488351232 := by
    unfold packSpec
    split
    · simp
    · split
      · simp
      · split
        · simp
        · rename_i h1 h2 h3; simp only; omega
  have HSM := Lib.hid (same_walk (packSpec L).1 (packSpec L).1 pa qa pc qc w3 HBP.out HBQ.out hpl hpl)
  rw [decide_eq_true rfl] at HSM
  clear hown2 hb3 HR HIO2 HO HBP HBQ
  generalize (packSpec L).2 = pe at *
  generalize (packSpec L).1 = pb at *
  go_wp2_with fail
  refine HSM.out.mono ?_
  rintro e w4 ⟨rfl, hb4⟩
  have HB4 := Lib.hid (HB3.out.trans (hb4.mono HB3.out.size))
  have HIO4 := Lib.hid (HIO3.out.below hb4)
  clear hb4 HSM HIO3
  go_wp2_with fail
  refine (num_walk pe _).mono ?_
  rintro e w5 ⟨rfl, rfl⟩
  have HSI := Lib.hid (sameItems_walk L L ta a tc c w5 (HIO4.out.at).2 (H.out.below HB4.out) HS.out HS.out)
  rw [decide_eq_true rfl] at HSI
  go_wp2_with fail
  refine HSI.out.mono ?_
  rintro e w6 ⟨rfl, hb6⟩
  have HB6 := Lib.hid (HB4.out.trans (hb6.mono HB4.out.size))
  have HF := Lib.hid (first_walk w6 (HM.out.below HB6.out))
  clear hb6 HSI
  go_wp2_with fail
  refine HF.out.mono ?_
  rintro e w7 ⟨rfl, hb7⟩
  have HB7 := Lib.hid (HB6.out.trans (hb7.mono HB6.out.size))
  clear hb7 HF
  go_wp2
  go_ret
  exact ⟨rfl, HB7.out⟩
end Go.Proofs.YtenpihkfghfpaaaDoor
