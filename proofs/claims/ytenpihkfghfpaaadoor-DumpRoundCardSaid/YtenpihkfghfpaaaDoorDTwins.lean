/- The law's twins. -/
import Derived.Test.YtenpihkfghfpaaaDoorDSame
namespace Go.Proofs.YtenpihkfghfpaaaDoor
open Go.RowKit Vl Go.Maps
set_option linter.unusedVariables false

theorem rcells_take (rs : List (Int × Int)) (j : Nat) (h : j < rs.length) : rcells (rs.take (j + 1)) = rcells (rs.take j) ++ [.int .i64 rs[j].1, .int .i64 rs[j].2] := by
  rw [List.take_succ_eq_append_getElem h, rcells_snoc]

set_option maxRecDepth 100000 in
set_option maxHeartbeats 4000000 in
theorem twins_walk (L : List Itm) (a : Option Addr) (c : Nat) (w : World) (ha : ItemsAt w a L) (hs : SizeAll L) (hL47 : L.length * 96 ≤ 140737488351232) :
    Calls Tryd.prog 6 #[.slice a L.length c] w fun e w' => ∃ v, e = .returned v ∧ (∃ ds, ItemsO w' w.heap.size v L ds) ∧ Below w.heap.size w w' := by
  obtain ⟨i7, hi7, hz70, hz71, hz72⟩ := info_parts info47
  obtain ⟨i9, hi9, hz90, hz91, hz92⟩ := info_parts info49
  have HA := Lib.hid ha
  have HS := Lib.hid hs
  have hLn := hs.1
  clear ha hs
  go_enter Tryd.func6, Tryd.ntmps6
  go_wp2_with fail
  go_loopg [3, 4] (L.length) (fun k v3 v4 wr => ∃ i ds, i ≤ L.length ∧ k = L.length - i ∧ v4 = .int .i64 i ∧ ItemsO wr w.heap.size v3 (L.take i) ds ∧ Below w.heap.size w wr)
  case atStart => exact ⟨0, [], Nat.zero_le _, rfl, rfl, by rw [List.take_zero]; exact ItemsO.nil _ _, Below.refl _ _⟩
  case round =>
    obtain ⟨i, ds, hi, hk, rfl, hio, hbw⟩ := hrel
    obtain ⟨wo, rfl⟩ : ∃ wo, wo = wr := ⟨_, rfl⟩
    obtain ⟨va, vc, rfl⟩ := row_form hio.row
    have HIO := Lib.hid hio
    have HBW := Lib.hid hbw
    have hwr : w.heap.size ≤ wo.heap.size := hbw.size
    have hti : (L.take i).length = i := by rw [List.length_take]; omega
    rw [hti] at HIO ⊢
    clear hio hbw
    by_cases hlt : i < L.length
    · obtain ⟨g, off, ra, rc, da, dc, hx⟩ := (HA.out.below HBW.out) i hlt
      have HX := Lib.hid hx
      have HSX := Lib.hid (HS.out.2 _ (List.getElem_mem hlt))
      have HTK := Lib.hid (show L.take (i + 1) = L.take i ++ [L[i]] from List.take_succ_eq_append_getElem hlt)
      have hxa := hx.addr
      have x0 := hx.c0
      have x1 := hx.c1
      have x2 := hx.c2
      have x3 := hx.c3
      have x4 := hx.c4
      have x5 := hx.c5
      subst hxa
      clear hx
      generalize L[i] = x at *
      obtain ⟨q, hq⟩ : ∃ q, q = wo.heap.size := ⟨_, rfl⟩
      have HQ := Lib.hid hq
      go_upto_region 6 with fail
      have hq1 := heap_alloc_new wo (.cells #[.int .i64 x.kind, .string (strOf x.path), .string (strOf x.target), .int .i64 x.size, .slice ra x.runs.length rc, .slice da x.data.length dc] 47)
      have hb1 : Below wo.heap.size wo (wo.alloc (.cells #[.int .i64 x.kind, .string (strOf x.path), .string (strOf x.target), .int .i64 x.size, .slice ra x.runs.length rc, .slice da x.data.length dc] 47)) := (Below.refl _ _).alloc (Nat.le_refl _) _
      have hs1 : (wo.alloc (.cells #[.int .i64 x.kind, .string (strOf x.path), .string (strOf x.target), .int .i64 x.size, .slice ra x.runs.length rc, .slice da x.data.length dc] 47)).heap.size = wo.heap.size + 1 := size_alloc _ _
      rw [← hq] at hq1 hb1 hs1 ⊢
      generalize wo.alloc (.cells #[.int .i64 x.kind, .string (strOf x.path), .string (strOf x.target), .int .i64 x.size, .slice ra x.runs.length rc, .slice da x.data.length dc] 47) = w1 at *
      have HQ1 := Lib.hid hq1
      have HB1 := Lib.hid hb1
      have hs1' : q + 1 ≤ w1.heap.size := by omega
      have g5 := cell_whole hq1 5
      simp only [List.getElem?_toArray, List.getElem?_cons_succ, List.getElem?_cons_zero] at g5
      have HN := Lib.hid (twin_walk x.data da dc w1 ((HX.out.below (hq ▸ hb1)).data) (by have := HSX.out.data; omega))
      clear hq hq1 hb1 hs1 x0 x1 x2 x3 x5
      go_wp2_with fail
      refine HN.out.mono ?_
      rintro e w2 ⟨dv, rfl, hdv, hb2⟩
      obtain ⟨ea, ec, rfl⟩ := hdv.form
      have HB2 := Lib.hid (HB1.out.trans (hb2.mono (by omega)))
      have hq2 := (hb2.block q (by omega)).trans HQ1.out
      have HQ2 := Lib.hid hq2
      have HDV := Lib.hid hdv
      have hs2 : w1.heap.size ≤ w2.heap.size := hb2.size
      have f5 := frozen_whole hq2 5
      have f4 := frozen_whole (set_whole (i := 5) hq2 (.slice ea x.data.length ec)) 4
      have m5 := cell_whole hq2 5
      have m4 := cell_whole (set_whole (i := 5) hq2 (.slice ea x.data.length ec)) 4
      simp only [List.getElem?_toArray, List.getElem?_cons_succ, List.getElem?_cons_zero] at m5
      clear hdv hb2 hq2 HN g5
      go_upto_region 8 with fail
      have HQ3 := Lib.hid (show ((w2.setCell ⟨q, 5, none⟩ (.slice ea x.data.length ec)).setCell ⟨q, 4, none⟩ (.slice none 0 0)).heap[q]? = some (.cells #[.int .i64 x.kind, .string (strOf x.path), .string (strOf x.target), .int .i64 x.size, .slice none 0 0, .slice ea x.data.length ec] 47 (0, 0)) by rw [set_whole (i := 4) (set_whole (i := 5) HQ2.out _)]; rfl)
      have HB3 := Lib.hid ((HB2.out.setCell (p := ⟨q, 5, none⟩) (Nat.le_refl _) (.slice ea x.data.length ec)).setCell (p := ⟨q, 4, none⟩) (Nat.le_refl _) (.slice none 0 0))
      have HD3 := Lib.hid (row_setCell (b := q) (i := 4) (u := .slice none 0 0) (row_setCell (b := q) (i := 5) (u := .slice ea x.data.length ec) (World.ownsRow.mono HDV.out (by omega : q ≤ _)) HQ2.out (by decide)) (set_whole (i := 5) HQ2.out _) (by decide))
      clear f5 f4 m5 m4 HB2 HQ2 HDV hs2
      generalize (w2.setCell ⟨q, 5, none⟩ (.slice ea x.data.length ec)).setCell ⟨q, 4, none⟩ (.slice none 0 0) = w3 at *
      go_wp2_with fail
      go_loopg [6] (x.runs.length) (fun k v6 wx => ∃ j rv, j ≤ x.runs.length ∧ k = x.runs.length - j ∧ v6 = .int .i64 j ∧ wx.heap[q]? = some (.cells #[.int .i64 x.kind, .string (strOf x.path), .string (strOf x.target), .int .i64 x.size, rv, .slice ea x.data.length ec] 47 (0, 0)) ∧ wx.ownsRow q 49 2 rv j (rcells (x.runs.take j)) ∧ Own wx q 5 (.slice ea x.data.length ec) x.data.length (bcells x.data) ∧ Below q wo wx)
      case atStart => exact ⟨0, _, Nat.zero_le _, rfl, rfl, HQ3.out, World.ownsRow_nil _ _ _ _, HD3.out, HB3.out⟩
      case round =>
        obtain ⟨j, rv, hj, hk2, rfl, hqx, hrow, hdx, hbx⟩ := hrel
        have HQX := Lib.hid hqx
        have HROW := Lib.hid hrow
        have HDX := Lib.hid hdx
        have HBX := Lib.hid hbx
        obtain ⟨ea4, ec4, rfl⟩ := row_form hrow
        have hxx := HX.out.below (HQ.out ▸ hbx)
        have x0 := hxx.c0
        have x1 := hxx.c1
        have x2 := hxx.c2
        have x3 := hxx.c3
        have x4 := hxx.c4
        have x5 := hxx.c5
        have hrn := hxx.runs
        have g0 := cell_whole hqx 0
        have g1 := cell_whole hqx 1
        have g2 := cell_whole hqx 2
        have g3 := cell_whole hqx 3
        have g4 := cell_whole hqx 4
        have g5 := cell_whole hqx 5
        have f4 := frozen_whole hqx 4
        simp only [List.getElem?_toArray, List.getElem?_cons_succ, List.getElem?_cons_zero] at g0 g1 g2 g3 g4 g5
        have hqlt : q < wr.heap.size := lt_whole hqx
        have hrl : x.runs.length * 16 ≤ 140737488351232 := HSX.out.runs
        by_cases hjl : j < x.runs.length
        · obtain ⟨h, of2, rfl, hh, k0, k1⟩ := hrn j hjl
          have HRT := Lib.hid (rcells_take x.runs j hjl)
          clear hqx hrow hdx hbx hxx hrn
          generalize x.runs[j] = u at *
          obtain ⟨u1, u2⟩ := u
          simp only at k0 k1
          go_wp2_with fail
          refine wp_canon (by kernel_rfl) (by kernel_rfl) ?_
          have hjm : j ≤ 8796093022202 := by omega
          have hB : q ≤ wr.heap.size := by omega
          go_wp2_with (at_builtin; refine wpList_append_own _ rfl _ _ 45 rfl q 49 i9 (.agg #[.int .i64 0, .int .i64 0]) 2 16 Tryd.underlying45 hi9 hz90 hz91 hz92 rfl (by decide) _ j _ rfl (World.ownsRow.alloc HROW.out _) ⟨wr.heap.size, 0, none⟩ 1 1 [.int .i64 u1, .int .i64 u2] rfl rfl (new_cells _ _ _ _ rfl) (two_cell rfl rfl) (by unfold maxLen; omega) (by omega) (le_alloc hB _) ?_)
          intro v10 w10 h10 hg10 _
          obtain ⟨a10, d10, rfl⟩ := row_form h10
          have hrow9 := World.ownsRow.alloc HROW.out (.cells #[.int .i64 u1, .int .i64 u2] 49)
          have hbb9 := alloc_whole (o' := .cells #[.int .i64 u1, .int .i64 u2] 49) HQX.out
          have hbb10 : w10.heap[q]? = some _ := (hg10.block q (lt_whole hbb9) (fun e => row_ne hrow9 hbb9 (by decide) e.symm)).trans hbb9
          have HBB10 := Lib.hid hbb10
          have HB10 := Lib.hid ((((HBX.out.alloc hB _).drew).grown hg10 (le_drew (le_alloc hB _)) (fun k hk => (row_blk hrow9 hk).1)).setCell (p := ⟨q, 4, none⟩) (Nat.le_refl _) (.slice a10 (j + 1) d10))
          have HROW10 := Lib.hid (row_setCell (b := q) (i := 4) (u := .slice a10 (j + 1) d10) h10 hbb10 (by decide))
          have HD10 := Lib.hid (row_setCell (b := q) (i := 4) (u := .slice a10 (j + 1) d10) (row_grown (show (wr.alloc (.cells #[.int .i64 u1, .int .i64 u2] 49)).drew.ownsRow q 5 1 _ _ _ from World.ownsRow.alloc HDX.out (.cells #[.int .i64 u1, .int .i64 u2] 49)) hg10 (fun k cs hk hc => by
            obtain ⟨_, _, cur, h3⟩ := row_blk hrow9 hk
            have h4 : (wr.alloc (.cells #[.int .i64 u1, .int .i64 u2] 49)).heap[k]? = some (.cells cs 5 (0, 0)) := hc
            rw [h3] at h4
            simp at h4)) hbb10 (by decide))
          have m4 := frozen_whole hbb10 4
          have m4' := cell_whole hbb10 4
          simp only [List.getElem?_toArray, List.getElem?_cons_succ, List.getElem?_cons_zero] at m4'
          clear h10 hg10 hrow9 hbb9 hbb10
          go_wp2
          refine ⟨rfl, ?_⟩
          go_wp2
          go_roundg (x.runs.length - (j + 1))
          case rel => exact ⟨j + 1, _, by omega, rfl, by go_num, (by rw [set_whole (i := 4) HBB10.out]; rfl), by rw [HRT.out]; exact HROW10.out, HD10.out, HB10.out⟩
          case measure => omega
        · obtain rfl : j = x.runs.length := by omega
          rw [List.take_length] at HROW
          have hB : w.heap.size ≤ wr.heap.size := by have := HBX.out.size; have := HQ.out; omega
          have hqw : w.heap.size ≤ q := by have := HQ.out; omega
          have HI4 := Lib.hid (HIO.out.below (HQ.out ▸ hbx))
          have hB4 := HBW.out.trans ((HQ.out ▸ hbx : Below wo.heap.size wo wr).mono hwr)
          have HB4 := Lib.hid hB4
          clear hqx hrow hdx hbx hxx hrn hB4 f4
          go_wp2_with (at_builtin; refine wpList_append_own _ rfl _ _ 22 rfl w.heap.size 47 i7 _ 6 96 Tryd.underlying22 hi7 hz70 hz71 hz72 rfl (by decide) _ i _ rfl (by have h := World.ownsRow.alloc HI4.out.row (.cells #[.int .i64 x.kind, .string (strOf x.path), .string (strOf x.target), .int .i64 x.size, .slice ea4 x.runs.length ec4, .slice ea x.data.length ec] 47); rw [hti] at h; exact h) ⟨wr.heap.size, 0, none⟩ 1 1 [.int .i64 x.kind, .string (strOf x.path), .string (strOf x.target), .int .i64 x.size, .slice ea4 x.runs.length ec4, .slice ea x.data.length ec] rfl rfl (new_cells _ _ _ _ rfl) (six_cell rfl rfl rfl rfl rfl rfl) (by unfold maxLen; omega) (by omega) (le_alloc hB _) ?_)
          intro v10 w10 h10 hg10 _
          have HI10 : Hid (ItemsO w10 w.heap.size v10 (L.take (i + 1)) (ds ++ [(.slice ea4 x.runs.length ec4, .slice ea x.data.length ec)])) := by
            rw [HTK.out]
            refine Lib.hid (ItemsO.push (w := wr.alloc (.cells #[.int .i64 x.kind, .string (strOf x.path), .string (strOf x.target), .int .i64 x.size, .slice ea4 x.runs.length ec4, .slice ea x.data.length ec] 47)) (v := .slice va i vc) (HI4.out.below ((Below.refl _ _).alloc (Nat.le_refl _) _)) ⟨World.ownsRow.mono (World.ownsRow.alloc HROW.out _) hqw, World.ownsRow.mono (World.ownsRow.alloc HDX.out _) hqw⟩ hg10 ?_)
            rw [hti]; exact h10
          have HB10 := Lib.hid ((HB4.out.alloc hB (.cells #[.int .i64 x.kind, .string (strOf x.path), .string (strOf x.target), .int .i64 x.size, .slice ea4 x.runs.length ec4, .slice ea x.data.length ec] 47)).grown hg10 (le_alloc hB _) (fun k hk => (row_blk (World.ownsRow.alloc HI4.out.row (.cells #[.int .i64 x.kind, .string (strOf x.path), .string (strOf x.target), .int .i64 x.size, .slice ea4 x.runs.length ec4, .slice ea x.data.length ec] 47)) hk).1))
          clear h10 hg10
          go_wp2
          go_roundg (L.length - (i + 1))
          case rel => exact ⟨i + 1, _, by omega, rfl, by go_num, HI10.out, HB10.out⟩
          case measure => omega
    · obtain rfl : i = L.length := by omega
      rw [List.take_length] at HIO
      go_wp2
      go_ret
      exact ⟨_, rfl, ⟨ds, HIO.out⟩, HBW.out⟩
end Go.Proofs.YtenpihkfghfpaaaDoor
