/- The reference's packed: an item's bytes behind others. -/
import Derived.Test.YtenpihkfghfpaaaDoorDNum
namespace Go.Proofs.YtenpihkfghfpaaaDoor
open Go.RowKit Vl
set_option linter.unusedVariables false

theorem packRuns_snoc (rs : List (Int × Int)) (r : Int × Int) : packRuns (rs ++ [r]) = packRuns rs ++ leB r.1.toNat 4 ++ leB r.2.toNat 4 := by
  unfold packRuns; rw [List.flatMap_append]; simp
theorem packRuns_len (rs : List (Int × Int)) : (packRuns rs).length = 8 * rs.length := by
  induction rs with
  | nil => rfl
  | cons r rs ih =>
    obtain ⟨f, t⟩ := r
    rw [packRuns_cons, List.length_append, List.length_append, leB_length, leB_length, ih, List.length_cons]; omega
theorem row_box {w wr : World} {c0 c1 c2 c3 c4 c5 v v0 : Value} (h : Row (w.alloc (.cells #[c0, c1, c2, c3, c4, c5] 47)) wr v v0) (hv : ∀ k, v.ownBlock = some k → k < w.heap.size) :
    wr.cell? ⟨w.heap.size, 0, none⟩ = some c0 ∧ wr.cell? ⟨w.heap.size, 1, none⟩ = some c1 ∧ wr.cell? ⟨w.heap.size, 2, none⟩ = some c2 ∧ wr.cell? ⟨w.heap.size, 3, none⟩ = some c3 ∧ wr.cell? ⟨w.heap.size, 4, none⟩ = some c4 ∧ wr.cell? ⟨w.heap.size, 5, none⟩ = some c5 := by
  have hl : w.heap.size < (w.alloc (.cells #[c0, c1, c2, c3, c4, c5] 47)).heap.size := by rw [size_alloc]; omega
  have hne : v.ownBlock ≠ some w.heap.size := fun e => by have := hv _ e; omega
  have hb := cell_whole (heap_alloc_new w (.cells #[c0, c1, c2, c3, c4, c5] 47))
  exact ⟨(h.cell (a := ⟨w.heap.size, 0, none⟩) hl hne).trans (hb 0), (h.cell (a := ⟨w.heap.size, 1, none⟩) hl hne).trans (hb 1), (h.cell (a := ⟨w.heap.size, 2, none⟩) hl hne).trans (hb 2),
    (h.cell (a := ⟨w.heap.size, 3, none⟩) hl hne).trans (hb 3), (h.cell (a := ⟨w.heap.size, 4, none⟩) hl hne).trans (hb 4), (h.cell (a := ⟨w.heap.size, 5, none⟩) hl hne).trans (hb 5)⟩

set_option maxRecDepth 100000 in
set_option maxHeartbeats 4000000 in
theorem packed_walk (W0 w : World) (B : Nat) (v val : Value) (l : List UInt8) (x : Itm) (ra da : Option Addr) (rc dc : Nat) (hit : ItemV W0 x val ra rc da dc) (hf : FitItm x)
    (hW : Below W0.heap.size W0 w) (h0 : W0.heap.size ≤ B) (hB : B ≤ w.heap.size) (ho : Own w B 5 v l.length (bcells l)) (hl : l.length + (packItm x).length ≤ 900000000) :
    Calls Tryd.prog 22 #[v, val] w fun e w' => ∃ v', e = .returned v' ∧ Own w' B 5 v' (l ++ packItm x).length (bcells (l ++ packItm x)) ∧ Row w w' v v' := by
  obtain ⟨i0, hi, hz0, hz1, hz2⟩ := info_parts info5
  obtain ⟨rfl, hr, hd⟩ := hit
  have HR := Lib.hid hr
  have HD := Lib.hid hd
  have HF := Lib.hid hf
  have HO := Lib.hid ho
  have HW := Lib.hid hW
  have hpb : x.path.length ≤ 1023 := hf.path
  have htb : x.target.length ≤ 1023 := hf.target
  have HBOX := Lib.hid (fun (wr : World) (v0 : Value) (h : Row (w.alloc (.cells #[.int .i64 x.kind, .string (strOf x.path), .string (strOf x.target), .int .i64 x.size, .slice ra x.runs.length rc, .slice da x.data.length dc] 47)) wr v v0) => row_box h (fun k hk => (ho.block hk).2.1))
  have HO1 := Lib.hid (ho.alloc (.cells #[.int .i64 x.kind, .string (strOf x.path), .string (strOf x.target), .int .i64 x.size, .slice ra x.runs.length rc, .slice da x.data.length dc] 47))
  have HW1 := Lib.hid (show Row w (w.alloc (.cells #[.int .i64 x.kind, .string (strOf x.path), .string (strOf x.target), .int .i64 x.size, .slice ra x.runs.length rc, .slice da x.data.length dc] 47)) v v from (Row.refl _ _).call ((Below.refl _ _).alloc (Nat.le_refl _) _))
  have hB1 : B ≤ (w.alloc (.cells #[.int .i64 x.kind, .string (strOf x.path), .string (strOf x.target), .int .i64 x.size, .slice ra x.runs.length rc, .slice da x.data.length dc] 47)).heap.size := le_alloc hB _
  have hll : l.length ≤ 900000000 := by omega
  have hkz : ∃ kz : Nat, x.kind = (kz : Int) ∧ kz < 256 ∧ x.kind.toNat = kz := by
    rcases hf.kind with h | h | h | h
    · exact ⟨1, h, by omega, by omega⟩
    · exact ⟨2, h, by omega, by omega⟩
    · exact ⟨3, h, by omega, by omega⟩
    · exact ⟨4, h, by omega, by omega⟩
  obtain ⟨kz, hk1, hk2, hk3⟩ := hkz
  have HVB := Lib.hid (show ∀ k, v.ownBlock = some k → B ≤ k from fun k hk => (ho.block hk).1)
  have HK1 := Lib.hid hk1
  have HK3 := Lib.hid hk3
  clear hr hd hf ho hW hk1 hk3
  go_enter Tryd.func22, Tryd.ntmps22
  go_wp2_with (at_builtin; refine wpList_append_own_at _ rfl _ _ 24 rfl B 5 i0 (.int .u8 0) 1 1 Tryd.underlying24 hi hz0 hz1 hz2 rfl (by decide) _ l.length _ rfl (HO1.out.alloc _) ⟨w.heap.size + 1, 0, none⟩ 1 1 [_] rfl rfl (new_one _ _ _ _ (by rw [size_alloc])) (one_cell rfl) (by unfold maxLen; omega) (by omega) (le_alloc hB1 _) ?_)
  intro v1 w2 h1 hg1 _ hs1
  have HOa : Hid (Own w2 B 5 v1 (l ++ [UInt8.ofNat kz]).length (bcells (l ++ [UInt8.ofNat kz]))) := Lib.hid (by
    rw [List.length_append, bcells_append, bcells_one, show ((UInt8.ofNat kz).toNat : Int) = x.kind % 256 by rw [HK1.out, UInt8.toNat_ofNat']; omega]
    exact h1)
  have HRa := Lib.hid (HW1.out.trans (Row.step hg1 (by rw [size_alloc, size_alloc]; exact hs1)))
  have HRb := Lib.hid (Row.step hg1 (by rw [size_alloc, size_alloc]; exact hs1))
  clear h1 hg1 hs1 HO1
  generalize w.alloc (.cells #[.int .i64 x.kind, .string (strOf x.path), .string (strOf x.target), .int .i64 x.size, .slice ra x.runs.length rc, .slice da x.data.length dc] 47) = w1 at *
  obtain ⟨f0, f1, f2, f3, f4, f5⟩ := HBOX.out w2 v1 HRb.out
  have hBa : B ≤ w2.heap.size := Nat.le_trans hB1 HRb.out.size
  have hnum := number_walk B v1 _ x.path.length 2 w2 (by omega) (by omega) HOa.out hBa (by rw [List.length_append]; simp only [List.length_cons, List.length_nil]; omega)
  rw [show ((2 : Nat) : Int) = 2 from rfl] at hnum
  have HNUM := Lib.hid hnum
  clear hnum
  go_wp2_with fail
  refine HNUM.out.mono ?_
  rintro e w3 ⟨v2, rfl, ho2, hr2⟩
  have HOb := Lib.hid ho2
  have HRc := Lib.hid (HRb.out.trans hr2)
  clear ho2 hr2 HNUM f0 f1 f2 f3 f4 f5
  have hm2l : (l ++ [UInt8.ofNat kz] ++ leB x.path.length 2).length ≤ 900000003 := by rw [List.length_append, List.length_append, leB_length]; simp only [List.length_cons, List.length_nil]; omega
  generalize hm2 : l ++ [UInt8.ofNat kz] ++ leB x.path.length 2 = m2 at *
  have HM2 := Lib.hid hm2
  clear hm2
  obtain ⟨f0, f1, f2, f3, f4, f5⟩ := HBOX.out w3 v2 HRc.out
  have hxs : (strOf x.path).size = x.path.length := strOf_size _
  go_wp2
  go_loopw [0, 5] (fun v0 v5 wr => ∃ k : Nat, k ≤ x.path.length ∧ v5 = .int .i64 k ∧ Own wr B 5 v0 (m2 ++ x.path.take k).length (bcells (m2 ++ x.path.take k)) ∧ Row w1 wr v v0) (fun _ v5 _ => x.path.length - (intOf v5).toNat)
  case atStart => exact ⟨0, by omega, rfl, by simpa using HOb.out, HRc.out⟩
  case round =>
    obtain ⟨k, hk, rfl, ho, hr⟩ := hrel
    have HOk := Lib.hid ho
    have HRk := Lib.hid hr
    clear ho hr
    clear f0 f1 f2 f3 f4 f5
    obtain ⟨f0, f1, f2, f3, f4, f5⟩ := HBOX.out wr _ HRk.out
    have hBk : B ≤ wr.heap.size := Nat.le_trans hB1 HRk.out.size
    by_cases hlt : k < x.path.length
    · have hlt2 : k < (strOf x.path).size := by rw [hxs]; exact hlt
      have HTK := Lib.hid (List.take_succ_eq_append_getElem hlt)
      have HIX := Lib.hid (show (strOf x.path)[k]'hlt2 = x.path[k]'hlt from rfl)
      have hml : (m2 ++ x.path.take k).length ≤ 900002000 := by rw [List.length_append, List.length_take]; omega
      have hxs2 : (strOf x.path).size ≤ 1023 := by omega
      generalize hq : m2 ++ x.path.take k = q at *
      have HQ := Lib.hid hq
      clear hq
      clear hxs
      generalize strOf x.path = sp at *
      go_wp2_with (at_builtin; refine wpList_append_own_at _ rfl _ _ 24 rfl B 5 i0 (.int .u8 0) 1 1 Tryd.underlying24 hi hz0 hz1 hz2 rfl (by decide) _ q.length _ rfl (HOk.out.alloc _) ⟨wr.heap.size, 0, none⟩ 1 1 [_] rfl rfl (new_one _ _ _ _ rfl) (one_cell rfl) (by unfold maxLen; omega) (by omega) (le_alloc hBk _) ?_)
      intro v3 w4 h3 hg3 _ hs3
      have e2 : m2 ++ x.path.take (k + 1) = q ++ [x.path[k]] := by rw [HTK.out, ← List.append_assoc, HQ.out]
      have HO3 : Hid (Own w4 B 5 v3 (m2 ++ x.path.take (k + 1)).length (bcells (m2 ++ x.path.take (k + 1)))) := Lib.hid (by
        rw [e2, List.length_append, bcells_append, bcells_one]
        rw [← HIX.out]
        exact h3)
      have HR3 := Lib.hid (HRk.out.trans (Row.step hg3 (by rw [size_alloc]; exact hs3)))
      clear h3 hg3 hs3 e2
      go_wp2
      go_roundw
      case rel => exact ⟨k + 1, by omega, by go_num, HO3.out, HR3.out⟩
      case measure => simp [intOf]; omega
    · obtain rfl : k = x.path.length := by omega
      rw [List.take_length] at HOk
      have hm3l : (m2 ++ x.path).length ≤ 900002000 := by rw [List.length_append]; omega
      have HM3 := Lib.hid (show m2 ++ x.path = l ++ (UInt8.ofNat kz :: (leB x.path.length 2 ++ x.path)) by rw [← HM2.out]; simp)
      clear hlt hk hm2l
      generalize m2 ++ x.path = m3 at *
      clear hxs
      by_cases k1 : x.kind = 1
      · obtain ⟨htg, hfb⟩ := HF.out.file k1
        obtain ⟨q1, q2, q3, q4, q5, q6, q7⟩ := fileB_facts hfb
        have HRS := Lib.hid q3
        have hdl : x.data.length ≤ 8459776 := by omega
        have d1 : (x.kind == 1) = true := by rw [k1]; rfl
        have d2 : (x.kind == 3) = false := by rw [k1]; rfl
        have d3 : (x.kind == 4) = false := by rw [k1]; rfl
        have HPK := Lib.hid (show l ++ packItm x = m3 ++ leB x.size.toNat 8 ++ leB x.runs.length 4 ++ packRuns x.runs ++ x.data by
          unfold packItm
          rw [if_pos k1, if_neg (by omega), HK3.out, HM3.out]
          simp)
        have hnum := number_walk B _ m3 x.size.toNat 8 wr (by omega) (by omega) HOk.out hBk (by omega)
        rw [show ((8 : Nat) : Int) = 8 from rfl, show ((x.size.toNat : Nat) : Int) = x.size by omega] at hnum
        have HNUM := Lib.hid hnum
        clear hnum q3 q5 q6 q7 htg hfb k1
        go_wp2_with fail
        refine HNUM.out.mono ?_
        rintro e w5 ⟨v4, rfl, ho4, hr4⟩
        have HO4 := Lib.hid ho4
        have HR4 := Lib.hid (HRk.out.trans hr4)
        clear ho4 hr4 HNUM f0 f1 f2 f3 f4 f5
        obtain ⟨f0, f1, f2, f3, f4, f5⟩ := HBOX.out w5 v4 HR4.out
        have hm4l : (m3 ++ leB x.size.toNat 8).length ≤ 900002008 := by rw [List.length_append, leB_length]; omega
        generalize m3 ++ leB x.size.toNat 8 = m4 at *
        have hB4 : B ≤ w5.heap.size := Nat.le_trans hB1 HR4.out.size
        have hnum := number_walk B _ m4 x.runs.length 4 w5 (by omega) (by omega) HO4.out hB4 (by omega)
        rw [show ((4 : Nat) : Int) = 4 from rfl] at hnum
        have HNUM := Lib.hid hnum
        clear hnum
        go_wp2_with fail
        refine HNUM.out.mono ?_
        rintro e w6 ⟨v5, rfl, ho5, hr5⟩
        have HO5 := Lib.hid ho5
        have HR5 := Lib.hid (HR4.out.trans hr5)
        clear ho5 hr5 HNUM f0 f1 f2 f3 f4 f5
        obtain ⟨f0, f1, f2, f3, f4, f5⟩ := HBOX.out w6 v5 HR5.out
        have hm5l : (m4 ++ leB x.runs.length 4).length ≤ 900002012 := by rw [List.length_append, leB_length]; omega
        generalize m4 ++ leB x.runs.length 4 = m5 at *
        have HBW0 := Lib.hid (show ∀ (wr : World) (v0 : Value), Row w1 wr v v0 → Below W0.heap.size W0 wr from fun wr v0 h => HW.out.trans (((HW1.out.trans h).below hB HVB.out).mono h0))
        go_wp2
        go_loopw [0, 6] (fun v0 v6 wr => ∃ k : Nat, k ≤ x.runs.length ∧ v6 = .int .i64 k ∧ Own wr B 5 v0 (m5 ++ packRuns (x.runs.take k)).length (bcells (m5 ++ packRuns (x.runs.take k))) ∧ Row w1 wr v v0) (fun _ v6 _ => x.runs.length - (intOf v6).toNat)
        case atStart => exact ⟨0, by omega, rfl, by simpa [packRuns] using HO5.out, HR5.out⟩
        case round =>
          obtain ⟨k, hk, rfl, ho, hr⟩ := hrel
          have HO6 := Lib.hid ho
          have HR6 := Lib.hid hr
          clear ho hr
          clear f0 f1 f2 f3 f4 f5
          obtain ⟨f0, f1, f2, f3, f4, f5⟩ := HBOX.out wr _ HR6.out
          have hB6 : B ≤ wr.heap.size := Nat.le_trans hB1 HR6.out.size
          by_cases hlt : k < x.runs.length
          · obtain ⟨g, off, rfl, hg, hc1, hc2⟩ := (HR.out.below (HBW0.out wr _ HR6.out)) k hlt
            have HTK := Lib.hid (List.take_succ_eq_append_getElem hlt)
            obtain ⟨r1, r2, r3⟩ := HRS.out x.runs[k] (List.getElem_mem hlt)
            have HSNO := Lib.hid (packRuns_snoc (x.runs.take k) x.runs[k])
            have hml : (m5 ++ packRuns (x.runs.take k)).length ≤ 900150000 := by rw [List.length_append, packRuns_len, List.length_take]; omega
            generalize hff : x.runs[k].1 = ff at *
            generalize htt : x.runs[k].2 = tt at *
            generalize hq : m5 ++ packRuns (x.runs.take k) = q at *
            have HQ := Lib.hid hq
            have HTT := Lib.hid htt
            clear hff htt hq
            have hnum := number_walk B _ q ff.toNat 4 wr (by omega) (by omega) HO6.out hB6 (by omega)
            rw [show ((4 : Nat) : Int) = 4 from rfl, show ((ff.toNat : Nat) : Int) = ff by omega] at hnum
            have HNUM := Lib.hid hnum
            clear hnum
            go_wp2_with fail
            refine HNUM.out.mono ?_
            rintro e w7 ⟨v7, rfl, ho7, hr7⟩
            have HO7 := Lib.hid ho7
            have HR7 := Lib.hid (HR6.out.trans hr7)
            clear ho7 hr7 HNUM f0 f1 f2 f3 f4 f5 hc1 hc2
            obtain ⟨f0, f1, f2, f3, f4, f5⟩ := HBOX.out w7 v7 HR7.out
            obtain ⟨g', off', eg, hg', hc1', hc2⟩ := (HR.out.below (HBW0.out w7 _ HR7.out)) k hlt
            cases eg
            have hB7 : B ≤ w7.heap.size := Nat.le_trans hB1 HR7.out.size
            have hm7l : (q ++ leB ff.toNat 4).length ≤ 900150004 := by rw [List.length_append, leB_length]; omega
            rw [HTT.out] at hc2
            clear hc1'
            have hnum := number_walk B _ (q ++ leB ff.toNat 4) tt.toNat 4 w7 (by omega) (by omega) HO7.out hB7 (by omega)
            rw [show ((4 : Nat) : Int) = 4 from rfl, show ((tt.toNat : Nat) : Int) = tt by omega] at hnum
            have HNUM := Lib.hid hnum
            clear hnum
            go_wp2_with fail
            refine HNUM.out.mono ?_
            rintro e w8 ⟨v8, rfl, ho8, hr8⟩
            have e8 : q ++ leB ff.toNat 4 ++ leB tt.toNat 4 = m5 ++ packRuns (x.runs.take (k + 1)) := by
              rw [HTK.out, HSNO.out, ← HQ.out]
              simp
            rw [e8] at ho8
            have HO8 := Lib.hid ho8
            have HR8 := Lib.hid (HR7.out.trans hr8)
            clear ho8 hr8 HNUM e8 hm7l
            go_wp2
            go_roundw
            case rel => exact ⟨k + 1, by omega, by go_num, HO8.out, HR8.out⟩
            case measure => simp [intOf]; omega
          · obtain rfl : k = x.runs.length := by omega
            rw [List.take_length] at HO6
            have hm6l : (m5 ++ packRuns x.runs).length ≤ 900200000 := by rw [List.length_append, packRuns_len]; omega
            clear hlt hk
            generalize m5 ++ packRuns x.runs = m6 at *
            go_wp2
            go_loopw [0, 7] (fun v0 v7 wr => ∃ k : Nat, k ≤ x.data.length ∧ v7 = .int .i64 k ∧ Own wr B 5 v0 (m6 ++ x.data.take k).length (bcells (m6 ++ x.data.take k)) ∧ Row w1 wr v v0) (fun _ v7 _ => x.data.length - (intOf v7).toNat)
            case atStart => exact ⟨0, by omega, rfl, by simpa using HO6.out, HR6.out⟩
            case round =>
              obtain ⟨k, hk, rfl, ho, hr⟩ := hrel
              have HOd := Lib.hid ho
              have HRd := Lib.hid hr
              clear ho hr
              clear f0 f1 f2 f3 f4 f5
              obtain ⟨f0, f1, f2, f3, f4, f5⟩ := HBOX.out wr _ HRd.out
              have hBd : B ≤ wr.heap.size := Nat.le_trans hB1 HRd.out.size
              by_cases hlt : k < x.data.length
              · obtain ⟨g, off, rfl, hg, hc1⟩ := (HD.out.below (HBW0.out wr _ HRd.out)) k hlt
                have HTK := Lib.hid (List.take_succ_eq_append_getElem hlt)
                have hml : (m6 ++ x.data.take k).length ≤ 909000000 := by rw [List.length_append, List.length_take]; omega
                generalize hq : m6 ++ x.data.take k = q at *
                have HQ := Lib.hid hq
                clear hq
                generalize x.data[k] = by_ at *
                go_wp2_with (at_builtin; refine wpList_append_own_at _ rfl _ _ 24 rfl B 5 i0 (.int .u8 0) 1 1 Tryd.underlying24 hi hz0 hz1 hz2 rfl (by decide) _ q.length _ rfl (HOd.out.alloc _) ⟨wr.heap.size, 0, none⟩ 1 1 [_] rfl rfl (new_one _ _ _ _ rfl) (one_cell rfl) (by unfold maxLen; omega) (by omega) (le_alloc hBd _) ?_)
                intro v3 w4 h3 hg3 _ hs3
                have e2 : m6 ++ x.data.take (k + 1) = q ++ [by_] := by rw [HTK.out, ← List.append_assoc, HQ.out]
                have HO3 : Hid (Own w4 B 5 v3 (m6 ++ x.data.take (k + 1)).length (bcells (m6 ++ x.data.take (k + 1)))) := Lib.hid (by
                  rw [e2, List.length_append, bcells_append, bcells_one]
                  exact h3)
                have HR3 := Lib.hid (HRd.out.trans (Row.step hg3 (by rw [size_alloc]; exact hs3)))
                clear h3 hg3 hs3 e2
                go_wp2
                go_roundw
                case rel => exact ⟨k + 1, by omega, by go_num, HO3.out, HR3.out⟩
                case measure => simp [intOf]; omega
              · obtain rfl : k = x.data.length := by omega
                rw [List.take_length] at HOd
                have HFIN : Hid (Own wr B 5 _ (l ++ packItm x).length (bcells (l ++ packItm x))) := Lib.hid (by rw [HPK.out]; exact HOd.out)
                have HRF := Lib.hid ((show Row w w1 v v from HW1.out).trans HRd.out)
                go_wp2
                go_ret
                exact ⟨_, rfl, HFIN.out, HRF.out⟩
      · have d1 : (x.kind == 1) = false := by rw [beq_eq_false_iff_ne]; exact k1
        have HK1n := Lib.hid k1
        clear k1
        by_cases k34 : x.kind = 3 ∨ x.kind = 4
        · have HPK := Lib.hid (show l ++ packItm x = m3 ++ leB x.target.length 2 ++ x.target by
            unfold packItm
            rw [if_neg HK1n.out, if_pos k34, HK3.out, HM3.out]
            simp)
          have dd : (x.kind == 3) = true ∨ ((x.kind == 3) = false ∧ (x.kind == 4) = true) := by
            rcases k34 with h | h
            · exact .inl (by rw [h]; rfl)
            · exact .inr ⟨by rw [h]; rfl, by rw [h]; rfl⟩
          have hnum := number_walk B _ m3 x.target.length 2 wr (by omega) (by omega) HOk.out hBk (by omega)
          rw [show ((2 : Nat) : Int) = 2 from rfl] at hnum
          have HNUM := Lib.hid hnum
          have hts : (strOf x.target).size = x.target.length := strOf_size _
          clear hnum k34
          rcases dd with dd | ⟨dd, dd2⟩
          all_goals
            go_wp2_with fail
            refine HNUM.out.mono ?_
            rintro e w5 ⟨v4, rfl, ho4, hr4⟩
            have HOb2 := Lib.hid ho4
            have HRc2 := Lib.hid (HRk.out.trans hr4)
            clear ho4 hr4 HNUM f0 f1 f2 f3 f4 f5
            obtain ⟨f0, f1, f2, f3, f4, f5⟩ := HBOX.out w5 v4 HRc2.out
            have hm4l : (m3 ++ leB x.target.length 2).length ≤ 900002002 := by rw [List.length_append, leB_length]; omega
            generalize m3 ++ leB x.target.length 2 = m4 at *
            go_wp2
            go_loopw [0, 8] (fun v0 v8 wr => ∃ k : Nat, k ≤ x.target.length ∧ v8 = .int .i64 k ∧ Own wr B 5 v0 (m4 ++ x.target.take k).length (bcells (m4 ++ x.target.take k)) ∧ Row w1 wr v v0) (fun _ v8 _ => x.target.length - (intOf v8).toNat)
            case atStart => exact ⟨0, by omega, rfl, by simpa using HOb2.out, HRc2.out⟩
            case round =>
              obtain ⟨k, hk, rfl, ho, hr⟩ := hrel
              have HOk2 := Lib.hid ho
              have HRk2 := Lib.hid hr
              clear ho hr
              clear f0 f1 f2 f3 f4 f5
              obtain ⟨f0, f1, f2, f3, f4, f5⟩ := HBOX.out wr _ HRk2.out
              have hBk2 : B ≤ wr.heap.size := Nat.le_trans hB1 HRk2.out.size
              by_cases hlt : k < x.target.length
              · have hlt2 : k < (strOf x.target).size := by rw [hts]; exact hlt
                have HTK := Lib.hid (List.take_succ_eq_append_getElem hlt)
                have HIX := Lib.hid (show (strOf x.target)[k]'hlt2 = x.target[k]'hlt from rfl)
                have hml : (m4 ++ x.target.take k).length ≤ 900004000 := by rw [List.length_append, List.length_take]; omega
                have hts2 : (strOf x.target).size ≤ 1023 := by omega
                generalize hq : m4 ++ x.target.take k = q at *
                have HQ := Lib.hid hq
                clear hq
                clear hts
                generalize strOf x.target = sp at *
                go_wp2_with (at_builtin; refine wpList_append_own_at _ rfl _ _ 24 rfl B 5 i0 (.int .u8 0) 1 1 Tryd.underlying24 hi hz0 hz1 hz2 rfl (by decide) _ q.length _ rfl (HOk2.out.alloc _) ⟨wr.heap.size, 0, none⟩ 1 1 [_] rfl rfl (new_one _ _ _ _ rfl) (one_cell rfl) (by unfold maxLen; omega) (by omega) (le_alloc hBk2 _) ?_)
                intro v3 w4 h3 hg3 _ hs3
                have e2 : m4 ++ x.target.take (k + 1) = q ++ [x.target[k]] := by rw [HTK.out, ← List.append_assoc, HQ.out]
                have HO3 : Hid (Own w4 B 5 v3 (m4 ++ x.target.take (k + 1)).length (bcells (m4 ++ x.target.take (k + 1)))) := Lib.hid (by
                  rw [e2, List.length_append, bcells_append, bcells_one]
                  rw [← HIX.out]
                  exact h3)
                have HR3 := Lib.hid (HRk2.out.trans (Row.step hg3 (by rw [size_alloc]; exact hs3)))
                clear h3 hg3 hs3 e2
                go_wp2
                go_roundw
                case rel => exact ⟨k + 1, by omega, by go_num, HO3.out, HR3.out⟩
                case measure => simp [intOf]; omega
              · obtain rfl : k = x.target.length := by omega
                rw [List.take_length] at HOk2
                have HFIN : Hid (Own wr B 5 _ (l ++ packItm x).length (bcells (l ++ packItm x))) := Lib.hid (by rw [HPK.out]; exact HOk2.out)
                have HRF := Lib.hid ((show Row w w1 v v from HW1.out).trans HRk2.out)
                clear hts
                go_wp2
                go_ret
                exact ⟨_, rfl, HFIN.out, HRF.out⟩
        · have d2 : (x.kind == 3) = false := by rw [beq_eq_false_iff_ne]; exact fun e => k34 (.inl e)
          have d3 : (x.kind == 4) = false := by rw [beq_eq_false_iff_ne]; exact fun e => k34 (.inr e)
          have HPK := Lib.hid (show l ++ packItm x = m3 by
            unfold packItm
            rw [if_neg HK1n.out, if_neg k34, HK3.out, HM3.out]
            simp)
          have HFIN : Hid (Own wr B 5 _ (l ++ packItm x).length (bcells (l ++ packItm x))) := Lib.hid (by rw [HPK.out]; exact HOk.out)
          have HRF := Lib.hid ((show Row w w1 v v from HW1.out).trans HRk.out)
          clear k34
          go_wp2
          go_ret
          exact ⟨_, rfl, HFIN.out, HRF.out⟩
end Go.Proofs.YtenpihkfghfpaaaDoor
