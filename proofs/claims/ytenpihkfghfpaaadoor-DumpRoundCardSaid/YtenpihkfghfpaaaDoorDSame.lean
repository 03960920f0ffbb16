/- The law's sameItem, sameItems. -/
import Derived.Test.YtenpihkfghfpaaaDoorDListR
namespace Go.Proofs.YtenpihkfghfpaaaDoor
open Go.RowKit Vl Go.Maps
set_option linter.unusedVariables false

theorem str_ne {x y : List UInt8} (h : x ≠ y) : ((strOf x).toList == (strOf y).toList) = false := by rw [str_cmp, decide_eq_false h]
theorem str_eq (x : List UInt8) : ((strOf x).toList == (strOf x).toList) = true := by rw [str_cmp, decide_eq_true rfl]

set_option maxRecDepth 100000 in
set_option maxHeartbeats 4000000 in
theorem sameItem_walk (x y : Itm) (ra da ra2 da2 : Option Addr) (rc dc rc2 dc2 : Nat) (vx vy : Value) (w : World) (hx : ItemV w x vx ra rc da dc) (hy : ItemV w y vy ra2 rc2 da2 dc2) (sx : SizeItm x) (sy : SizeItm y) :
    Calls Tryd.prog 25 #[vx, vy] w fun e w' => e = .returned (.bool (decide (x = y))) ∧ Below w.heap.size w w' := by
  obtain ⟨rfl, hr, hd⟩ := hx
  obtain ⟨rfl, hr2, hd2⟩ := hy
  obtain ⟨p, hp⟩ : ∃ p, p = w.heap.size := ⟨_, rfl⟩
  have h1 := heap_alloc_new w (.cells #[.int .i64 x.kind, .string (strOf x.path), .string (strOf x.target), .int .i64 x.size, .slice ra x.runs.length rc, .slice da x.data.length dc] 47)
  have h2 := heap_alloc_new (w.alloc (.cells #[.int .i64 x.kind, .string (strOf x.path), .string (strOf x.target), .int .i64 x.size, .slice ra x.runs.length rc, .slice da x.data.length dc] 47)) (.cells #[.int .i64 y.kind, .string (strOf y.path), .string (strOf y.target), .int .i64 y.size, .slice ra2 y.runs.length rc2, .slice da2 y.data.length dc2] 47)
  rw [size_alloc] at h2
  have HX1 := Lib.hid (alloc_whole (o' := .cells #[.int .i64 y.kind, .string (strOf y.path), .string (strOf y.target), .int .i64 y.size, .slice ra2 y.runs.length rc2, .slice da2 y.data.length dc2] 47) h1)
  have HX2 := Lib.hid h2
  have HBW : Hid (Below w.heap.size w ((w.alloc (.cells #[.int .i64 x.kind, .string (strOf x.path), .string (strOf x.target), .int .i64 x.size, .slice ra x.runs.length rc, .slice da x.data.length dc] 47)).alloc (.cells #[.int .i64 y.kind, .string (strOf y.path), .string (strOf y.target), .int .i64 y.size, .slice ra2 y.runs.length rc2, .slice da2 y.data.length dc2] 47))) :=
    Lib.hid (((Below.refl _ w).alloc (Nat.le_refl _) _).alloc (le_alloc (Nat.le_refl _) _) _)
  have HR := Lib.hid (hr.below HBW.out)
  have HD := Lib.hid (hd.below HBW.out)
  have HR2 := Lib.hid (hr2.below HBW.out)
  have HD2 := Lib.hid (hd2.below HBW.out)
  have HNE := Lib.hid (fun (h : x ≠ y) => (decide_eq_false h : decide (x = y) = false))
  clear h1 h2 hr hd hr2 hd2
  go_enter Tryd.func25, Tryd.ntmps25
  go_upto_region 1 with fail
  rw [← hp] at HX1 HX2 ⊢
  generalize ((w.alloc (.cells #[.int .i64 x.kind, .string (strOf x.path), .string (strOf x.target), .int .i64 x.size, .slice ra x.runs.length rc, .slice da x.data.length dc] 47)).alloc (.cells #[.int .i64 y.kind, .string (strOf y.path), .string (strOf y.target), .int .i64 y.size, .slice ra2 y.runs.length rc2, .slice da2 y.data.length dc2] 47)) = w2 at *
  have HP := Lib.hid hp
  clear hp
  have a0 := cell_whole HX1.out 0
  have a1 := cell_whole HX1.out 1
  have a2 := cell_whole HX1.out 2
  have a3 := cell_whole HX1.out 3
  have a4 := cell_whole HX1.out 4
  have a5 := cell_whole HX1.out 5
  have b0 := cell_whole HX2.out 0
  have b1 := cell_whole HX2.out 1
  have b2 := cell_whole HX2.out 2
  have b3 := cell_whole HX2.out 3
  have b4 := cell_whole HX2.out 4
  have b5 := cell_whole HX2.out 5
  simp only [List.getElem?_toArray, List.getElem?_cons_succ, List.getElem?_cons_zero] at a0 a1 a2 a3 a4 a5 b0 b1 b2 b3 b4 b5
  by_cases e0 : x.kind = y.kind
  · have q0 : (x.kind != y.kind) = false := by rw [e0]; simp
    by_cases e1 : x.path = y.path
    · have q1 : ((strOf x.path).toList == (strOf y.path).toList) = true := by rw [e1]; exact str_eq _
      by_cases e2 : x.target = y.target
      · have q2 : ((strOf x.target).toList == (strOf y.target).toList) = true := by rw [e2]; exact str_eq _
        by_cases e3 : x.size = y.size
        · have q3 : (x.size != y.size) = false := by rw [e3]; simp
          by_cases e4 : x.runs.length = y.runs.length
          · have q4 : ((x.runs.length : Int) != (y.runs.length : Int)) = false := by rw [e4]; simp
            have HEQ := Lib.hid (show x.runs = y.runs → x.data = y.data → decide (x = y) = true from fun h1 h2 => decide_eq_true (by
              obtain ⟨k, p, t, s, r, d⟩ := x
              obtain ⟨k', p', t', s', r', d'⟩ := y
              simp only at e0 e1 e2 e3 h1 h2
              rw [e0, e1, e2, e3, h1, h2]))
            have HLE := Lib.hid e4
            have hrl : x.runs.length ≤ 8796093022202 := by have := sx.runs; omega
            clear e0 e1 e2 e3 e4
            go_wp2_with fail
            go_loopw [5] (fun v5 wr => ∃ i : Nat, i ≤ x.runs.length ∧ v5 = .int .i64 i ∧ (∀ j (h : j < x.runs.length) (h2 : j < y.runs.length), j < i → x.runs[j] = y.runs[j]) ∧ Below w2.heap.size w2 wr) (fun v5 _ => x.runs.length - (intOf v5).toNat)
            case atStart => exact ⟨0, Nat.zero_le _, rfl, fun j _ _ h => by omega, Below.refl _ _⟩
            case round =>
              obtain ⟨i, hi, rfl, hall, hbw⟩ := hrel
              have HALL := Lib.hid hall
              have HB2 := Lib.hid hbw
              have hX1 := (hbw.block p (lt_whole HX1.out)).trans HX1.out
              have hX2 := (hbw.block (p + 1) (lt_whole HX2.out)).trans HX2.out
              have a4 := cell_whole hX1 4
              have a5 := cell_whole hX1 5
              have b4 := cell_whole hX2 4
              have b5 := cell_whole hX2 5
              simp only [List.getElem?_toArray, List.getElem?_cons_succ, List.getElem?_cons_zero] at a4 a5 b4 b5
              clear hall hbw hX1 hX2
              by_cases hlt : i < x.runs.length
              · have hlt2 : i < y.runs.length := by rw [← HLE.out]; exact hlt
                obtain ⟨g, off, rfl, hg, k0, k1⟩ := (HR.out.below HB2.out) i hlt
                obtain ⟨g2, off2, rfl, hg2, m0, m1⟩ := (HR2.out.below HB2.out) i hlt2
                have HN2 := Lib.hid (show x.runs[i] ≠ y.runs[i] → decide (x = y) = false from fun h => HNE.out (fun e => h (by subst e; rfl)))
                have HNX := Lib.hid (show x.runs[i] = y.runs[i] → ∀ j (h : j < x.runs.length) (h2 : j < y.runs.length), j < i + 1 → x.runs[j] = y.runs[j] from fun h j h1 h2 h3 => by
                  by_cases hj : j < i
                  · exact HALL.out j h1 h2 hj
                  · obtain rfl : j = i := by omega
                    exact h)
                generalize x.runs[i] = u at *
                generalize y.runs[i] = v at *
                obtain ⟨u1, u2⟩ := u
                obtain ⟨v1, v2⟩ := v
                simp only at k0 k1 m0 m1
                by_cases z1 : u1 = v1
                · have t1 : (u1 != v1) = false := by rw [z1]; simp
                  by_cases z2 : u2 = v2
                  · have t2 : (u2 != v2) = false := by rw [z2]; simp
                    have HN3 := Lib.hid (HNX.out (by rw [z1, z2]))
                    clear z1 z2
                    go_wp2_with fail
                    refine wp_canon (by kernel_rfl) (by kernel_rfl) ?_
                    go_wp2
                    refine ⟨rfl, ?_⟩
                    go_wp2
                    go_roundw
                    case rel => exact ⟨i + 1, by omega, by go_num, HN3.out, HB2.out.drew⟩
                    case measure => simp [intOf]; omega
                  · have t2 : (u2 != v2) = true := by rw [bne_iff_ne]; exact z2
                    have HF := Lib.hid (HN2.out (by intro e; cases e; exact z2 rfl))
                    clear z1 z2
                    go_wp2_with fail
                    refine wp_canon (by kernel_rfl) (by kernel_rfl) ?_
                    go_wp2
                    refine ⟨rfl, ?_⟩
                    go_wp2
                    go_ret
                    exact ⟨by rw [HF.out]; rfl, HBW.out.trans ((HB2.out.drew).mono HBW.out.size)⟩
                · have t1 : (u1 != v1) = true := by rw [bne_iff_ne]; exact z1
                  have HF := Lib.hid (HN2.out (by intro e; cases e; exact z1 rfl))
                  clear z1
                  go_wp2_with fail
                  refine wp_canon (by kernel_rfl) (by kernel_rfl) ?_
                  go_wp2
                  refine ⟨rfl, ?_⟩
                  go_wp2
                  go_ret
                  exact ⟨by rw [HF.out]; rfl, HBW.out.trans ((HB2.out.drew).mono HBW.out.size)⟩
              · obtain rfl : i = x.runs.length := by omega
                have HRR := Lib.hid (show x.runs = y.runs from List.ext_getElem HLE.out (fun j h1 h2 => HALL.out j h1 h2 h1))
                have HN := Lib.hid (same_walk x.data y.data da da2 dc dc2 wr (HD.out.below HB2.out) (HD2.out.below HB2.out) (by have := sx.data; omega) (by have := sy.data; omega))
                go_wp2_with fail
                refine HN.out.mono ?_
                rintro e w3 ⟨rfl, hb3⟩
                have HB3 := Lib.hid (HBW.out.trans ((HB2.out.trans (hb3.mono HB2.out.size)).mono HBW.out.size))
                have HEND : Hid (decide (x.data = y.data) = decide (x = y)) := by
                  by_cases hd : x.data = y.data
                  · rw [HEQ.out HRR.out hd, decide_eq_true hd]; exact Lib.hid rfl
                  · rw [HNE.out (fun e => hd (by rw [e])), decide_eq_false hd]; exact Lib.hid rfl
                clear hb3 HN
                go_wp2
                go_ret
                exact ⟨by rw [← HEND.out]; rfl, HB3.out⟩
          · have q4 : ((x.runs.length : Int) != (y.runs.length : Int)) = true := by rw [bne_iff_ne]; omega
            have HF := Lib.hid (HNE.out (fun e => e4 (by rw [e])))
            clear e0 e1 e2 e3 e4
            go_wp2
            go_ret
            exact ⟨by rw [HF.out]; rfl, HBW.out⟩
        · have q3 : (x.size != y.size) = true := by rw [bne_iff_ne]; exact e3
          have HF := Lib.hid (HNE.out (fun e => e3 (by rw [e])))
          clear e0 e1 e2 e3
          go_wp2
          go_ret
          exact ⟨by rw [HF.out]; rfl, HBW.out⟩
      · have q2 : ((strOf x.target).toList == (strOf y.target).toList) = false := str_ne e2
        have HF := Lib.hid (HNE.out (fun e => e2 (by rw [e])))
        clear e0 e1 e2
        go_wp2
        go_ret
        exact ⟨by rw [HF.out]; rfl, HBW.out⟩
    · have q1 : ((strOf x.path).toList == (strOf y.path).toList) = false := str_ne e1
      have HF := Lib.hid (HNE.out (fun e => e1 (by rw [e])))
      clear e0 e1
      go_wp2
      go_ret
      exact ⟨by rw [HF.out]; rfl, HBW.out⟩
  · have q0 : (x.kind != y.kind) = true := by rw [bne_iff_ne]; exact e0
    have HF := Lib.hid (HNE.out (fun e => e0 (by rw [e])))
    clear e0
    go_wp2
    go_ret
    exact ⟨by rw [HF.out]; rfl, HBW.out⟩

theorem ItemAt.v {w : World} {a : Option Addr} {i : Nat} {x : Itm} {g off : Nat} {ra da : Option Addr} {rc dc : Nat} (h : ItemAt w a i x g off ra rc da dc) :
    ItemV w x (.agg #[.int .i64 x.kind, .string (strOf x.path), .string (strOf x.target), .int .i64 x.size, .slice ra x.runs.length rc, .slice da x.data.length dc]) ra rc da dc := ⟨rfl, h.runs, h.data⟩

set_option maxRecDepth 100000 in
set_option maxHeartbeats 4000000 in
theorem sameItems_walk (L M : List Itm) (a b : Option Addr) (c d : Nat) (w : World) (ha : ItemsAt w a L) (hb : ItemsAt w b M) (sl : SizeAll L) (sm : SizeAll M) :
    Calls Tryd.prog 11 #[.slice a L.length c, .slice b M.length d] w fun e w' => e = .returned (.bool (decide (L = M))) ∧ Below w.heap.size w w' := by
  have HA := Lib.hid ha
  have HB := Lib.hid hb
  have HSL := Lib.hid sl
  have HSM := Lib.hid sm
  have hLn := sl.1
  have hMn := sm.1
  clear ha hb sl sm
  by_cases e4 : L.length = M.length
  · have q4 : ((L.length : Int) != (M.length : Int)) = false := by rw [e4]; simp
    have HLE := Lib.hid e4
    have hML : M.length ≤ L.length := by omega
    clear e4
    go_enter Tryd.func11, Tryd.ntmps11
    go_wp2_with fail
    go_loopw [5] (fun v5 wr => ∃ i : Nat, i ≤ L.length ∧ v5 = .int .i64 i ∧ (∀ j (h : j < L.length) (h2 : j < M.length), j < i → L[j] = M[j]) ∧ Below w.heap.size w wr) (fun v5 _ => L.length - (intOf v5).toNat)
    case atStart => exact ⟨0, Nat.zero_le _, rfl, fun j _ _ h => by omega, Below.refl _ _⟩
    case round =>
      obtain ⟨i, hi, rfl, hall, hbw⟩ := hrel
      have HALL := Lib.hid hall
      have HB2 := Lib.hid hbw
      clear hall hbw
      by_cases hlt : i < L.length
      · have hlt2 : i < M.length := by rw [← HLE.out]; exact hlt
        obtain ⟨g, off, ra, rc, da, dc, hx⟩ := (HA.out.below HB2.out) i hlt
        obtain ⟨g2, off2, ra2, rc2, da2, dc2, hy⟩ := (HB.out.below HB2.out) i hlt2
        have HN := Lib.hid (show ∀ w', Below wr.heap.size wr w' → _ from fun w' hb => sameItem_walk L[i] M[i] ra da ra2 da2 rc dc rc2 dc2 _ _ w' ((hx.below hb).v) ((hy.below hb).v) (HSL.out.2 _ (List.getElem_mem hlt)) (HSM.out.2 _ (List.getElem_mem hlt2)))
        have hxa := hx.addr
        have hya := hy.addr
        have x0 := hx.c0
        have x1 := hx.c1
        have x2 := hx.c2
        have x3 := hx.c3
        have x4 := hx.c4
        have x5 := hx.c5
        have y0 := hy.c0
        have y1 := hy.c1
        have y2 := hy.c2
        have y3 := hy.c3
        have y4 := hy.c4
        have y5 := hy.c5
        subst hxa
        subst hya
        have HN2 := Lib.hid (show L[i] ≠ M[i] → decide (L = M) = false from fun h => decide_eq_false (fun e => h (by subst e; rfl)))
        have HNX := Lib.hid (show L[i] = M[i] → ∀ j (h : j < L.length) (h2 : j < M.length), j < i + 1 → L[j] = M[j] from fun h j h1 h2 h3 => by
          by_cases hj : j < i
          · exact HALL.out j h1 h2 hj
          · obtain rfl : j = i := by omega
            exact h)
        clear hx hy
        generalize L[i] = x at *
        generalize M[i] = y at *
        go_wp2_with fail
        refine wp_canon_call 8 [3, 7] [[0, 1, 2, 3, 4, 5, 6, 7, 8, 9]] (by kernel_rfl) (by kernel_rfl) (by kernel_rfl) ⟨?_, trivial⟩
        simp only [fm_cons, List.filterMap_nil, List.getElem?_toArray, List.getElem?_cons_zero, List.getElem?_cons_succ, Option.elim_some]
        go_wp2_with fail
        refine (HN.out _ ((Below.refl _ _).drew)).mono ?_
        rintro e w3 ⟨rfl, hb3⟩
        have HB3 := Lib.hid ((HB2.out.drew).trans (hb3.mono HB2.out.size))
        clear hb3
        by_cases hxy : x = y
        · rw [decide_eq_true hxy]
          have HN3 := Lib.hid (HNX.out hxy)
          clear hxy
          go_wp2
          refine ⟨rfl, ?_⟩
          go_wp2
          go_roundw
          case rel => exact ⟨i + 1, by omega, by go_num, HN3.out, HB3.out⟩
          case measure => simp [intOf]; omega
        · rw [decide_eq_false hxy]
          have HF := Lib.hid (HN2.out hxy)
          clear hxy
          go_wp2
          refine ⟨rfl, ?_⟩
          go_wp2
          go_ret
          exact ⟨by rw [HF.out]; rfl, HB3.out⟩
      · obtain rfl : i = L.length := by omega
        have HF := Lib.hid (show decide (L = M) = true from decide_eq_true (List.ext_getElem HLE.out (fun j h1 h2 => HALL.out j h1 h2 h1)))
        go_wp2
        go_ret
        exact ⟨by rw [HF.out]; rfl, HB2.out⟩
  · have q4 : ((L.length : Int) != (M.length : Int)) = true := by rw [bne_iff_ne]; omega
    have HF := Lib.hid (show decide (L = M) = false from decide_eq_false (fun e => e4 (by rw [e])))
    clear e4
    go_enter Tryd.func11, Tryd.ntmps11
    go_wp2
    go_ret
    exact ⟨by rw [HF.out]; rfl, Below.refl _ _⟩
end Go.Proofs.YtenpihkfghfpaaaDoor
