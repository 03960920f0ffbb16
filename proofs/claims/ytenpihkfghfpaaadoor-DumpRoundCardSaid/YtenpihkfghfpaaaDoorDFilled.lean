/- Rule 6 in the dump: filled. -/
import Derived.Test.YtenpihkfghfpaaaDoorDItems
namespace Go.Proofs.YtenpihkfghfpaaaDoor
open Go.RowKit Vl
set_option linter.unusedVariables false

set_option maxRecDepth 100000 in
set_option maxHeartbeats 4000000 in
theorem filled_walk (x : Itm) (v : Value) (ra da : Option Addr) (rc dc : Nat) (w : World) (h : ItemV w x v ra rc da dc) (hs : SizeItm x) :
    Calls Tryd.prog 34 #[v] w fun e w' => e = .returned (.bool (fileB x)) ∧ Below w.heap.size w w' := by
  obtain ⟨rfl, hr, hd⟩ := h
  have hsz := hs.size
  unfold I64 at hsz
  have HR := Lib.hid hr
  have HD := Lib.hid hd
  have HS := Lib.hid hs
  have hrl : x.runs.length ≤ 10000000000000 := by have := hs.runs; omega
  have hdl : x.data.length ≤ 140737488351232 := hs.data
  clear hr hd hs
  by_cases h0 : x.size < 0
  · have HF := Lib.hid (show fileB x = false by unfold fileB; rw [decide_eq_false (show ¬ 0 ≤ x.size by omega)]; rfl)
    have b1 : decide (x.size < 0) = true := decide_eq_true h0
    clear h0
    go_enter Tryd.func34, Tryd.ntmps34
    go_wp2
    go_ret
    exact ⟨by rw [HF.out]; rfl, (Below.refl _ _).alloc (Nat.le_refl _) _⟩
  · by_cases h1 : 8459264 < x.size
    · have HF := Lib.hid (show fileB x = false by unfold fileB; rw [decide_eq_false (show ¬ x.size ≤ 8459264 by omega), Bool.and_false]; rfl)
      have b1 : decide (x.size < 0) = false := decide_eq_false h0
      have b2 : decide (8459264 < x.size) = true := decide_eq_true h1
      clear h0 h1
      go_enter Tryd.func34, Tryd.ntmps34
      go_wp2
      go_ret
      exact ⟨by rw [HF.out]; rfl, (Below.refl _ _).alloc (Nat.le_refl _) _⟩
    · have b1 : decide (x.size < 0) = false := decide_eq_false h0
      have b2 : decide (8459264 < x.size) = false := decide_eq_false h1
      go_enter Tryd.func34, Tryd.ntmps34
      go_wp2
      have hbw : Below w.heap.size w (w.alloc (.cells #[.int .i64 x.kind, .string (strOf x.path), .string (strOf x.target), .int .i64 x.size, .slice ra x.runs.length rc, .slice da x.data.length dc] 47)) := (Below.refl _ _).alloc (Nat.le_refl _) _
      have HBW := Lib.hid hbw
      clear hbw
      have HBOX := Lib.hid (fun (wr : World) => box_cells (w := w) (wr := wr) (c0 := .int .i64 x.kind) (c1 := .string (strOf x.path)) (c2 := .string (strOf x.target)) (c3 := .int .i64 x.size) (c4 := .slice ra x.runs.length rc) (c5 := .slice da x.data.length dc))
      have HW1 : Hid (w.heap.size < (w.alloc (.cells #[.int .i64 x.kind, .string (strOf x.path), .string (strOf x.target), .int .i64 x.size, .slice ra x.runs.length rc, .slice da x.data.length dc] 47)).heap.size) := Lib.hid (by rw [size_alloc]; omega)
      generalize w.alloc (.cells #[.int .i64 x.kind, .string (strOf x.path), .string (strOf x.target), .int .i64 x.size, .slice ra x.runs.length rc, .slice da x.data.length dc] 47) = w1 at *
      go_loopw [3, 4, 19] (fun v3 v4 v5 wr => ∃ (k : Nat) (last count : Int), k ≤ x.runs.length ∧ v5 = .int .i64 k ∧ v3 = .int .i64 last ∧ v4 = .int .i64 count ∧ RInv x k last count ∧ Below w1.heap.size w1 wr) (fun _ _ v5 _ => x.runs.length - (intOf v5).toNat)
      case atStart => exact ⟨0, -1, 0, by omega, rfl, rfl, rfl, RInv.start x, Below.refl _ _⟩
      case round =>
        obtain ⟨k, last, count, hk, rfl, rfl, rfl, hinv, hb⟩ := hrel
        obtain ⟨f0, f1, f2, f3, f4, f5⟩ := HBOX.out wr hb
        have HB := Lib.hid hb
        have HINV := Lib.hid hinv
        clear hb hinv
        by_cases hlt : k < x.runs.length
        · obtain ⟨g, off, rfl, hg, hc1, hc2⟩ := (HR.out.below (HBW.out.trans (HB.out.mono HBW.out.size))) k hlt
          have hl : w.heap.size < wr.heap.size := Nat.lt_of_lt_of_le HW1.out HB.out.size
          have HNX := Lib.hid (fun hn => HINV.out.next hlt (by omega) hn)
          have HST := Lib.hid (fun hn => HINV.out.stop hlt hn)
          have hi0 := HINV.out.l0
          have hi1 := HINV.out.l1
          have hi2 := HINV.out.c0
          have hi3 := HINV.out.c1
          generalize hf : x.runs[k].1 = f at *
          generalize ht : x.runs[k].2 = t at *
          clear hf ht
          by_cases n0 : f < 0
          · have HF := Lib.hid (HST.out (.inl (by omega)))
            have d0 : decide (f < 0) = true := decide_eq_true n0
            clear n0
            go_wp2
            go_ret
            exact ⟨by rw [HF.out]; rfl, (HBW.out.trans (HB.out.mono HBW.out.size)).alloc (by omega) _⟩
          ·
            by_cases n1 : f ≤ last
            · have HF := Lib.hid (HST.out (.inl n1))
              have d1 : decide (f ≤ last) = true := decide_eq_true n1
              have d0 : decide (f < 0) = false := decide_eq_false n0
              clear n0 n1
              go_wp2
              go_ret
              exact ⟨by rw [HF.out]; rfl, (HBW.out.trans (HB.out.mono HBW.out.size)).alloc (by omega) _⟩
            · by_cases n2 : t ≤ f
              · have HF := Lib.hid (HST.out (.inr (.inl n2)))
                have d1 : decide (f ≤ last) = false := decide_eq_false n1
                have d0 : decide (f < 0) = false := decide_eq_false n0
                have d2 : decide (t ≤ f) = true := decide_eq_true n2
                clear n0 n1 n2
                go_wp2
                go_ret
                exact ⟨by rw [HF.out]; rfl, (HBW.out.trans (HB.out.mono HBW.out.size)).alloc (by omega) _⟩
              · have d1 : decide (f ≤ last) = false := decide_eq_false n1
                have d0 : decide (f < 0) = false := decide_eq_false n0
                have d2 : decide (t ≤ f) = false := decide_eq_false n2
                have hq : Int.tdiv (x.size + 512 - 1) 512 = (x.size + 511) / 512 := by rw [show x.size + 512 - 1 = x.size + 511 by omega]; exact Int.tdiv_eq_ediv_of_nonneg (by omega)
                by_cases n3 : (x.size + 511) / 512 < t
                · have HF := Lib.hid (HST.out (.inr (.inr n3)))
                  have d3 : decide ((x.size + 511) / 512 < t) = true := decide_eq_true n3
                  clear n0 n1 n2 n3
                  go_wp2
                  go_ret
                  exact ⟨by rw [HF.out]; rfl, (HBW.out.trans (HB.out.mono HBW.out.size)).alloc (by omega) _⟩
                · have HNXX := Lib.hid (HNX.out (by omega))
                  have d3 : decide ((x.size + 511) / 512 < t) = false := decide_eq_false n3
                  have hf0 : 0 ≤ f := by omega
                  have ht0 : t ≤ 16522 := by omega
                  have hft : f < t := by omega
                  clear n0 n1 n2 n3
                  go_wp2
                  go_roundw
                  case rel => exact ⟨k + 1, t, count + t - f, by omega, by go_num, rfl, congrArg (Value.int .i64) (by omega), HNXX.out, HB.out.alloc HB.out.size _⟩
                  case measure => simp [intOf]; omega
        · obtain rfl : k = x.runs.length := by omega
          have HDONE := Lib.hid (fileB_of (by omega) (by omega) (HINV.out.done rfl))
          have hi0 := HINV.out.l0
          have hi1 := HINV.out.l1
          have hi2 := HINV.out.c0
          have hi3 := HINV.out.c1
          have hi4 := HINV.out.pos
          have hi5 := HINV.out.lc
          by_cases hc : (x.data.length : Int) = 512 * count
          · have d1 : ((x.data.length : Int) != count * 512) = false := by rw [hc, Int.mul_comm]; simp
            rw [decide_eq_true hc, Bool.true_and] at HDONE
            have hc1 : (x.data.length : Int) ≤ 512 * count := by omega
            have hc2 : 512 * count ≤ (x.data.length : Int) := by omega
            have hi6 := HINV.out.pos2
            clear hc
            by_cases hz : count = 0
            · have d2 : (count == 0) = true := by rw [hz]; rfl
              have HF := Lib.hid (show fileB x = true by rw [HDONE.out, decide_eq_true (show last ≤ 0 by omega)]; rfl)
              clear hz
              go_wp2
              go_ret
              exact ⟨by rw [HF.out]; rfl, HBW.out.trans (HB.out.mono HBW.out.size)⟩
            · have d2 : (count == 0) = false := by rw [beq_eq_false_iff_ne]; exact hz
              have hlast : 0 < last := by omega
              clear hz
              obtain ⟨n, hn⟩ : ∃ n : Nat, n = (512 * last - x.size).toNat := ⟨_, rfl⟩
              rw [decide_eq_false (show ¬ last ≤ 0 by omega), Bool.false_or, ← hn] at HDONE
              have hn1 : n ≤ x.data.length := by omega
              have hn2 : x.size ≤ last * 512 → (n : Int) = last * 512 - x.size := by omega
              have hn3 : last * 512 ≤ x.size → n = 0 := by omega
              clear hn
              go_wp2
              go_loopw [7] (fun v7 wr2 => ∃ m : Nat, v7 = .int .i64 (x.size + m) ∧ m ≤ n ∧ ((x.data.drop (x.data.length - n)).take m).all (· == 0) = true ∧ Below w1.heap.size w1 wr2) (fun v7 _ => (x.size + n - intOf v7).toNat)
              case atStart => exact ⟨0, by simp, by omega, by simp, HB.out⟩
              case round =>
                obtain ⟨m, rfl, hm, hzr, hb⟩ := hrel
                obtain ⟨f0, f1, f2, f3, f4, f5⟩ := HBOX.out wr hb
                have HB2 := Lib.hid hb
                have HZ := Lib.hid hzr
                clear hb hzr
                by_cases hmn : m < n
                · have hsl : x.size ≤ last * 512 := by omega
                  have hnv := hn2 hsl
                  obtain ⟨jj, hjj⟩ : ∃ jj, jj = x.data.length - n + m := ⟨_, rfl⟩
                  have hx1 : jj < x.data.length := by omega
                  obtain ⟨g, off, rfl, hg, hcc⟩ := (HD.out.below (HBW.out.trans (HB2.out.mono HBW.out.size))) jj hx1
                  have e1 : (x.data.length : Int) - last * 512 + (x.size + (m : Int)) = (jj : Int) := by omega
                  have d3 : decide (x.size + (m : Int) < last * 512) = true := decide_eq_true (by omega)
                  have hel : (x.data.drop (x.data.length - n))[m]'(by rw [List.length_drop]; omega) = x.data[jj] := by rw [List.getElem_drop]; congr 1; exact hjj.symm
                  have HT := Lib.hid (List.take_succ_eq_append_getElem (l := x.data.drop (x.data.length - n)) (i := m) (by rw [List.length_drop]; omega))
                  rw [hel] at HT
                  have HM := Lib.hid (show x.data[jj] ∈ x.data.drop (x.data.length - n) by rw [← hel]; exact List.getElem_mem _)
                  clear hjj hel hnv
                  by_cases hzz : x.data[jj] = 0
                  · have n0 : ((((x.data[jj].toNat : Nat) : Int)) != 0) = false := by rw [hzz]; rfl
                    have HZN := Lib.hid (show ((x.data.drop (x.data.length - n)).take (m + 1)).all (· == 0) = true by rw [HT.out, List.all_append, HZ.out, hzz]; rfl)
                    clear hzz
                    generalize ((x.data[jj].toNat : Nat) : Int) = z at *
                    go_wp2
                    go_roundw
                    case rel => exact ⟨m + 1, congrArg (Value.int .i64) (by omega), by omega, HZN.out, HB2.out⟩
                    case measure => simp [intOf]; omega
                  · have n0 : ((((x.data[jj].toNat : Nat) : Int)) != 0) = true := by
                      rw [bne_iff_ne]; exact fun e => hzz (UInt8.toNat_inj.1 (by simpa using Int.ofNat_inj.1 e))
                    have HF := Lib.hid (show fileB x = false by
                      rw [HDONE.out, Bool.eq_false_iff]
                      intro ht
                      exact hzz (by simpa using List.all_eq_true.1 ht _ HM.out))
                    clear hzz
                    generalize ((x.data[jj].toNat : Nat) : Int) = z at *
                    go_wp2
                    go_ret
                    exact ⟨by rw [HF.out]; rfl, HBW.out.trans (HB2.out.mono HBW.out.size)⟩
                · obtain rfl : m = n := by omega
                  have d3 : decide (x.size + (m : Int) < last * 512) = false := decide_eq_false (by omega)
                  have HF := Lib.hid (show fileB x = true by
                    rw [HDONE.out]
                    have := HZ.out
                    rw [List.take_of_length_le (by rw [List.length_drop]; omega)] at this
                    exact this)
                  go_wp2
                  go_ret
                  exact ⟨by rw [HF.out]; rfl, HBW.out.trans (HB2.out.mono HBW.out.size)⟩
          · have d1 : ((x.data.length : Int) != count * 512) = true := by rw [bne_iff_ne]; omega
            have HF := Lib.hid (show fileB x = false by rw [HDONE.out, decide_eq_false hc]; rfl)
            go_wp2
            go_ret
            exact ⟨by rw [HF.out]; rfl, HBW.out.trans (HB.out.mono HBW.out.size)⟩
end Go.Proofs.YtenpihkfghfpaaaDoor
