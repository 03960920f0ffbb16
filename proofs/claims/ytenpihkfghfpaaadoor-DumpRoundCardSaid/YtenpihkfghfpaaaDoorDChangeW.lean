/- The law's changed. -/
import Derived.Test.YtenpihkfghfpaaaDoorDNum
import Derived.Test.YtenpihkfghfpaaaDoorDSumW
import Derived.Test.YtenpihkfghfpaaaDoorDChange
import Derived.Deep.LoopGhost
namespace Go.Proofs.YtenpihkfghfpaaaDoor
open Go.RowKit Vl
set_option linter.unusedVariables false

set_option maxRecDepth 100000 in
theorem within_walk (n : Int) (len : Nat) (h0 : 0 < len) (hlen : len ≤ 140737488351232) (hn : -9223372036854775808 ≤ n ∧ n ≤ 9223372036854775807) (w : World) :
    Calls Tryd.prog 27 #[.int .i64 n, .int .i64 0, .int .i64 ((len : Int) - 1)] w fun e w' => e = .returned (.int .i64 (n % len)) ∧ w' = w := by
  have hz : ¬ (len : Int) = 0 := by omega
  have hm1 := Int.emod_nonneg n hz
  have hm2 := Int.emod_lt_of_pos n (show (0 : Int) < len by omega)
  have htm : n.tmod (len : Int) = if 0 ≤ n ∨ (len : Int) ∣ n then n % len else n % len - len := by
    have := @Int.tmod_eq_emod n (len : Int)
    rw [this]
    split
    · simp
    · simp
  by_cases hneg : 0 ≤ n ∨ (len : Int) ∣ n
  · rw [if_pos hneg] at htm
    have t1 : decide (n % (len : Int) < 0) = false := decide_eq_false (by omega)
    generalize n % (len : Int) = m at *
    clear hneg
    go_enter Tryd.func27, Tryd.ntmps27
    go_wp2
    go_ret
    exact ⟨rfl, rfl⟩
  · rw [if_neg hneg] at htm
    have t1 : decide (n % (len : Int) - len < 0) = true := decide_eq_true (by omega)
    generalize n % (len : Int) = m at *
    clear hneg
    go_enter Tryd.func27, Tryd.ntmps27
    go_wp2
    go_ret
    exact ⟨rfl, rfl⟩

theorem xor_u8 {a b : Nat} (ha : a < 256) (hb : b < 256) : bits .xor .u8 (a : Int) (b : Int) = ((a ^^^ b : Nat) : Int) := by
  have h : a ^^^ b < 256 := Nat.xor_lt_two_pow (n := 8) ha hb
  unfold bits
  have e : (BitVec.ofInt 8 (a : Int) ^^^ BitVec.ofInt 8 (b : Int)).toNat = a ^^^ b := by
    rw [BitVec.toNat_xor, BitVec.ofInt_natCast, BitVec.ofInt_natCast, BitVec.toNat_ofNat, BitVec.toNat_ofNat, Nat.mod_eq_of_lt (by omega), Nat.mod_eq_of_lt (by omega)]
  show IntKind.u8.wrap ((BitVec.ofInt 8 (a : Int) ^^^ BitVec.ofInt 8 (b : Int)).toNat) = _
  rw [e]
  show ((a ^^^ b : Nat) : Int) % 256 = _
  omega
theorem xor_byte (u : UInt8) (v : Int) : ((u ^^^ byteI v).toNat : Int) = bits .xor .u8 (u.toNat : Int) (v % 256) := by
  have h1 : v % 256 = (((byteI v).toNat : Nat) : Int) := by unfold byteI; rw [UInt8.toNat_ofNat']; omega
  rw [h1, xor_u8 u.toNat_lt (byteI v).toNat_lt, UInt8.toNat_xor]
theorem Own.head {w : World} {B : Nat} {a : Option Addr} {n c m : Nat} {l : List UInt8} (h : Own w B 5 (.slice a n c) n (bcells l)) (hm : m ≤ n) (ha : a ≠ none) : Own w B 5 (.slice a m c) m (bcells (l.take m)) := by
  have hl := h.len
  rw [bcells_length] at hl
  refine ⟨by rw [bcells_length, List.length_take]; omega, ?_⟩
  rcases h.2 with ⟨e, h0⟩ | ⟨g, cap, cur, e, hb, hg, h1, h2, h3, h4⟩
  · cases e; exact absurd rfl ha
  · cases e
    refine .inr ⟨g, _, cur, rfl, hb, hg, by omega, h2, h3, ?_⟩
    rw [Nat.mul_one] at h4 ⊢
    have : bcells (l.take m) = (bcells l).take m := by unfold bcells; rw [List.map_take]
    rw [this, ← h4, List.take_take, Nat.min_eq_left hm]

set_option maxRecDepth 100000 in
set_option maxHeartbeats 4000000 in
theorem lawSum_walk (l : List UInt8) (a : Option Addr) (c : Nat) (w : World) (h : BytesAt w a l) (hl : l.length ≤ 140737488351232) :
    Calls Tryd.prog 28 #[.slice a l.length c] w fun e w' => e = .returned (.int .i64 (crcOf l)) ∧ w' = w := by
  have HN := Lib.hid (refSum_walk l a c w h hl)
  clear h
  go_enter Tryd.func28, Tryd.ntmps28
  go_wp2_with fail
  refine HN.out.mono ?_
  rintro e w' ⟨rfl, rfl⟩
  go_wp2
  go_ret
  exact ⟨rfl, rfl⟩

set_option maxRecDepth 100000 in
set_option maxHeartbeats 4000000 in
theorem changed_walk (b : List UInt8) (k at_ v : Int) (back sum : Bool) (a : Option Addr) (c : Nat) (w : World) (h : BytesAt w a b) (hl : b.length ≤ 1000000000) (hat : -9223372036854775808 ≤ at_ ∧ at_ ≤ 9223372036854775807) :
    Calls Tryd.prog 14 #[.slice a b.length c, .agg #[.int .i64 k, .int .i64 at_, .int .i64 v, .bool back, .bool sum]] w fun e w' =>
      ∃ r, e = .returned r ∧ (∃ ra rc, r = .slice ra (changedB b k at_ v back sum).length rc ∧ BytesAt w' ra (changedB b k at_ v back sum)) ∧ Below w.heap.size w w' := by
  obtain ⟨i0, hi, hz0, hz1, hz2⟩ := info_parts info5
  have H := Lib.hid h
  have h1 := heap_alloc_new w (.cells #[.int .i64 k, .int .i64 at_, .int .i64 v, .bool back, .bool sum] 39)
  have hb1 : Below w.heap.size w (w.alloc (.cells #[.int .i64 k, .int .i64 at_, .int .i64 v, .bool back, .bool sum] 39)) := (Below.refl _ _).alloc (Nat.le_refl _) _
  have HB1 := Lib.hid hb1
  have HQ1 := Lib.hid h1
  clear h h1 hb1
  go_enter Tryd.func14, Tryd.ntmps14
  go_upto_region 1 with fail
  generalize w.alloc (.cells #[.int .i64 k, .int .i64 at_, .int .i64 v, .bool back, .bool sum] 39) = w1 at *
  obtain ⟨q, hq⟩ : ∃ q, q = w.heap.size := ⟨_, rfl⟩
  rw [← hq] at HQ1 ⊢
  have HQE := Lib.hid hq
  clear hq
  by_cases h0 : b.length = 0
  · have hb0 : b = [] := List.eq_nil_of_length_eq_zero h0
    subst hb0
    clear h0
    go_wp2
    go_ret
    exact ⟨_, rfl, ⟨a, c, rfl, fun i hi => by simp [changedB] at hi⟩, HB1.out⟩
  · have q0 : ((b.length : Int) == 0) = false := by rw [beq_eq_false_iff_ne]; omega
    have HC := Lib.hid (show changedB b k at_ v back sum = chSum sum (chRaw k v (chAt b.length at_ back) 0 b) by unfold changedB; rw [if_neg (fun e => h0 (by rw [e]; rfl))])
    have HN := Lib.hid (within_walk at_ b.length (by omega) (by omega) hat w1)
    have hlp : 0 < b.length := by omega
    clear h0
    have c0 := cell_whole HQ1.out 0
    have c1 := cell_whole HQ1.out 1
    have c2 := cell_whole HQ1.out 2
    have c3 := cell_whole HQ1.out 3
    have c4 := cell_whole HQ1.out 4
    simp only [List.getElem?_toArray, List.getElem?_cons_succ, List.getElem?_cons_zero] at c0 c1 c2 c3 c4
    go_wp2_with fail
    refine HN.out.mono ?_
    rintro e w2 ⟨rfl, rfl⟩
    have hm1 := Int.emod_nonneg at_ (show ¬ (b.length : Int) = 0 by omega)
    have hm2 := Int.emod_lt_of_pos at_ (show (0 : Int) < b.length by omega)
    obtain ⟨m, hm⟩ : ∃ m : Nat, at_ % (b.length : Int) = m := ⟨(at_ % (b.length : Int)).toNat, by omega⟩
    have hml : m < b.length := by omega
    obtain ⟨p, hp⟩ : ∃ p, p = chAt b.length at_ back := ⟨_, rfl⟩
    have hpe : p = if back = true then b.length - 1 - m else m := by rw [hp]; unfold chAt; rw [hm, Int.toNat_natCast]
    rw [← hp] at HC
    rw [hm]
    clear hm hm1 hm2 hp HN
    go_upto_if 21 with fail
    go_cut [5] from 22 to 26 (fun v5 wx => v5 = .int .i64 (p : Nat) ∧ wx = w2)
    case first =>
      cases back with
      | true =>
        have hpi : (b.length : Int) - 1 - (m : Int) = (p : Nat) := by rw [hpe, if_pos rfl]; omega
        go_wp2
        go_meet
        exact ⟨by rw [hpe]; simp, rfl⟩
      | false =>
        have hpi : p = m := by rw [hpe, if_neg (by simp)]
        go_wp2
        go_meet
        exact ⟨by rw [hpi], rfl⟩
    case rest =>
      obtain ⟨rfl, rfl⟩ := hcut
      obtain ⟨w1, rfl⟩ : ∃ w1, w1 = wc := ⟨_, rfl⟩
      have hpl : p < b.length := by rw [hpe]; split <;> omega
      have HBT := Lib.hid (H.out.below HB1.out)
      clear hpe c1 c2 c3
      have hb31 : b.length ≤ 1000000000 := hl
      go_wp2_with fail
      go_loopw [6, 7] (fun v6 v7 wr => ∃ i : Nat, i ≤ b.length ∧ v7 = .int .i64 i ∧ Own wr w1.heap.size 5 v6 (chRaw k v p 0 (b.take i)).length (bcells (chRaw k v p 0 (b.take i))) ∧ Below w1.heap.size w1 wr) (fun _ v7 _ => b.length - (intOf v7).toNat)
      case atStart => exact ⟨0, Nat.zero_le _, rfl, Own.nil _ _ _, Below.refl _ _⟩
      case round =>
        obtain ⟨i, hi2, rfl, ho, hbw⟩ := hrel
        have HO := Lib.hid ho
        have HBW := Lib.hid hbw
        have hsr : w1.heap.size ≤ wr.heap.size := hbw.size
        have hQ := (hbw.block q (lt_whole HQ1.out)).trans HQ1.out
        have c0 := cell_whole hQ 0
        have c2 := cell_whole hQ 2
        have c4 := cell_whole hQ 4
        have hml2 := chRaw_len k v p (b.take i) 0
        rw [List.length_take, Nat.min_eq_left hi2, if_pos (Nat.zero_le _)] at hml2
        simp only [List.getElem?_toArray, List.getElem?_cons_succ, List.getElem?_cons_zero] at c0 c2 c4
        clear ho hbw hQ
        by_cases hlt : i < b.length
        · obtain ⟨g, off, rfl, hg, hc⟩ := (HBT.out.below HBW.out) i hlt
          have HST := Lib.hid (chRaw_take k v p b i hlt)
          have hg1 : g < w1.heap.size := by
            obtain ⟨g', off', e, h2, _⟩ := HBT.out i hlt
            cases e; exact h2
          have hc1 : w1.cell? ⟨g, off + i, none⟩ = some (.int .u8 b[i].toNat) := by
            obtain ⟨g', off', e, _, h3⟩ := HBT.out i hlt
            cases e; exact h3
          generalize b[i] = u at *
          by_cases hip : i = p
          · have e1 : ((i : Int) == (p : Int)) = true := by rw [hip]; simp
            have e2 : (i == p) = true := by rw [hip]; simp
            have e3 : decide (p ≤ i) = true := decide_eq_true (by omega)
            have e4 : decide ((p : Int) ≤ (i : Int)) = true := decide_eq_true (by omega)
            by_cases k1 : k = 1
            · have d1 : (k == 1) = true := by rw [k1]; rfl
              have HF := Lib.hid (show chRaw k v p 0 (b.take (i + 1)) = chRaw k v p 0 (b.take i) by rw [HST.out]; unfold chStep; simp [hip, k1])
              clear hip k1
              go_wp2
              go_roundw
              case rel => exact ⟨i + 1, by omega, by go_num, by rw [HF.out]; exact HO.out, HBW.out⟩
              case measure => simp [intOf]; omega
            · have d1 : (k == 1) = false := by rw [beq_eq_false_iff_ne]; exact k1
              by_cases k2 : k = 2
              · have d2 : (k == 2) = true := by rw [k2]; rfl
                have HF := Lib.hid (show chRaw k v p 0 (b.take (i + 1)) = chRaw k v p 0 (b.take i) ++ [u, u] by rw [HST.out]; unfold chStep; simp [hip, k2])
                clear hip k1 k2
                go_wp2_with (at_builtin; refine wpList_append_own _ rfl _ _ 24 rfl w1.heap.size 5 i0 (.int .u8 0) 1 1 Tryd.underlying24 hi hz0 hz1 hz2 rfl (by decide) _ (chRaw k v p 0 (b.take i)).length _ rfl (HO.out.alloc _) ⟨wr.heap.size, 0, none⟩ 1 1 [_] rfl rfl (new_one _ _ _ _ rfl) (one_cell rfl) (by unfold maxLen; omega) (by omega) (le_alloc hsr _) ?_)
                intro v9 w9 h9 hg9 _
                have HO9 : Hid (Own w9 w1.heap.size 5 v9 ((chRaw k v p 0 (b.take i)) ++ [u]).length (bcells ((chRaw k v p 0 (b.take i)) ++ [u]))) := by
                  rw [List.length_append, bcells_append, bcells_one]
                  exact Lib.hid h9
                have HB9 := Lib.hid ((HBW.out.alloc hsr _).grown hg9 (le_alloc hsr _) (fun j hj => (HO.out.block hj).1))
                have hs9 : w1.heap.size ≤ w9.heap.size := HB9.out.size
                have hc9 : w9.cell? ⟨g, off + i, none⟩ = some (.int .u8 u.toNat) := by
                  rw [HB9.out.cell (p := ⟨g, off + i, none⟩) hg1]; exact hc1
                clear h9 hg9
                go_wp2_with (at_builtin; refine wpList_append_own _ rfl _ _ 24 rfl w1.heap.size 5 i0 (.int .u8 0) 1 1 Tryd.underlying24 hi hz0 hz1 hz2 rfl (by decide) _ ((chRaw k v p 0 (b.take i)) ++ [u]).length _ rfl (HO9.out.alloc _) ⟨w9.heap.size, 0, none⟩ 1 1 [_] rfl rfl (new_one _ _ _ _ rfl) (one_cell rfl) (by rw [List.length_append]; simp only [List.length_cons, List.length_nil]; unfold maxLen; omega) (by rw [List.length_append]; simp only [List.length_cons, List.length_nil]; omega) (le_alloc hs9 _) ?_)
                intro v8 w8 h8 hg8 _
                have HO8 : Hid (Own w8 w1.heap.size 5 v8 (chRaw k v p 0 (b.take (i + 1))).length (bcells (chRaw k v p 0 (b.take (i + 1))))) := by
                  rw [HF.out, show (chRaw k v p 0 (b.take i)) ++ [u, u] = (chRaw k v p 0 (b.take i)) ++ [u] ++ [u] by simp, List.length_append, List.length_append, bcells_append, bcells_one]
                  exact Lib.hid h8
                have HB8 := Lib.hid ((HB9.out.alloc hs9 _).grown hg8 (le_alloc hs9 _) (fun j hj => (HO9.out.block hj).1))
                clear h8 hg8
                go_wp2
                go_roundw
                case rel => exact ⟨i + 1, by omega, by go_num, HO8.out, HB8.out⟩
                case measure => simp [intOf]; omega
              · have d2 : (k == 2) = false := by rw [beq_eq_false_iff_ne]; exact k2
                by_cases k3 : k = 3
                · have d3 : (k == 3) = true := by rw [k3]; rfl
                  have HF := Lib.hid (show chRaw k v p 0 (b.take (i + 1)) = chRaw k v p 0 (b.take i) by rw [HST.out]; unfold chStep; simp [hip, k3])
                  clear hip k1 k2 k3
                  go_wp2
                  go_roundw
                  case rel => exact ⟨i + 1, by omega, by go_num, by rw [HF.out]; exact HO.out, HBW.out⟩
                  case measure => simp [intOf]; omega
                · have d3 : (k == 3) = false := by rw [beq_eq_false_iff_ne]; exact k3
                  by_cases k0 : k = 0
                  · have d0 : (k == 0) = true := by rw [k0]; rfl
                    have HF := Lib.hid (show chRaw k v p 0 (b.take (i + 1)) = chRaw k v p 0 (b.take i) ++ [u ^^^ byteI v] by rw [HST.out]; unfold chStep; simp [hip, k0])
                    clear hip k1 k2 k3 k0
                    have HXR := Lib.hid (xor_byte u v)
                    go_wp2_with fail
                    refine wp_canon (by kernel_rfl) (by kernel_rfl) ?_
                    go_wp2_with (at_builtin; refine wpList_append_own _ rfl _ _ 24 rfl w1.heap.size 5 i0 (.int .u8 0) 1 1 Tryd.underlying24 hi hz0 hz1 hz2 rfl (by decide) _ (chRaw k v p 0 (b.take i)).length _ rfl (HO.out.alloc _) ⟨wr.heap.size, 0, none⟩ 1 1 [_] rfl rfl (new_one _ _ _ _ rfl) (one_cell rfl) (by unfold maxLen; omega) (by omega) (le_alloc hsr _) ?_)
                    intro v9 w9 h9 hg9 _
                    have HO9 : Hid (Own w9 w1.heap.size 5 v9 (chRaw k v p 0 (b.take (i + 1))).length (bcells (chRaw k v p 0 (b.take (i + 1))))) := by
                      rw [HF.out, List.length_append, bcells_append, bcells_one, HXR.out]
                      exact Lib.hid h9
                    have HB9 := Lib.hid (((HBW.out.alloc hsr _).drew).grown hg9 (le_drew (le_alloc hsr _)) (fun j hj => (HO.out.block hj).1))
                    clear h9 hg9
                    go_wp2
                    refine ⟨rfl, ?_⟩
                    go_wp2
                    go_roundw
                    case rel => exact ⟨i + 1, by omega, by go_num, HO9.out, HB9.out⟩
                    case measure => simp [intOf]; omega
                  · have d0 : (k == 0) = false := by rw [beq_eq_false_iff_ne]; exact k0
                    have HF := Lib.hid (show chRaw k v p 0 (b.take (i + 1)) = chRaw k v p 0 (b.take i) ++ [u] by rw [HST.out]; unfold chStep; simp [hip, k0, k1, k2, k3])
                    clear hip k1 k2 k3 k0
                    go_wp2_with (at_builtin; refine wpList_append_own _ rfl _ _ 24 rfl w1.heap.size 5 i0 (.int .u8 0) 1 1 Tryd.underlying24 hi hz0 hz1 hz2 rfl (by decide) _ (chRaw k v p 0 (b.take i)).length _ rfl (HO.out.alloc _) ⟨wr.heap.size, 0, none⟩ 1 1 [_] rfl rfl (new_one _ _ _ _ rfl) (one_cell rfl) (by unfold maxLen; omega) (by omega) (le_alloc hsr _) ?_)
                    intro v9 w9 h9 hg9 _
                    have HO9 : Hid (Own w9 w1.heap.size 5 v9 (chRaw k v p 0 (b.take (i + 1))).length (bcells (chRaw k v p 0 (b.take (i + 1))))) := by
                      rw [HF.out, List.length_append, bcells_append, bcells_one]
                      exact Lib.hid h9
                    have HB9 := Lib.hid ((HBW.out.alloc hsr _).grown hg9 (le_alloc hsr _) (fun j hj => (HO.out.block hj).1))
                    clear h9 hg9
                    go_wp2
                    go_roundw
                    case rel => exact ⟨i + 1, by omega, by go_num, HO9.out, HB9.out⟩
                    case measure => simp [intOf]; omega
          · have e1 : ((i : Int) == (p : Int)) = false := by rw [beq_eq_false_iff_ne]; omega
            have e2 : (i == p) = false := by rw [beq_eq_false_iff_ne]; omega
            by_cases hpi : p ≤ i
            · have e3 : decide (p ≤ i) = true := decide_eq_true hpi
              have e4 : decide ((p : Int) ≤ (i : Int)) = true := decide_eq_true (by omega)
              by_cases k3 : k = 3
              · have d3 : (k == 3) = true := by rw [k3]; rfl
                have HF := Lib.hid (show chRaw k v p 0 (b.take (i + 1)) = chRaw k v p 0 (b.take i) by rw [HST.out]; unfold chStep; simp [hip, hpi, k3])
                clear hip hpi k3
                go_wp2
                go_roundw
                case rel => exact ⟨i + 1, by omega, by go_num, by rw [HF.out]; exact HO.out, HBW.out⟩
                case measure => simp [intOf]; omega
              · have d3 : (k == 3) = false := by rw [beq_eq_false_iff_ne]; exact k3
                have HF := Lib.hid (show chRaw k v p 0 (b.take (i + 1)) = chRaw k v p 0 (b.take i) ++ [u] by rw [HST.out]; unfold chStep; simp [hip, hpi, k3])
                clear hip hpi k3
                go_wp2_with (at_builtin; refine wpList_append_own _ rfl _ _ 24 rfl w1.heap.size 5 i0 (.int .u8 0) 1 1 Tryd.underlying24 hi hz0 hz1 hz2 rfl (by decide) _ (chRaw k v p 0 (b.take i)).length _ rfl (HO.out.alloc _) ⟨wr.heap.size, 0, none⟩ 1 1 [_] rfl rfl (new_one _ _ _ _ rfl) (one_cell rfl) (by unfold maxLen; omega) (by omega) (le_alloc hsr _) ?_)
                intro v9 w9 h9 hg9 _
                have HO9 : Hid (Own w9 w1.heap.size 5 v9 (chRaw k v p 0 (b.take (i + 1))).length (bcells (chRaw k v p 0 (b.take (i + 1))))) := by
                  rw [HF.out, List.length_append, bcells_append, bcells_one]
                  exact Lib.hid h9
                have HB9 := Lib.hid ((HBW.out.alloc hsr _).grown hg9 (le_alloc hsr _) (fun j hj => (HO.out.block hj).1))
                clear h9 hg9
                go_wp2
                go_roundw
                case rel => exact ⟨i + 1, by omega, by go_num, HO9.out, HB9.out⟩
                case measure => simp [intOf]; omega
            · have e3 : decide (p ≤ i) = false := decide_eq_false hpi
              have e4 : decide ((p : Int) ≤ (i : Int)) = false := decide_eq_false (by omega)
              have HF := Lib.hid (show chRaw k v p 0 (b.take (i + 1)) = chRaw k v p 0 (b.take i) ++ [u] by rw [HST.out]; unfold chStep; simp [hip, hpi])
              clear hip hpi
              go_wp2_with (at_builtin; refine wpList_append_own _ rfl _ _ 24 rfl w1.heap.size 5 i0 (.int .u8 0) 1 1 Tryd.underlying24 hi hz0 hz1 hz2 rfl (by decide) _ (chRaw k v p 0 (b.take i)).length _ rfl (HO.out.alloc _) ⟨wr.heap.size, 0, none⟩ 1 1 [_] rfl rfl (new_one _ _ _ _ rfl) (one_cell rfl) (by unfold maxLen; omega) (by omega) (le_alloc hsr _) ?_)
              intro v9 w9 h9 hg9 _
              have HO9 : Hid (Own w9 w1.heap.size 5 v9 (chRaw k v p 0 (b.take (i + 1))).length (bcells (chRaw k v p 0 (b.take (i + 1))))) := by
                rw [HF.out, List.length_append, bcells_append, bcells_one]
                exact Lib.hid h9
              have HB9 := Lib.hid ((HBW.out.alloc hsr _).grown hg9 (le_alloc hsr _) (fun j hj => (HO.out.block hj).1))
              clear h9 hg9
              go_wp2
              go_roundw
              case rel => exact ⟨i + 1, by omega, by go_num, HO9.out, HB9.out⟩
              case measure => simp [intOf]; omega
        · obtain rfl : i = b.length := by omega
          rw [List.take_length] at HO hml2
          generalize ho : chRaw k v p 0 b = out at *
          have HOE := Lib.hid ho
          clear ho
          obtain ⟨oa, oc, rfl⟩ := HO.out.form
          by_cases hsum : sum = true ∧ 4 ≤ out.length
          · obtain ⟨rfl, h4⟩ := hsum
            have HR := Lib.hid (show changedB b k at_ v back true = out.take (out.length - 4) ++ leB (crcOf (out.take (out.length - 4))) 4 by rw [HC.out]; unfold chSum; rw [if_pos ⟨rfl, h4⟩])
            have t4 : decide ((4 : Int) ≤ (out.length : Int)) = true := decide_eq_true (by omega)
            have t5 : decide (4 ≤ out.length) = true := decide_eq_true h4
            have hoa : oa ≠ none := by
              intro e
              rcases HO.out.2 with ⟨h, h0⟩ | ⟨_, _, _, h, _⟩
              · omega
              · rw [e] at h; cases h
            have HO5 := Lib.hid (Own.head HO.out (show out.length - 4 ≤ out.length by omega) hoa)
            have hll : (out.take (out.length - 4)).length = out.length - 4 := by rw [List.length_take]; omega
            have hoc : out.length ≤ oc := by
              rcases HO.out.2 with ⟨h, h0⟩ | ⟨_, cap, _, h, _, _, h3, _⟩
              · omega
              · cases h; exact h3
            have HN := Lib.hid (lawSum_walk (out.take (out.length - 4)) oa oc wr (BytesAt.of_own HO5.out).2 (by omega))
            rw [hll] at HN
            generalize hT : out.take (out.length - 4) = T at *
            have hs32 : crcOf T < 4294967296 := crcOf_lt T
            generalize crcOf T = s at *
            have HLL := Lib.hid hll
            have hTl : T.length ≤ 1000000001 := by omega
            clear hT HOE hll
            go_wp2_with fail
            refine HN.out.mono ?_
            rintro e w9 ⟨rfl, rfl⟩
            have HO6 : Hid (Own w9 w1.heap.size 5 (.slice oa (out.length - 4) oc) (T ++ leB s 0).length (bcells (T ++ leB s 0))) := by
              rw [leB, List.append_nil, HLL.out]; exact HO5
            clear HO HO5 hoc hoa hml2 HN HLL t4 t5 h4
            go_wp2_with fail
            go_loopw [6, 9] (fun v6 v9 wx => ∃ j : Nat, j ≤ 4 ∧ v9 = .int .i64 j ∧ Own wx w1.heap.size 5 v6 (T ++ leB s j).length (bcells (T ++ leB s j)) ∧ Below w1.heap.size w1 wx) (fun _ v9 _ => 4 - (intOf v9).toNat)
            case atStart => exact ⟨0, by omega, rfl, HO6.out, HBW.out⟩
            case round =>
              obtain ⟨j, hj, rfl, ho, hbw⟩ := hrel
              have HO := Lib.hid ho
              have HBX := Lib.hid hbw
              have hsx : w1.heap.size ≤ wr.heap.size := hbw.size
              have hTj : (T ++ leB s j).length ≤ 1000000005 := by rw [List.length_append, leB_length]; omega
              clear ho hbw
              by_cases hj4 : j < 4
              · have HSN := Lib.hid (leB_snoc s j)
                have HBY := Lib.hid (show ((UInt8.ofNat (s / 256 ^ j % 256)).toNat : Int) = (s : Int) / 2 ^ (8 * j) % 256 by
                  rw [UInt8.toNat_ofNat', show (256 : Nat) ^ j = 2 ^ (8 * j) by rw [Nat.pow_mul]]
                  have e : (s : Int) / 2 ^ (8 * j) = ((s / 2 ^ (8 * j) : Nat) : Int) := by push_cast; rfl
                  rw [e]; omega)
                go_wp2_with (at_builtin; refine wpList_append_own _ rfl _ _ 24 rfl w1.heap.size 5 i0 (.int .u8 0) 1 1 Tryd.underlying24 hi hz0 hz1 hz2 rfl (by decide) _ (T ++ leB s j).length _ rfl (HO.out.alloc _) ⟨wr.heap.size, 0, none⟩ 1 1 [_] rfl rfl (new_one _ _ _ _ rfl) (one_cell rfl) (by unfold maxLen; omega) (by omega) (le_alloc hsx _) ?_)
                intro v9 w9 h9 hg9 _
                have HO9 : Hid (Own w9 w1.heap.size 5 v9 (T ++ leB s (j + 1)).length (bcells (T ++ leB s (j + 1)))) := by
                  rw [HSN.out, ← List.append_assoc, List.length_append, List.length_append, bcells_append, bcells_one, HBY.out]
                  exact Lib.hid h9
                have HB9 := Lib.hid ((HBX.out.alloc hsx _).grown hg9 (le_alloc hsx _) (fun j hj => (HO.out.block hj).1))
                clear h9 hg9
                go_wp2
                go_roundw
                case rel => exact ⟨j + 1, by omega, by go_num, HO9.out, HB9.out⟩
                case measure => simp [intOf]; omega
              · obtain rfl : j = 4 := by omega
                obtain ⟨xa, xc, rfl⟩ := HO.out.form
                have hbo := Lib.hid (BytesAt.of_own HO.out).2
                go_wp2
                go_ret
                rw [HR.out]
                exact ⟨_, rfl, ⟨_, _, rfl, hbo.out⟩, HB1.out.trans (HBX.out.mono HB1.out.size)⟩
          · have HR := Lib.hid (show changedB b k at_ v back sum = out by rw [HC.out]; unfold chSum; rw [if_neg hsum])
            have hbo := Lib.hid (BytesAt.of_own HO.out).2
            cases hs : sum with
            | false =>
              subst hs
              clear hsum
              go_wp2
              go_ret
              rw [HR.out]
              exact ⟨_, rfl, ⟨_, _, rfl, hbo.out⟩, HB1.out.trans (HBW.out.mono HB1.out.size)⟩
            | true =>
              have h4 : ¬ 4 ≤ out.length := fun h => hsum ⟨hs, h⟩
              subst hs
              have t4 : decide ((4 : Int) ≤ (out.length : Int)) = false := decide_eq_false (by omega)
              have t5 : decide (4 ≤ out.length) = false := decide_eq_false h4
              clear hsum h4
              go_wp2
              go_ret
              rw [HR.out]
              exact ⟨_, rfl, ⟨_, _, rfl, hbo.out⟩, HB1.out.trans (HBW.out.mono HB1.out.size)⟩
end Go.Proofs.YtenpihkfghfpaaaDoor
