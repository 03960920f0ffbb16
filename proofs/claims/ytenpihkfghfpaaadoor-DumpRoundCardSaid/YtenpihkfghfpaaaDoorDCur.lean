/- The reference's cursor: number, take. -/
import Derived.Test.YtenpihkfghfpaaaDoorDPackR
import Derived.Test.YtenpihkfghfpaaaDoorDParseS
namespace Go.Proofs.YtenpihkfghfpaaaDoor
open Go.RowKit Vl
set_option linter.unusedVariables false

/-- A cursor's block, and what it has yet to hand out. -/
def CurAt (W0 w : World) (p : Nat) (l : List UInt8) (ok : Bool) : Prop := ∃ a c L k, w.heap[p]? = some (.cells #[.slice a (L : List UInt8).length c, .int .i64 (k : Nat), .bool ok] 79 (0, 0)) ∧ BytesAt W0 a L ∧ k ≤ L.length ∧ l = L.drop k ∧ L.length ≤ 4194304 ∧ W0.heap.size ≤ p ∧ Below W0.heap.size W0 w
theorem CurAt.keep {W0 w w' : World} {p : Nat} {l : List UInt8} {ok : Bool} (h : CurAt W0 w p l ok) (hp : w'.heap[p]? = w.heap[p]?) (hb : Below W0.heap.size W0 w') : CurAt W0 w' p l ok := by
  obtain ⟨a, c, L, k, h1, h2, h3, h4, h5, h6, _⟩ := h
  exact ⟨a, c, L, k, by rw [hp]; exact h1, h2, h3, h4, h5, h6, hb⟩
theorem CurAt.low {W0 w : World} {p : Nat} {l : List UInt8} {ok : Bool} (h : CurAt W0 w p l ok) : Below W0.heap.size W0 w := by
  obtain ⟨_, _, _, _, _, _, _, _, _, _, h⟩ := h; exact h
theorem CurAt.lt {W0 w : World} {p : Nat} {l : List UInt8} {ok : Bool} (h : CurAt W0 w p l ok) : p < w.heap.size := by
  obtain ⟨_, _, _, _, h, _⟩ := h; exact lt_whole h
theorem CurAt.base {W0 w : World} {p : Nat} {l : List UInt8} {ok : Bool} (h : CurAt W0 w p l ok) : W0.heap.size ≤ p := by
  obtain ⟨_, _, _, _, _, _, _, _, _, h, _⟩ := h; exact h
theorem CurAt.len {W0 w : World} {p : Nat} {l : List UInt8} {ok : Bool} (h : CurAt W0 w p l ok) : l.length ≤ 4194304 := by
  obtain ⟨_, _, L, k, _, _, _, rfl, h, _⟩ := h
  rw [List.length_drop]; omega
theorem CurAt.blk {W0 w : World} {p : Nat} {l : List UInt8} {ok : Bool} (h : CurAt W0 w p l ok) : ∃ x y, w.heap[p]? = some (.cells #[x, y, .bool ok] 79 (0, 0)) := by
  obtain ⟨_, _, _, _, h, _⟩ := h; exact ⟨_, _, h⟩

theorem leV_drop (b : List UInt8) (i : Nat) (h : i < b.length) : leV (b.drop i) = 256 * leV (b.drop (i + 1)) + b[i].toNat := by
  rw [List.drop_eq_getElem_cons h, leV, Nat.add_comm]

set_option maxRecDepth 100000 in
set_option maxHeartbeats 2000000 in
theorem cnum_walk (W0 : World) (p : Nat) (l : List UInt8) (ok : Bool) (n : Nat) (hn1 : 1 ≤ n) (hn : n ≤ 8) (w : World) (h : CurAt W0 w p l ok) :
    Calls Tryd.prog 44 #[.pointer (some ⟨p, 0, none⟩), .int .i64 n] w fun e w' => e = .returned (.int .i64 (numS n l ok).1) ∧ CurAt W0 w' p (numS n l ok).2.1 (numS n l ok).2.2 ∧ Out p w.heap.size w w' := by
  obtain ⟨a, c, L, k, hp, hb0, hk, rfl, hL, hWp, hW⟩ := h
  have hb := hb0.below hW
  have HP := Lib.hid hp
  have HB := Lib.hid hb
  have HB0 := Lib.hid hb0
  have HW := Lib.hid hW
  have c0 := cell_whole hp 0
  have c1 := cell_whole hp 1
  have c2 := cell_whole hp 2
  have f1 := frozen_whole hp 1
  have f2 := frozen_whole hp 2
  simp only [List.getElem?_toArray, List.getElem?_cons_zero, List.getElem?_cons_succ] at c0 c1 c2
  have hlt := lt_whole hp
  clear hp hb hb0 hW
  by_cases hgt : L.length - k < n
  · have hS : numS n (L.drop k) ok = (0, L.drop k, false) := numS_none (by unfold numR numB takeB; rw [if_neg (by rw [List.length_drop]; omega)]; rfl)
    rw [hS]
    clear hS
    have t1 : decide (((L.length : Int) - (k : Int)) < (n : Int)) = true := decide_eq_true (by omega)
    go_enter Tryd.func44, Tryd.ntmps44
    go_wp2_with fail
    refine wp_canon (by kernel_rfl) (by kernel_rfl) ?_
    go_wp2
    refine ⟨rfl, ?_⟩
    go_wp2
    go_ret
    have HO : Out p w.heap.size w (w.drew.setCell ⟨p, 2, none⟩ (.bool false)) := ((Out.refl p w.heap.size w).drew).setCell _ _ (.inl rfl)
    exact ⟨rfl, ⟨a, c, L, k, (by show (w.setCell ⟨p, 2, none⟩ (.bool false)).heap[p]? = _; rw [set_whole (i := 2) HP.out]; rfl), HB0.out, hk, rfl, hL, hWp, HW.out.drew.setCell hWp _⟩, HO⟩
  · obtain ⟨b, hbe⟩ : ∃ b, b = (L.drop k).take n := ⟨_, rfl⟩
    have hbl : b.length = n := by rw [hbe, List.length_take, List.length_drop]; omega
    have HBI := Lib.hid (show ∀ i (h : i < b.length), b[i] = L[k + i]'(by rw [hbl] at h; omega) from fun i hi => by subst hbe; rw [List.getElem_take, List.getElem_drop])
    have HNB := Lib.hid (show numB n (L.drop k) = some (leV b, L.drop (k + n)) by
      unfold numB takeB
      rw [if_pos (by rw [List.length_drop]; omega), ← hbe, List.drop_drop]; rfl)
    clear hbe
    have t1 : decide (((L.length : Int) - (k : Int)) < (n : Int)) = false := decide_eq_false (by omega)
    go_enter Tryd.func44, Tryd.ntmps44
    go_wp2_with fail
    refine wp_canon (by kernel_rfl) (by kernel_rfl) ?_
    go_wp2
    refine ⟨rfl, ?_⟩
    go_wp2_with fail
    have HE0 : Hid (leV (b.drop n) = 0) := Lib.hid (by rw [List.drop_eq_nil_of_le (by omega)]; rfl)
    go_loopw [5, 6] (fun v5 v6 wr => ∃ j : Nat, j ≤ n ∧ v6 = .int .i64 ((j : Int) - 1) ∧ v5 = .int .i64 (leV (b.drop j) : Nat) ∧ leV (b.drop j) / 256 ≤ 18014398509481984 ∧ Below w.heap.size w wr ∧ wr.heap[p]? = w.heap[p]?) (fun _ v6 _ => (intOf v6 + 1).toNat)
    case atStart => exact ⟨n, Nat.le_refl _, by go_num, by rw [HE0.out]; rfl, by rw [HE0.out]; omega, (Below.refl _ _).drew, rfl⟩
    case round =>
      obtain ⟨j, hj, rfl, rfl, hv, hbw, hpw⟩ := hrel
      have HBW := Lib.hid hbw
      have HPW := Lib.hid (hpw.trans HP.out)
      have c0 := cell_whole HPW.out 0
      have c1 := cell_whole HPW.out 1
      have c2 := cell_whole HPW.out 2
      have f1 := frozen_whole HPW.out 1
      have f2 := frozen_whole HPW.out 2
      simp only [List.getElem?_toArray, List.getElem?_cons_zero, List.getElem?_cons_succ] at c0 c1 c2
      clear hbw hpw
      rcases j with _ | i
      · have HN2 := Lib.hid (show numS n (L.drop k) ok = (leV b, L.drop (k + n), ok) from numS_some (x := (leV b, L.drop (k + n))) (by unfold numR; rw [HNB.out]; simp only; rw [if_neg (by rw [List.drop_zero] at hv; omega)]))
        rw [List.drop_zero] at *
        go_wp2
        go_ret
        rw [HN2.out]
        have HO : Out p w.heap.size w (wr.setCell ⟨p, 1, none⟩ (.int .i64 ((k : Int) + (n : Int)))) := (Out.of_below HBW.out).setCell _ _ (.inl rfl)
        exact ⟨rfl, ⟨a, c, L, k + n, (by rw [set_whole (i := 1) HPW.out]; rfl), HB0.out, by omega, rfl, hL, hWp, (HW.out.trans (HBW.out.mono HW.out.size)).setCell hWp _⟩, HO⟩
      · have e1 : ((i + 1 : Nat) : Int) - 1 = (i : Int) := by omega
        have hib : i < b.length := by omega
        have HDR := Lib.hid (leV_drop b i hib)
        have hi64 := leV_lt (b.drop (i + 1))
        rw [List.length_drop, hbl] at hi64
        rw [e1]
        by_cases hbig : 18014398509481984 < leV (b.drop (i + 1))
        · have i0 : i = 0 := by
            rcases Nat.lt_or_ge 0 i with h | h
            · exfalso
              have : 256 ^ (n - (i + 1)) ≤ 256 ^ 6 := Nat.pow_le_pow_right (by decide) (by omega)
              omega
            · omega
          subst i0
          have HN2 := Lib.hid (show numS n (L.drop k) ok = (0, L.drop k, false) from numS_none (by
            unfold numR; rw [HNB.out]; simp only
            rw [if_pos]
            have := HDR.out
            have h2 := b[0].toNat_lt
            rw [List.drop_zero] at this
            omega))
          obtain ⟨g, off, rfl, hg, hc⟩ := HB.out (k + 0) (by omega)
          rw [← HBW.out.cell (p := ⟨g, off + (k + 0), none⟩) hg] at hc
          have t2 : decide ((18014398509481984 : Int) < ((leV (b.drop (0 + 1)) : Nat) : Int)) = true := decide_eq_true (by omega)
          generalize leV (b.drop (0 + 1)) = V at *
          have hc' : wr.cell? ⟨g, off + k, none⟩ = some (.int .u8 (L[k]'(by omega)).toNat) := hc
          go_wp2_with fail
          refine wp_canon (by kernel_rfl) (by kernel_rfl) ?_
          go_wp2
          refine ⟨rfl, ?_⟩
          go_wp2
          go_ret
          rw [HN2.out]
          have HO : Out p w.heap.size w (wr.drew.setCell ⟨p, 2, none⟩ (.bool false)) := ((Out.of_below HBW.out).drew).setCell _ _ (.inl rfl)
          exact ⟨rfl, ⟨_, c, L, k, (by show (wr.setCell ⟨p, 2, none⟩ (.bool false)).heap[p]? = _; rw [set_whole (i := 2) HPW.out]; rfl), HB0.out, hk, rfl, hL, hWp, ((HW.out.trans (HBW.out.mono HW.out.size)).drew).setCell hWp _⟩, HO⟩
        · obtain ⟨g, off, rfl, hg, hc⟩ := HB.out (k + i) (by omega)
          rw [← HBW.out.cell (p := ⟨g, off + (k + i), none⟩) hg] at hc
          have t2 : decide ((18014398509481984 : Int) < ((leV (b.drop (i + 1)) : Nat) : Int)) = false := decide_eq_false (by omega)
          have hbi : L[k + i]'(by omega) = b[i] := (HBI.out i hib).symm
          rw [hbi] at hc
          have hb256 := b[i].toNat_lt
          generalize leV (b.drop (i + 1)) = V at *
          generalize b[i] = u at *
          go_wp2_with fail
          refine wp_canon (by kernel_rfl) (by kernel_rfl) ?_
          go_wp2
          refine ⟨rfl, ?_⟩
          go_wp2
          go_roundw
          case rel => exact ⟨i, by omega, by go_num, by rw [HDR.out]; go_num, by rw [HDR.out]; omega, HBW.out.drew, HPW.out.trans HP.out.symm⟩
          case measure => simp [intOf]

theorem bcells_snoc (b : List UInt8) (i : Nat) (h : i < b.length) : bcells (b.take (i + 1)) = bcells (b.take i) ++ [.int .u8 b[i].toNat] := by
  rw [List.take_succ_eq_append_getElem h, bcells_append, bcells_one]

set_option maxRecDepth 100000 in
set_option maxHeartbeats 2000000 in
theorem ctake_walk (W0 : World) (p : Nat) (l : List UInt8) (ok : Bool) (n : Nat) (hn : n < 4611686018427388160) (w : World) (h : CurAt W0 w p l ok) :
    Calls Tryd.prog 43 #[.pointer (some ⟨p, 0, none⟩), .int .i64 n] w fun e w' => ∃ v, e = .returned v ∧ Own w' w.heap.size 5 v (takeS n l ok).1.length (bcells (takeS n l ok).1) ∧ CurAt W0 w' p (takeS n l ok).2.1 (takeS n l ok).2.2 ∧ Out p w.heap.size w w' := by
  obtain ⟨i0, hi, hz0, hz1, hz2⟩ := info_parts info5
  obtain ⟨a, c, L, k, hp, hb0, hk, rfl, hL, hWp, hW⟩ := h
  have hb := hb0.below hW
  have HP := Lib.hid hp
  have HB := Lib.hid hb
  have HB0 := Lib.hid hb0
  have HW := Lib.hid hW
  have c0 := cell_whole hp 0
  have c1 := cell_whole hp 1
  have c2 := cell_whole hp 2
  have f1 := frozen_whole hp 1
  have f2 := frozen_whole hp 2
  simp only [List.getElem?_toArray, List.getElem?_cons_zero, List.getElem?_cons_succ] at c0 c1 c2
  have hlt := lt_whole hp
  clear hp hb hb0 hW
  by_cases hgt : L.length - k < n
  · have hS : takeS n (L.drop k) ok = ([], L.drop k, false) := takeS_none (by unfold takeB; rw [if_neg (by rw [List.length_drop]; omega)])
    rw [hS]
    clear hS
    have t1 : decide (((L.length : Int) - (k : Int)) < (n : Int)) = true := decide_eq_true (by omega)
    go_enter Tryd.func43, Tryd.ntmps43
    go_wp2_with fail
    refine wp_canon (by kernel_rfl) (by kernel_rfl) ?_
    go_wp2
    refine ⟨rfl, ?_⟩
    go_wp2
    go_ret
    have HO : Out p w.heap.size w (w.drew.setCell ⟨p, 2, none⟩ (.bool false)) := ((Out.refl p w.heap.size w).drew).setCell _ _ (.inl rfl)
    exact ⟨_, rfl, Own.nil _ _ _, ⟨a, c, L, k, (by show (w.setCell ⟨p, 2, none⟩ (.bool false)).heap[p]? = _; rw [set_whole (i := 2) HP.out]; rfl), HB0.out, hk, rfl, hL, hWp, HW.out.drew.setCell hWp _⟩, HO⟩
  · obtain ⟨b, hbe⟩ : ∃ b, b = (L.drop k).take n := ⟨_, rfl⟩
    have hbl : b.length = n := by rw [hbe, List.length_take, List.length_drop]; omega
    have HBI := Lib.hid (show ∀ i (h : i < b.length), b[i] = L[k + i]'(by rw [hbl] at h; omega) from fun i hi => by subst hbe; rw [List.getElem_take, List.getElem_drop])
    have hS : takeS n (L.drop k) ok = (b, L.drop (k + n), ok) := takeS_some (x := (b, L.drop (k + n))) (by
      unfold takeB
      rw [if_pos (by rw [List.length_drop]; omega), ← hbe, List.drop_drop])
    rw [hS]
    clear hbe hS
    have t1 : decide (((L.length : Int) - (k : Int)) < (n : Int)) = false := decide_eq_false (by omega)
    go_enter Tryd.func43, Tryd.ntmps43
    go_wp2_with fail
    refine wp_canon (by kernel_rfl) (by kernel_rfl) ?_
    go_wp2
    refine ⟨rfl, ?_⟩
    go_wp2_with fail
    go_loopw [5, 6] (fun v5 v6 wr => ∃ i : Nat, i ≤ n ∧ v6 = .int .i64 i ∧ Own wr w.heap.size 5 v5 (b.take i).length (bcells (b.take i)) ∧ Below w.heap.size w wr) (fun _ v6 _ => n - (intOf v6).toNat)
    case atStart => exact ⟨0, Nat.zero_le _, rfl, by simpa [bcells] using Own.nil _ _ _, (Below.refl _ _).drew⟩
    case round =>
      obtain ⟨i, hi2, rfl, ho, hbw⟩ := hrel
      have HO := Lib.hid ho
      have HBW := Lib.hid hbw
      have HPW := Lib.hid ((hbw.block p hlt).trans HP.out)
      have c0 := cell_whole HPW.out 0
      have c1 := cell_whole HPW.out 1
      have c2 := cell_whole HPW.out 2
      have f1 := frozen_whole HPW.out 1
      have f2 := frozen_whole HPW.out 2
      simp only [List.getElem?_toArray, List.getElem?_cons_zero, List.getElem?_cons_succ] at c0 c1 c2
      have hsr : w.heap.size ≤ wr.heap.size := hbw.size
      clear ho hbw
      by_cases hin : i < n
      · have hib : i < b.length := by omega
        obtain ⟨g, off, rfl, hg, hc⟩ := HB.out (k + i) (by omega)
        rw [← HBW.out.cell (p := ⟨g, off + (k + i), none⟩) hg] at hc
        have hbi : L[k + i]'(by omega) = b[i] := (HBI.out i hib).symm
        rw [hbi] at hc
        have HSN := Lib.hid (bcells_snoc b i hib)
        have hli : (b.take i).length = i := by rw [List.length_take]; omega
        rw [hli] at HO
        generalize b[i] = u at *
        go_wp2_with fail
        refine wp_canon (by kernel_rfl) (by kernel_rfl) ?_
        go_wp2_with (at_builtin; refine wpList_append_own _ rfl _ _ 24 rfl w.heap.size 5 i0 (.int .u8 0) 1 1 Tryd.underlying24 hi hz0 hz1 hz2 rfl (by decide) _ i _ rfl (HO.out.alloc _) ⟨wr.heap.size, 0, none⟩ 1 1 [_] rfl rfl (new_one _ _ _ _ rfl) (one_cell rfl) (by unfold maxLen; omega) (by omega) (le_alloc hsr _) ?_)
        intro v3 w3 h3 hg3 _
        have HO3 : Hid (Own w3 w.heap.size 5 v3 (b.take (i + 1)).length (bcells (b.take (i + 1)))) := by
          rw [HSN.out, List.length_take, Nat.min_eq_left (by omega)]
          exact Lib.hid h3
        have HB3 := Lib.hid ((HBW.out.alloc hsr _).drew.grown hg3 (le_drew (le_alloc hsr _)) (fun j hj => (HO.out.block hj).1))
        clear h3 hg3
        go_wp2
        refine ⟨rfl, ?_⟩
        go_wp2
        go_roundw
        case rel => exact ⟨i + 1, by omega, by go_num, HO3.out, HB3.out⟩
        case measure => simp [intOf]; omega
      · obtain rfl : i = n := by omega
        rw [List.take_of_length_le (by omega)] at HO
        obtain ⟨va, vc, rfl⟩ := HO.out.form
        go_wp2
        go_ret
        have HO2 : Out p w.heap.size w (wr.setCell ⟨p, 1, none⟩ (.int .i64 ((k : Int) + (i : Int)))) := (Out.of_below HBW.out).setCell _ _ (.inl rfl)
        exact ⟨_, rfl, HO.out.setCell hlt, ⟨a, c, L, k + i, (by rw [set_whole (i := 1) HPW.out]; rfl), HB0.out, by omega, rfl, hL, hWp, (HW.out.trans (HBW.out.mono HW.out.size)).setCell hWp _⟩, HO2⟩
end Go.Proofs.YtenpihkfghfpaaaDoor
