/- Bytes that came in or were made: how they stand in memory; the law's twin, same, num. -/
import Derived.Test.YtenpihkfghfpaaaDoorRows
import Derived.WalkKit
import Derived.ProofKit
import Derived.Test.YtenpihkfghfpaaaDoorCanonCall
import Derived.Test.YtenpihkfghfpaaaDoorMem
import Derived.Test.YtenpihkfghfpaaaDoorDParse
import Derived.Laws.BytesArg
namespace Go.Proofs.YtenpihkfghfpaaaDoor
open Go.RowKit Vl
set_option linter.unusedVariables false

theorem info5 : (Tryd.prog.info? 5).map (fun i => (i.zero, i.size, i.bytes)) = some (some (.int .u8 0), 1, 1) := by kernel_rfl
theorem info9 : (Tryd.prog.info? 9).map (fun i => (i.zero, i.size, i.bytes)) = some (some (.string ByteArray.empty), 1, 16) := by kernel_rfl

theorem own_kept {w w' : World} {B : Nat} {e : TypeId} {v : Value} {n : Nat} {xs : List Value} (h : Own w B e v n xs) (hb : Below w.heap.size w w') : Own w' B e v n xs :=
  h.keep fun k hk => hb.block k (h.block hk).2.1

/-- Bytes, as they can be read. -/
def BytesAt (w : World) (a : Option Addr) (l : List UInt8) : Prop :=
  ∀ i (h : i < l.length), ∃ g off, a = some ⟨g, off, none⟩ ∧ g < w.heap.size ∧ w.cell? ⟨g, off + i, none⟩ = some (.int .u8 l[i].toNat)
theorem BytesAt.below {w w' : World} {a : Option Addr} {l : List UInt8} (h : BytesAt w a l) (hb : Below w.heap.size w w') : BytesAt w' a l := by
  intro i hi
  obtain ⟨g, off, h1, h2, h3⟩ := h i hi
  exact ⟨g, off, h1, Nat.lt_of_lt_of_le h2 hb.size, by rw [hb.cell h2]; exact h3⟩
theorem BytesAt.of_own {w : World} {B : Nat} {a : Option Addr} {n c : Nat} {l : List UInt8} (h : Own w B 5 (.slice a n c) n (bcells l)) : n = l.length ∧ BytesAt w a l := by
  have hn : n = l.length := by have := h.len; rw [bcells_length] at this; exact this.symm
  subst hn
  refine ⟨rfl, fun i hi => ?_⟩
  cases a with
  | none => exact absurd (h.nil_of_none rfl).2.2 (by omega)
  | some ad =>
    obtain ⟨g, off, sp⟩ := ad
    have hb := (h.block rfl).2.1
    obtain ⟨rfl, rfl, _, hc⟩ := h.cells rfl
    refine ⟨g, 0, rfl, hb, ?_⟩
    rw [Nat.zero_add, hc i hi]
    unfold bcells
    rw [List.getElem?_map, List.getElem?_eq_getElem hi]; rfl

theorem num_walk (n : Int) (w : World) : Calls Tryd.prog 10 #[.int .i64 n] w fun e w' => e = .returned (.int .i64 n) ∧ w' = w := by
  go_enter Tryd.func10, Tryd.ntmps10
  go_wp2
  go_ret
  exact ⟨rfl, rfl⟩

set_option maxRecDepth 100000 in
set_option maxHeartbeats 1000000 in
theorem twin_walk (l : List UInt8) (a : Option Addr) (c : Nat) (w : World) (h : BytesAt w a l) (hl : l.length ≤ 140737488351232) :
    Calls Tryd.prog 16 #[.slice a l.length c] w fun e w' => ∃ v, e = .returned v ∧ Own w' w.heap.size 5 v l.length (bcells l) ∧ Below w.heap.size w w' := by
  obtain ⟨i0, hi, hz0, hz1, hz2⟩ := info_parts info5
  have H := Lib.hid h
  clear h
  go_enter Tryd.func16, Tryd.ntmps16
  go_wp2
  go_loopw [3, 4] (fun v3 v4 wr => ∃ k : Nat, k ≤ l.length ∧ v4 = .int .i64 k ∧ Own wr w.heap.size 5 v3 k (bcells (l.take k)) ∧ Below w.heap.size w wr) (fun _ v4 _ => l.length - (intOf v4).toNat)
  case atStart => exact ⟨0, by omega, rfl, Own.nil _ _ _, Below.refl _ _⟩
  case round =>
    obtain ⟨k, hk, rfl, hO, hB⟩ := hrel
    have HO := Lib.hid hO
    have HB := Lib.hid hB
    clear hO hB
    by_cases hlt : k < l.length
    · obtain ⟨g, off, rfl, hg, hc⟩ := (H.out.below HB.out) k hlt
      have HT := Lib.hid (List.take_succ_eq_append_getElem hlt)
      go_wp2_with (at_builtin; refine wpList_append_own _ rfl _ _ 24 rfl w.heap.size 5 i0 (.int .u8 0) 1 1 Tryd.underlying24 hi hz0 hz1 hz2 rfl (by decide) _ k _ rfl (HO.out.alloc _) ⟨wr.heap.size, 0, none⟩ 1 1 [_] rfl rfl (new_one _ _ _ _ rfl) (one_cell rfl) (by unfold maxLen; omega) (by omega) (le_alloc HB.out.size _) ?_)
      intro v1 w1 h1 hg1 _
      have HO1 := Lib.hid h1
      have HB1 := Lib.hid ((HB.out.alloc HB.out.size _).grown hg1 (le_alloc HB.out.size _) (fun j hj => (HO.out.block hj).1))
      clear h1 hg1
      go_wp2
      go_roundw
      case rel =>
        refine ⟨k + 1, by omega, by go_num, ?_, HB1.out⟩
        rw [HT.out, bcells_append]
        exact HO1.out
      case measure => simp [intOf]; omega
    · obtain rfl : k = l.length := by omega
      rw [List.take_length] at HO
      go_wp2
      go_ret
      exact ⟨_, rfl, HO.out, HB.out⟩

set_option maxRecDepth 100000 in
set_option maxHeartbeats 1000000 in
theorem same_walk (l m : List UInt8) (a b : Option Addr) (c d : Nat) (w : World) (ha : BytesAt w a l) (hb : BytesAt w b m) (hl : l.length ≤ 140737488351232) (hm : m.length ≤ 140737488351232) :
    Calls Tryd.prog 9 #[.slice a l.length c, .slice b m.length d] w fun e w' => e = .returned (.bool (decide (l = m))) ∧ Below w.heap.size w w' := by
  have HA := Lib.hid ha
  have HB := Lib.hid hb
  clear ha hb
  by_cases hlm : l.length = m.length
  · have n1 : (((l.length : Int)) != (m.length : Int)) = false := by simp; omega
    go_enter Tryd.func9, Tryd.ntmps9
    go_wp2
    go_loopw [5] (fun i wr => ∃ k : Nat, k ≤ l.length ∧ i = .int .i64 k ∧ l.take k = m.take k ∧ Below w.heap.size w wr) (fun i _ => l.length - (intOf i).toNat)
    case atStart => exact ⟨0, by omega, rfl, rfl, Below.refl _ _⟩
    case round =>
      obtain ⟨k, hk, rfl, ht, hbw⟩ := hrel
      have HT := Lib.hid ht
      have HBW := Lib.hid hbw
      clear ht hbw
      by_cases hlt : k < l.length
      · obtain ⟨ga, oa, rfl, _, hca⟩ := (HA.out.below HBW.out) k hlt
        obtain ⟨gb, ob, rfl, _, hcb⟩ := (HB.out.below HBW.out) k (show k < m.length by omega)
        by_cases he : l[k] = m[k]'(by omega)
        · rw [he] at hca
          have HE := Lib.hid he
          clear he
          generalize hsv : (((m[k]'(by omega)).toNat : Nat) : Int) = sv at *
          go_wp2
          refine wp_canon (by kernel_rfl) (by kernel_rfl) ?_
          go_wp2
          refine ⟨rfl, ?_⟩
          go_wp2
          go_roundw
          case rel =>
            refine ⟨k + 1, by omega, by go_num, ?_, HBW.out.drew⟩
            rw [List.take_succ_eq_append_getElem hlt, List.take_succ_eq_append_getElem (show k < m.length by omega), HT.out, HE.out]
          case measure => simp [intOf]; omega
        · have hne : (((l[k].toNat : Nat) : Int) != (((m[k]'(by omega)).toNat : Nat) : Int)) = true := by
            simp only [bne_iff_ne, ne_eq]
            exact fun e => he (UInt8.toNat_inj.1 (by omega))
          have hF : decide (l = m) = false := decide_eq_false fun e => by subst e; exact he rfl
          have HF := Lib.hid hF
          clear hF he
          generalize hsv : (((m[k]'(by omega)).toNat : Nat) : Int) = sv at *
          generalize hsu : ((l[k].toNat : Nat) : Int) = su at *
          go_wp2
          refine wp_canon (by kernel_rfl) (by kernel_rfl) ?_
          go_wp2
          refine ⟨rfl, ?_⟩
          go_wp2
          go_ret
          exact ⟨by rw [HF.out]; rfl, HBW.out.drew⟩
      · obtain rfl : k = l.length := by omega
        have hxy : l = m := by
          have := HT.out
          rw [List.take_length, hlm, List.take_length] at this
          exact this
        have HF := Lib.hid (show decide (l = m) = true from decide_eq_true hxy)
        clear hxy
        go_wp2
        go_ret
        exact ⟨by rw [HF.out]; rfl, HBW.out⟩
  · have n1 : (((l.length : Int)) != (m.length : Int)) = true := by simp; omega
    have hF : decide (l = m) = false := decide_eq_false fun e => hlm (by rw [e])
    have HF := Lib.hid hF
    clear hF
    go_enter Tryd.func9, Tryd.ntmps9
    go_wp2
    go_ret
    exact ⟨by rw [HF.out]; rfl, Below.refl _ _⟩
end Go.Proofs.YtenpihkfghfpaaaDoor
