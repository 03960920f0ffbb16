/- codec's writer. -/
import Derived.Test.YtikfphojehgpjaaGreatDoorM06
import Derived.Deep.RegionWith
import Derived.Deep.CutRange
import Derived.Deep.CutBlock
import Derived.Deep.LoopGhost
set_option linter.unusedSimpArgs false
set_option linter.unusedVariables false
namespace Go.Proofs.YtikfphojehgpjaaGreatDoor
open Go.RowKit Vl
set_option linter.unusedVariables false

/-- A writer, and its bytes. -/
structure WrAt (w : World) (p g : Nat) (l : List UInt8) (place : Nat) : Prop where
  blk : w.heap[p]? = some (.cells #[.slice (some ⟨g, 0, none⟩) l.length l.length, .int .i64 place] 168 (0, 0))
  bytes : Bytes w g l
  ne : g ≠ p
theorem WrAt.set {w : World} {p g : Nat} {l : List UInt8} {place : Nat} (h : WrAt w p g l place) (i : Nat) (c : UInt8) : WrAt (w.setCell ⟨g, i, none⟩ (.int .u8 c.toNat)) p g (l.set i c) place :=
  ⟨by rw [List.length_set]; exact set_other h.blk h.ne, h.bytes.set i c, h.ne⟩
theorem WrAt.drew {w : World} {p g : Nat} {l : List UInt8} {place : Nat} (h : WrAt w p g l place) : WrAt w.drew p g l place := ⟨h.blk, h.bytes, h.ne⟩
theorem leB_snoc (V n : Nat) : leB V (n + 1) = leB V n ++ [UInt8.ofNat (V / 256 ^ n % 256)] := by
  induction n generalizing V with
  | zero => simp [leB]
  | succ n ih =>
    rw [leB, ih (V / 256)]
    simp only [leB, List.cons_append]
    rw [Nat.div_div_eq_div_mul, Nat.pow_succ, Nat.mul_comm 256]
theorem byte_shr (V j : Nat) : ((UInt8.ofNat (V / 256 ^ j % 256)).toNat : Int) = (V : Int) / 2 ^ (8 * j) % 256 := by
  rw [UInt8.toNat_ofNat', show (256 : Nat) ^ j = 2 ^ (8 * j) by rw [Nat.pow_mul]]
  have e : (V : Int) / 2 ^ (8 * j) = ((V / 2 ^ (8 * j) : Nat) : Int) := by push_cast; rfl
  rw [e]; omega

set_option maxRecDepth 100000 in
set_option maxHeartbeats 2000000 in
theorem wnum_walk (p g : Nat) (l : List UInt8) (place V n : Nat) (w : World) (h : WrAt w p g l place) (hV : V < 4611686018427387904) (hn : n ≤ 8) (hpl : place + n ≤ l.length) (hl : l.length ≤ 1000000000) :
    Calls Tryz.prog 79 #[.pointer (some ⟨p, 0, none⟩), .int .i64 n, .int .i64 V] w fun e w' => e = .returned (.tuple #[]) ∧ WrAt w' p g (over l place (leB V n)) (place + n) ∧ Kept [p, g] w w' := by
  have H := Lib.hid h
  have hlt := lt_whole h.blk
  have hlg := lt_whole h.bytes
  clear h
  go_enter Tryz.func79, Tryz.ntmps79
  go_wp2_with fail
  go_loopw [8] (fun v8 wr => ∃ j : Nat, j ≤ n ∧ v8 = .int .i64 j ∧ WrAt wr p g (over l place (leB V j)) place ∧ Kept [p, g] w wr) (fun v8 _ => n - (intOf v8).toNat)
  case atStart => exact ⟨0, Nat.zero_le _, rfl, by rw [leB, over_nil]; exact H.out, Kept.refl _ _⟩
  case round =>
    obtain ⟨j, hj, rfl, hw, hk⟩ := hrel
    obtain ⟨m, hm⟩ : ∃ m, m = over l place (leB V j) := ⟨_, rfl⟩
    have hol : m.length = l.length := by rw [hm]; exact over_length (by rw [leB_length]; omega)
    rw [← hm] at hw
    have HM := Lib.hid hm
    clear hm
    have HW := Lib.hid hw
    have HK := Lib.hid hk
    have c0 := cell_whole hw.blk 0
    have c1 := cell_whole hw.blk 1
    have f1 := frozen_whole hw.blk 1
    simp only [List.getElem?_toArray, List.getElem?_cons_succ, List.getElem?_cons_zero] at c0 c1
    have HOL := Lib.hid hol
    have hpm : place + n ≤ m.length := by omega
    have hml : m.length ≤ 1000000000 := by omega
    clear hw hk hol
    by_cases hjn : j < n
    · have HSN := Lib.hid (show m.set (place + j) (UInt8.ofNat (V / 256 ^ j % 256)) = over l place (leB V (j + 1)) by
        rw [HM.out, leB_snoc]
        have := over_snoc (l := l) (m := leB V j) (at_ := place) (UInt8.ofNat (V / 256 ^ j % 256)) (by rw [leB_length]; have := HOL.out; omega)
        rwa [leB_length] at this)
      have HBY := Lib.hid (byte_shr V j)
      have fz := HW.out.bytes.frozen (place + j)
      have cz := HW.out.bytes.cell (show place + j < m.length by omega)
      have HW2 := Lib.hid ((HW.out.set (place + j) (UInt8.ofNat (V / 256 ^ j % 256))))
      rw [HBY.out] at HW2
      have HK2 := Lib.hid (HK.out.setCell ⟨g, place + j, none⟩ (.int .u8 ((V : Int) / 2 ^ (8 * j) % 256)) (.inl (by simp)))
      go_wp2_with fail
      refine wp_canon (by kernel_rfl) (by kernel_rfl) ?_
      go_wp2
      refine ⟨rfl, ?_⟩
      go_wp2
      go_roundw
      case rel => exact ⟨j + 1, by omega, by go_num, by rw [← HSN.out]; exact HW2.out.drew, HK2.out.drew⟩
      case measure => simp [intOf]; omega
    · obtain rfl : j = n := by omega
      have HWE := Lib.hid (show WrAt (wr.setCell ⟨p, 1, none⟩ (.int .i64 ((place : Int) + (j : Int)))) p g m (place + j) from
        ⟨by rw [set_whole (i := 1) HW.out.blk]; rfl, set_other HW.out.bytes (Ne.symm HW.out.ne), HW.out.ne⟩)
      go_wp2
      go_end0
      exact ⟨rfl, by rw [← HM.out]; exact HWE.out, HK.out.setCell _ _ (.inl (by simp))⟩

/-- The last four bytes turned into the sum of those ahead of them. -/
def sealedB (l : List UInt8) : List UInt8 := over l (l.length - 4) (leB (crcOf (l.take (l.length - 4))) 4)
theorem sealedB_length {l : List UInt8} (h : 4 ≤ l.length) : (sealedB l).length = l.length := over_length (by rw [leB_length]; omega)

set_option maxRecDepth 100000 in
set_option maxHeartbeats 2000000 in
theorem sealed_walk (p g : Nat) (l : List UInt8) (place : Nat) (w : World) (h : WrAt w p g l place) (h4 : 4 ≤ l.length) (hl : l.length ≤ 1000000000) :
    Calls Tryz.prog 80 #[.pointer (some ⟨p, 0, none⟩)] w fun e w' => e = .returned (.slice (some ⟨g, 0, none⟩) l.length l.length) ∧ WrAt w' p g (sealedB l) l.length ∧ Kept [p, g] w w' := by
  have H := Lib.hid h
  have hlt := lt_whole h.blk
  have hlg := lt_whole h.bytes
  have f1 := frozen_whole h.blk 1
  have c0 := cell_whole h.blk 0
  have c1 := cell_whole h.blk 1
  simp only [List.getElem?_toArray, List.getElem?_cons_succ, List.getElem?_cons_zero] at c0 c1
  clear h
  go_enter Tryz.func80, Tryz.ntmps80
  go_upto_region 2 with fail
  have HW1 := Lib.hid (show WrAt (w.setCell ⟨p, 1, none⟩ (.int .i64 ((l.length : Int) - 4))) p g l (l.length - 4) from
    ⟨by rw [set_whole (i := 1) H.out.blk]; congr 3; simp; omega, set_other H.out.bytes (Ne.symm H.out.ne), H.out.ne⟩)
  have HK1 := Lib.hid ((Kept.refl [p, g] w).setCell ⟨p, 1, none⟩ (.int .i64 ((l.length : Int) - 4)) (.inl (by simp)))
  clear c0 c1 f1
  generalize w.setCell ⟨p, 1, none⟩ (.int .i64 ((l.length : Int) - 4)) = w1 at *
  have c0 := cell_whole HW1.out.blk 0
  have c1 := cell_whole HW1.out.blk 1
  simp only [List.getElem?_toArray, List.getElem?_cons_succ, List.getElem?_cons_zero] at c0 c1
  have hll : (l.take (l.length - 4)).length = l.length - 4 := by rw [List.length_take]; omega
  have HS := Lib.hid (codecSum_walk (l.take (l.length - 4)) (some ⟨g, 0, none⟩) l.length w1.drew (fun i hi => by
    have := HW1.out.drew.bytes.at i (by omega)
    obtain ⟨g', off, e, h2, h3⟩ := this
    exact ⟨g', off, e, h2, by rw [List.getElem_take]; exact h3⟩) (by omega))
  rw [hll] at HS
  have hs32 := crcOf_lt (l.take (l.length - 4))
  have HSE := Lib.hid (show sealedB l = over l (l.length - 4) (leB (crcOf (l.take (l.length - 4))) 4) from rfl)
  clear hll
  generalize crcOf (l.take (l.length - 4)) = s at *
  refine wp_canon (by kernel_rfl) (by kernel_rfl) ?_
  go_wp2_with fail
  refine HS.out.mono ?_
  rintro e w3 ⟨rfl, hb3⟩
  have HW3 := Lib.hid (show WrAt w3 p g l (l.length - 4) from ⟨(hb3.block p (lt_whole HW1.out.drew.blk)).trans HW1.out.drew.blk, (hb3.block g (lt_whole HW1.out.drew.bytes)).trans HW1.out.drew.bytes, HW1.out.ne⟩)
  have HK3 := Lib.hid (HK1.out.drew.trans (G := []) (Kept.of_below hb3) (by simp))
  clear hb3 HS c0 c1
  have HN := Lib.hid (wnum_walk p g l (l.length - 4) s 4 w3 HW3.out (by omega) (by omega) (by omega) hl)
  go_wp2_with fail
  refine HN.out.mono ?_
  rintro e w4 ⟨rfl, hw4, hk4⟩
  rw [← HSE.out, show l.length - 4 + 4 = l.length by omega] at hw4
  have HW4 := Lib.hid hw4
  have HK4 := Lib.hid (HK3.out.trans hk4 (by simp))
  have c0 := cell_whole hw4.blk 0
  simp only [List.getElem?_toArray, List.getElem?_cons_zero] at c0
  have HSL := Lib.hid (sealedB_length h4)
  rw [HSL.out] at c0
  clear hw4 hk4 HN
  go_wp2
  refine ⟨rfl, ?_⟩
  go_wp2
  go_ret
  exact ⟨rfl, HW4.out, HK4.out⟩
end Go.Proofs.YtikfphojehgpjaaGreatDoor
