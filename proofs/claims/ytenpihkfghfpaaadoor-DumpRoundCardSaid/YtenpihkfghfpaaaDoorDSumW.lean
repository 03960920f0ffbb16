/- The checksum: the reference's, bit by bit; the codec's, by its table. -/
import Derived.Test.YtenpihkfghfpaaaDoorDBase
import Derived.Deep.WholeRow
namespace Go.Proofs.YtenpihkfghfpaaaDoor
open Go.RowKit Vl
set_option linter.unusedVariables false

theorem wrap_i64 {n : Nat} (h : n < 4294967296) : IntKind.wrap .i64 (n : Int) = (n : Int) := by
  have e : (n : Int) % (2 ^ 64 : Int) = n := by omega
  show (if (true && decide ((n : Int) % (2 ^ 64 : Int) ≥ (2 ^ 63 : Int))) = true then (n : Int) % (2 ^ 64 : Int) - (2 ^ 64 : Int) else (n : Int) % (2 ^ 64 : Int)) = n
  rw [e, if_neg (by simp; omega)]
theorem wrap_u32 {n : Nat} (h : n < 4294967296) : IntKind.wrap .u32 (n : Int) = (n : Int) := by
  have e : (n : Int) % (2 ^ 32 : Int) = n := by omega
  show (if (false && decide ((n : Int) % (2 ^ 32 : Int) ≥ (2 ^ 31 : Int))) = true then (n : Int) % (2 ^ 32 : Int) - (2 ^ 32 : Int) else (n : Int) % (2 ^ 32 : Int)) = n
  rw [e, if_neg (by simp)]
theorem xor_i64 {a b : Nat} (ha : a < 4294967296) (hb : b < 4294967296) : bits .xor .i64 (a : Int) (b : Int) = ((a ^^^ b : Nat) : Int) := by
  have h : a ^^^ b < 4294967296 := Nat.xor_lt_two_pow (n := 32) ha hb
  show IntKind.wrap .i64 (((BitVec.ofInt 64 (a : Int) ^^^ BitVec.ofInt 64 (b : Int)).toNat : Nat) : Int) = _
  have e : (BitVec.ofInt 64 (a : Int) ^^^ BitVec.ofInt 64 (b : Int)).toNat = a ^^^ b := by
    rw [BitVec.toNat_xor, BitVec.ofInt_natCast, BitVec.ofInt_natCast, BitVec.toNat_ofNat, BitVec.toNat_ofNat, Nat.mod_eq_of_lt (by omega), Nat.mod_eq_of_lt (by omega)]
  rw [e, wrap_i64 h]
theorem xor_u32 {a b : Nat} (ha : a < 4294967296) (hb : b < 4294967296) : bits .xor .u32 (a : Int) (b : Int) = ((a ^^^ b : Nat) : Int) := by
  have h : a ^^^ b < 4294967296 := Nat.xor_lt_two_pow (n := 32) ha hb
  show IntKind.wrap .u32 (((BitVec.ofInt 32 (a : Int) ^^^ BitVec.ofInt 32 (b : Int)).toNat : Nat) : Int) = _
  have e : (BitVec.ofInt 32 (a : Int) ^^^ BitVec.ofInt 32 (b : Int)).toNat = a ^^^ b := by
    rw [BitVec.toNat_xor, BitVec.ofInt_natCast, BitVec.ofInt_natCast, BitVec.toNat_ofNat, BitVec.toNat_ofNat, Nat.mod_eq_of_lt (by omega), Nat.mod_eq_of_lt (by omega)]
  rw [e, wrap_u32 h]
theorem and_u32 {a : Nat} (ha : a < 4294967296) : bits .and .u32 (a : Int) 15 = ((a % 16 : Nat) : Int) := by
  show IntKind.wrap .u32 (((BitVec.ofInt 32 (a : Int) &&& BitVec.ofInt 32 ((15 : Nat) : Int)).toNat : Nat) : Int) = _
  have e : (BitVec.ofInt 32 (a : Int) &&& BitVec.ofInt 32 ((15 : Nat) : Int)).toNat = a % 16 := by
    rw [BitVec.toNat_and, BitVec.ofInt_natCast, BitVec.ofInt_natCast, BitVec.toNat_ofNat, BitVec.toNat_ofNat, Nat.mod_eq_of_lt (by omega)]
    show a &&& (2 ^ 4 - 1) = a % 2 ^ 4
    exact Nat.and_two_pow_sub_one_eq_mod a 4
  rw [e, wrap_u32 (by omega)]

def bitRun (r : Nat) : Nat → Nat
  | 0 => r
  | j + 1 => crcBit (bitRun r j)
theorem bitRun_lt {r : Nat} (h : r < 4294967296) (j : Nat) : bitRun r j < 4294967296 := by
  induction j with
  | zero => exact h
  | succ j ih => exact crcBit_lt ih
theorem bitRun_eight (r : Nat) : bitRun r 8 = crcByte r := rfl
theorem crcRun_next (r : Nat) (l : List UInt8) (k : Nat) (h : k < l.length) : crcRun r (l.take (k + 1)) = crcByte (crcRun r (l.take k) ^^^ l[k].toNat) := by
  rw [List.take_succ_eq_append_getElem h, crcRun_append]; rfl

set_option maxRecDepth 100000 in
set_option maxHeartbeats 1000000 in
theorem refSum_walk (l : List UInt8) (a : Option Addr) (c : Nat) (w : World) (h : BytesAt w a l) (hl : l.length ≤ 140737488351232) :
    Calls Tryd.prog 24 #[.slice a l.length c] w fun e w' => e = .returned (.int .i64 (crcOf l)) ∧ w' = w := by
  have H := Lib.hid h
  clear h
  go_enter Tryd.func24, Tryd.ntmps24
  go_wp2
  go_loopw [3, 4] (fun v3 v4 wr => ∃ k : Nat, k ≤ l.length ∧ v4 = .int .i64 k ∧ v3 = .int .i64 (crcRun crcOnes (l.take k)) ∧ wr = w) (fun _ v4 _ => l.length - (intOf v4).toNat)
  case atStart => exact ⟨0, by omega, rfl, rfl, rfl⟩
  case round =>
    obtain ⟨k, hk, rfl, rfl, rfl⟩ := hrel
    have hlt32 := crcRun_lt (r := crcOnes) (by decide) (l.take k)
    by_cases hlt : k < l.length
    · obtain ⟨g, off, rfl, _, hc⟩ := H.out k hlt
      have HNX := Lib.hid (crcRun_next crcOnes l k hlt)
      have hb := l[k].toNat_lt
      have hx := xor_i64 hlt32 (show l[k].toNat < 4294967296 by omega)
      have hx32 : crcRun crcOnes (l.take k) ^^^ l[k].toNat < 4294967296 := Nat.xor_lt_two_pow (n := 32) hlt32 (by omega)
      have HX32 := Lib.hid hx32
      clear hlt32 hx32
      generalize crcRun crcOnes (l.take k) = r at *
      generalize hz : l[k].toNat = z at *
      generalize hq : r ^^^ z = q at *
      clear hq hz
      go_wp2
      go_loopw [3, 5] (fun v3 v5 wr2 => ∃ j : Nat, j ≤ 8 ∧ v5 = .int .i64 j ∧ v3 = .int .i64 (bitRun q j) ∧ wr2 = wr) (fun _ v5 _ => 8 - (intOf v5).toNat)
      case atStart => exact ⟨0, by omega, rfl, rfl, rfl⟩
      case round =>
        obtain ⟨j, hj, rfl, rfl, rfl⟩ := hrel
        by_cases hj8 : j < 8
        · have hb32 := bitRun_lt HX32.out j
          have HB := Lib.hid (show bitRun q (j + 1) = crcBit (bitRun q j) from rfl)
          generalize bitRun q j = b at *
          by_cases hodd : b % 2 = 1
          · have HC := Lib.hid (show crcBit b = b / 2 ^^^ crcP by unfold crcBit; rw [if_pos hodd])
            have hx2 := xor_i64 (a := b / 2) (b := 2197175160) (by omega) (by decide)
            have hdv : ((b / 2 : Nat) : Int) = (b : Int) / 2 := by omega
            rw [hdv] at hx2
            have HX := Lib.hid hx2
            clear hx2 hdv
            go_wp2
            go_roundw
            case rel => exact ⟨j + 1, by omega, by go_num, by rw [HB.out, HC.out]; exact congrArg (Value.int .i64) HX.out, trivial⟩
            case measure => simp [intOf]; omega
          · have HC := Lib.hid (show crcBit b = b / 2 by unfold crcBit; rw [if_neg hodd])
            go_wp2
            go_roundw
            case rel => exact ⟨j + 1, by omega, by go_num, by rw [HB.out, HC.out]; exact congrArg (Value.int .i64) (by omega), trivial⟩
            case measure => simp [intOf]; omega
        · obtain rfl : j = 8 := by omega
          clear hj8
          rw [bitRun_eight]
          have HR := HNX
          generalize crcByte q = y at *
          go_wp2
          go_roundw
          case rel => exact ⟨k + 1, by omega, by go_num, by rw [HR.out], trivial⟩
          case measure => simp [intOf]; omega
    · obtain rfl : k = l.length := by omega
      rw [List.take_length] at hlt32 ⊢
      have hx := xor_i64 (a := crcRun crcOnes l) (b := 4294967295) hlt32 (by decide)
      have HX := Lib.hid hx
      clear hx
      go_wp2
      go_ret
      exact ⟨congrArg Ending.returned (congrArg (Value.int .i64) HX.out), rfl⟩

theorem crcTab_lt : ∀ t, t < 16 → crcTab.getD t 0 < 4294967296 := by decide

def tabCells : Array Value := #[.int .u32 0, .int .u32 274646895, .int .u32 549293790, .int .u32 820201905, .int .u32 1098587580, .int .u32 1361435347, .int .u32 1640403810, .int .u32 1905808397, .int .u32 2197175160, .int .u32 2460548119, .int .u32 2722870694, .int .u32 2987750089, .int .u32 3280807620, .int .u32 3553878443, .int .u32 3811616794, .int .u32 4084100981]
theorem tabCells_at : ∀ t, t < 16 → tabCells[t]? = some (.int .u32 (crcTab.getD t 0 : Nat)) := by
  intro t ht
  rcases (show t = 0 ∨ t = 1 ∨ t = 2 ∨ t = 3 ∨ t = 4 ∨ t = 5 ∨ t = 6 ∨ t = 7 ∨ t = 8 ∨ t = 9 ∨ t = 10 ∨ t = 11 ∨ t = 12 ∨ t = 13 ∨ t = 14 ∨ t = 15 by omega) with rfl | rfl | rfl | rfl | rfl | rfl | rfl | rfl | rfl | rfl | rfl | rfl | rfl | rfl | rfl | rfl <;> rfl
theorem halves_walk (w : World) : Calls Tryd.prog 55 #[] w fun e w' => e = .returned (.agg tabCells) ∧ w' = w.alloc (.cells tabCells 94) := by
  go_enter Tryd.func55, Tryd.ntmps55
  go_wp2
  refine bodyPost_ret (results_cell_row (P := Tryd.prog) (p := 0) (ty := 94) rfl _ _ w.heap.size 94 tabCells (0, 0) _ rfl (heap_alloc_new w _) Tryd.underlying94 rfl (by kernel_rfl)) rfl ?_
  exact ⟨rfl, rfl⟩

set_option maxRecDepth 100000 in
set_option maxHeartbeats 1000000 in
theorem codecSum_walk (l : List UInt8) (a : Option Addr) (c : Nat) (w : World) (h : BytesAt w a l) (hl : l.length ≤ 140737488351232) :
    Calls Tryd.prog 38 #[.slice a l.length c] w fun e w' => e = .returned (.int .i64 (crcOf l)) ∧ Below w.heap.size w w' := by
  have H := Lib.hid h
  clear h
  have HH := Lib.hid (halves_walk w)
  have htc : tabCells.size = 16 := rfl
  have hone : tabCells.all (·.oneCell') = true := by kernel_rfl
  have hat := tabCells_at
  generalize htab : tabCells = T at *
  have HT := Lib.hid htab
  clear htab
  have hst : (storeCells ⟨w.heap.size + 1, 0, none⟩ T.toList 0).run Tryd.prog ((w.alloc (.cells T 94)).alloc (.cells #[.int .u32 0, .int .u32 0, .int .u32 0, .int .u32 0, .int .u32 0, .int .u32 0, .int .u32 0, .int .u32 0, .int .u32 0, .int .u32 0, .int .u32 0, .int .u32 0, .int .u32 0, .int .u32 0, .int .u32 0, .int .u32 0] 94)) = .ok () ((w.alloc (.cells T 94)).alloc (.cells T 94)) := by
    have := run_storeCells_new (P := Tryd.prog) (w.alloc (.cells T 94)) 94 #[.int .u32 0, .int .u32 0, .int .u32 0, .int .u32 0, .int .u32 0, .int .u32 0, .int .u32 0, .int .u32 0, .int .u32 0, .int .u32 0, .int .u32 0, .int .u32 0, .int .u32 0, .int .u32 0, .int .u32 0, .int .u32 0] T (by rw [htc]; kernel_rfl) (by rw [htc]; rfl) hone
    simpa using this
  go_enter Tryd.func38, Tryd.ntmps38
  go_wp2_with (go_at_call 55; refine HH.out.mono ?_; rintro e w' ⟨rfl, hw9⟩; rw [hw9])
  have hcell : ∀ t, t < 16 → ((w.alloc (.cells T 94)).alloc (.cells T 94)).cell? ⟨w.heap.size + 1, t, none⟩ = some (.int .u32 (crcTab.getD t 0 : Nat)) := by
    intro t ht
    have := cell_whole (heap_alloc_new (w.alloc (.cells T 94)) (.cells T 94)) t
    rw [size_alloc] at this
    rw [this, hat t ht]
  have hbw : Below w.heap.size w ((w.alloc (.cells T 94)).alloc (.cells T 94)) := ((Below.refl _ _).alloc (Nat.le_refl _) _).alloc (le_alloc (Nat.le_refl _) _) _
  have HC := Lib.hid hcell
  have HB := Lib.hid hbw
  clear hcell hbw hst
  generalize (w.alloc (.cells T 94)).alloc (.cells T 94) = w2 at *
  go_loopw [4, 6, 10] (fun v4 _ v10 wr => ∃ k : Nat, k ≤ l.length ∧ v10 = .int .i64 k ∧ v4 = .int .u32 (crcRun crcOnes (l.take k) : Nat) ∧ wr = w2) (fun _ _ v10 _ => l.length - (intOf v10).toNat)
  case atStart => exact ⟨0, by omega, rfl, rfl, rfl⟩
  case round =>
    obtain ⟨k, hk, rfl, rfl, rfl⟩ := hrel
    have hlt32 := crcRun_lt (r := crcOnes) (by decide) (l.take k)
    by_cases hlt : k < l.length
    · obtain ⟨g, off, rfl, _, hc⟩ := (H.out.below HB.out) k hlt
      have HNX := Lib.hid (crcRun_next crcOnes l k hlt)
      have hb := l[k].toNat_lt
      have hx := xor_u32 hlt32 (show l[k].toNat < 4294967296 by omega)
      have hx32 : crcRun crcOnes (l.take k) ^^^ l[k].toNat < 4294967296 := Nat.xor_lt_two_pow (n := 32) hlt32 (by omega)
      clear hlt32
      generalize crcRun crcOnes (l.take k) = r at *
      generalize hz : l[k].toNat = z at *
      generalize hq : r ^^^ z = q at *
      have t1 := HC.out (q % 16) (by omega)
      have a1 := and_u32 hx32
      have c1 := crcTab_lt (q % 16) (by omega)
      have x1 := xor_u32 (a := q / 16) (b := crcTab.getD (q % 16) 0) (by omega) c1
      have y1 := crc4_tab q
      have y32 := crc4_lt hx32
      rw [← y1, show ((q / 16 : Nat) : Int) = (q : Int) / 16 by omega] at x1
      generalize crcTab.getD (q % 16) 0 = d1 at *
      have HBY := Lib.hid (crcByte_eq q)
      generalize crc4 q = q1 at *
      have t2 := HC.out (q1 % 16) (by omega)
      have a2 := and_u32 y32
      have c2 := crcTab_lt (q1 % 16) (by omega)
      have x2 := xor_u32 (a := q1 / 16) (b := crcTab.getD (q1 % 16) 0) (by omega) c2
      have y2 := crc4_tab q1
      rw [← y2, show ((q1 / 16 : Nat) : Int) = (q1 : Int) / 16 by omega] at x2
      generalize crcTab.getD (q1 % 16) 0 = d2 at *
      generalize crc4 q1 = q2 at *
      clear hq hz c1 y1 c2 y2
      go_wp2
      go_roundw
      case rel => exact ⟨k + 1, by omega, by go_num, by rw [HNX.out, HBY.out], trivial⟩
      case measure => simp [intOf]; omega
    · obtain rfl : k = l.length := by omega
      rw [List.take_length] at hlt32 ⊢
      have hx := xor_u32 (a := 4294967295) (b := crcRun crcOnes l) (by decide) hlt32
      have HX := Lib.hid hx
      clear hx
      go_wp2
      go_ret
      have hlt := crcOf_lt l
      have e1 : bits .xor .u32 IntKind.u32.max (crcRun crcOnes l : Nat) = ((crcOf l : Nat) : Int) := by
        have := HX.out
        rw [Nat.xor_comm] at this
        exact this
      have e2 : wrap64 (bits .xor .u32 IntKind.u32.max (crcRun crcOnes l : Nat)) = ((crcOf l : Nat) : Int) := by
        rw [e1]
        unfold wrap64; omega
      exact ⟨congrArg Ending.returned (congrArg (Value.int .i64) e2), HB.out⟩
end Go.Proofs.YtenpihkfghfpaaaDoor
