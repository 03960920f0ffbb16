/- The checksum: the reference's, bit by bit; the codec's, by its table. -/
import Derived.Test.YtikfphojehgpjaaGreatDoorM05
import Derived.Deep.WholeRow
import Derived.Test.YtikfphojehgpjaaGreatDoorM02
set_option linter.unusedSimpArgs false
set_option linter.unusedVariables false
namespace Go.Proofs.YtikfphojehgpjaaGreatDoor
open Go.RowKit Vl
set_option linter.unusedVariables false

theorem wrap_i64 {n : Nat} (h : n < 4294967296) : IntKind.wrap .i64 (n : Int) = (n : Int) := by
  have e : (n : Int) % (2 ^ 64 : Int) = n := by omega
  show (if (true && decide ((n : Int) % (2 ^ 64 : Int) ≥ (2 ^ 63 : Int))) = true then (n : Int) % (2 ^ 64 : Int) - (2 ^ 64 : Int) else (n : Int) % (2 ^ 64 : Int)) = n
  rw [e, if_neg (by simp; omega)]
theorem wrap_u32 {n : Nat} (h : n < 4294967296) : IntKind.wrap .u32 (n : Int) = (n : Int) := by
  have e : (n : Int) % (2 ^ 32 : Int) = n := by omega
  show (if (false && decide ((n : Int) % (2 ^ 32 : Int) ≥ (2 ^ 31 : Int))) = true then (n : Int) % (2 ^ 32 : Int) - (2 ^ 32 : Int) else (n : Int) % (2 ^ 32 : Int)) = n
  rw [e, if_neg (by simp)]
theorem xor_i64 {a b : Nat} (ha : a < 4294967296) (hb : b < 4294967296) : bits .xor .i64 (a : Int) (b : Int) = ((a ^^^ b : Nat) : Int) := by
  have h : a ^^^ b < 4294967296 := Nat.xor_lt_two_pow (n := 32) ha hb
  show IntKind.wrap .i64 (((BitVec.ofInt 64 (a : Int) ^^^ BitVec.ofInt 64 (b : Int)).toNat : Nat) : Int) = _
  have e : (BitVec.ofInt 64 (a : Int) ^^^ BitVec.ofInt 64 (b : Int)).toNat = a ^^^ b := by
    rw [BitVec.toNat_xor, BitVec.ofInt_natCast, BitVec.ofInt_natCast, BitVec.toNat_ofNat, BitVec.toNat_ofNat, Nat.mod_eq_of_lt (by omega), Nat.mod_eq_of_lt (by omega)]
  rw [e, wrap_i64 h]
theorem xor_u32 {a b : Nat} (ha : a < 4294967296) (hb : b < 4294967296) : bits .xor .u32 (a : Int) (b : Int) = ((a ^^^ b : Nat) : Int) := by
  have h : a ^^^ b < 4294967296 := Nat.xor_lt_two_pow (n := 32) ha hb
  show IntKind.wrap .u32 (((BitVec.ofInt 32 (a : Int) ^^^ BitVec.ofInt 32 (b : Int)).toNat : Nat) : Int) = _
  have e : (BitVec.ofInt 32 (a : Int) ^^^ BitVec.ofInt 32 (b : Int)).toNat = a ^^^ b := by
    rw [BitVec.toNat_xor, BitVec.ofInt_natCast, BitVec.ofInt_natCast, BitVec.toNat_ofNat, BitVec.toNat_ofNat, Nat.mod_eq_of_lt (by omega), Nat.mod_eq_of_lt (by omega)]
  rw [e, wrap_u32 h]
theorem and_u32 {a : Nat} (ha : a < 4294967296) : bits .and .u32 (a : Int) 15 = ((a % 16 : Nat) : Int) := by
  show IntKind.wrap .u32 (((BitVec.ofInt 32 (a : Int) &&& BitVec.ofInt 32 ((15 : Nat) : Int)).toNat : Nat) : Int) = _
  have e : (BitVec.ofInt 32 (a : Int) &&& BitVec.ofInt 32 ((15 : Nat) : Int)).toNat = a % 16 := by
    rw [BitVec.toNat_and, BitVec.ofInt_natCast, BitVec.ofInt_natCast, BitVec.toNat_ofNat, BitVec.toNat_ofNat, Nat.mod_eq_of_lt (by omega)]
    show a &&& (2 ^ 4 - 1) = a % 2 ^ 4
    exact Nat.and_two_pow_sub_one_eq_mod a 4
  rw [e, wrap_u32 (by omega)]

def bitRun (r : Nat) : Nat → Nat
  | 0 => r
  | j + 1 => crcBit (bitRun r j)
theorem bitRun_lt {r : Nat} (h : r < 4294967296) (j : Nat) : bitRun r j < 4294967296 := by
  induction j with
  | zero => exact h
  | succ j ih => exact crcBit_lt ih
theorem bitRun_eight (r : Nat) : bitRun r 8 = crcByte r := rfl
theorem crcRun_next (r : Nat) (l : List UInt8) (k : Nat) (h : k < l.length) : crcRun r (l.take (k + 1)) = crcByte (crcRun r (l.take k) ^^^ l[k].toNat) := by
  rw [List.take_succ_eq_append_getElem h, crcRun_append]; rfl

set_option maxRecDepth 100000 in
set_option maxHeartbeats 1000000 in
theorem refSum_walk (l : List UInt8) (a : Option Addr) (c : Nat) (w : World) (h : BytesAt w a l) (hl : l.length ≤ 140737488351232) :
    Calls Tryz.prog 170 #[.slice a l.length c] w fun e w' => e = .returned (.int .i64 (crcOf l)) ∧ w' = w := by
  have H := Lib.hid h
  clear h
  go_enter Tryz.func170, Tryz.ntmps170
  go_wp2
  go_loopw [3, 4] (fun v3 v4 wr => ∃ k : Nat, k ≤ l.length ∧ v4 = .int .i64 k ∧ v3 = .int .i64 (crcRun crcOnes (l.take k)) ∧ wr = w) (fun _ v4 _ => l.length - (intOf v4).toNat)
  case atStart => exact ⟨0, by omega, rfl, rfl, rfl⟩
  case round =>
    obtain ⟨k, hk, rfl, rfl, rfl⟩ := hrel
    have hlt32 := crcRun_lt (r := crcOnes) (by decide) (l.take k)
    by_cases hlt : k < l.length
    · obtain ⟨g, off, rfl, _, hc⟩ := H.out k hlt
      have HNX := Lib.hid (crcRun_next crcOnes l k hlt)
      have hb := l[k].toNat_lt
      have hx := xor_i64 hlt32 (show l[k].toNat < 4294967296 by omega)
      have hx32 : crcRun crcOnes (l.take k) ^^^ l[k].toNat < 4294967296 := Nat.xor_lt_two_pow (n := 32) hlt32 (by omega)
      have HX32 := Lib.hid hx32
      clear hlt32 hx32
      generalize crcRun crcOnes (l.take k) = r at *
      generalize hz : l[k].toNat = z at *
      generalize hq : r ^^^ z = q at *
      clear hq hz
      go_wp2
      go_loopw [3, 5] (fun v3 v5 wr2 => ∃ j : Nat, j ≤ 8 ∧ v5 = .int .i64 j ∧ v3 = .int .i64 (bitRun q j) ∧ wr2 = wr) (fun _ v5 _ => 8 - (intOf v5).toNat)
      case atStart => exact ⟨0, by omega, rfl, rfl, rfl⟩
      case round =>
        obtain ⟨j, hj, rfl, rfl, rfl⟩ := hrel
        by_cases hj8 : j < 8
        · have hb32 := bitRun_lt HX32.out j
          have HB := Lib.hid (show bitRun q (j + 1) = crcBit (bitRun q j) from rfl)
          generalize bitRun q j = b at *
          by_cases hodd : b % 2 = 1
          · have HC := Lib.hid (show crcBit b = b / 2 ^^^ crcP by unfold crcBit; rw [if_pos hodd])
            have hx2 := xor_i64 (a := b / 2) (b := 2197175160) (by omega) (by decide)
            have hdv : ((b / 2 : Nat) : Int) = (b : Int) / 2 := by omega
            rw [hdv] at hx2
            have HX := Lib.hid hx2
            clear hx2 hdv
            go_wp2
            go_roundw
            case rel => exact ⟨j + 1, by omega, by go_num, by rw [HB.out, HC.out]; exact congrArg (Value.int .i64) HX.out, trivial⟩
            case measure => simp [intOf]; omega
          · have HC := Lib.hid (show crcBit b = b / 2 by unfold crcBit; rw [if_neg hodd])
            go_wp2
            go_roundw
            case rel => exact ⟨j + 1, by omega, by go_num, by rw [HB.out, HC.out]; exact congrArg (Value.int .i64) (by omega), trivial⟩
            case measure => simp [intOf]; omega
        · obtain rfl : j = 8 := by omega
          clear hj8
          rw [bitRun_eight]
          have HR := HNX
          generalize crcByte q = y at *
          go_wp2
          go_roundw
          case rel => exact ⟨k + 1, by omega, by go_num, by rw [HR.out], trivial⟩
          case measure => simp [intOf]; omega
    · obtain rfl : k = l.length := by omega
      rw [List.take_length] at hlt32 ⊢
      have hx := xor_i64 (a := crcRun crcOnes l) (b := 4294967295) hlt32 (by decide)
      have HX := Lib.hid hx
      clear hx
      go_wp2
      go_ret
      exact ⟨congrArg Ending.returned (congrArg (Value.int .i64) HX.out), rfl⟩

theorem crcTab_lt : ∀ t, t < 16 → crcTab.getD t 0 < 4294967296 := by decide

def tabCells : Array Value := #[.int .u32 0, .int .u32 274646895, .int .u32 549293790, .int .u32 820201905, .int .u32 1098587580, .int .u32 1361435347, .int .u32 1640403810, .int .u32 1905808397, .int .u32 2197175160, .int .u32 2460548119, .int .u32 2722870694, .int .u32 2987750089, .int .u32 3280807620, .int .u32 3553878443, .int .u32 3811616794, .int .u32 4084100981]
theorem tabCells_at : ∀ t, t < 16 → tabCells[t]? = some (.int .u32 (crcTab.getD t 0 : Nat)) := by
  intro t ht
  rcases (show t = 0 ∨ t = 1 ∨ t = 2 ∨ t = 3 ∨ t = 4 ∨ t = 5 ∨ t = 6 ∨ t = 7 ∨ t = 8 ∨ t = 9 ∨ t = 10 ∨ t = 11 ∨ t = 12 ∨ t = 13 ∨ t = 14 ∨ t = 15 by omega) with rfl | rfl | rfl | rfl | rfl | rfl | rfl | rfl | rfl | rfl | rfl | rfl | rfl | rfl | rfl | rfl <;> rfl
theorem halves_walk (w : World) : Calls Tryz.prog 185 #[] w fun e w' => e = .returned (.agg tabCells) ∧ w' = w.alloc (.cells tabCells 294) := by
  go_enter Tryz.func185, Tryz.ntmps185
  go_wp2
  refine bodyPost_ret (results_cell_row (P := Tryz.prog) (p := 0) (ty := 294) rfl _ _ w.heap.size 294 tabCells (0, 0) _ rfl (heap_alloc_new w _) Tryz.underlying294 rfl (by kernel_rfl)) rfl ?_
  exact ⟨rfl, rfl⟩

set_option maxRecDepth 100000 in
set_option maxHeartbeats 1000000 in
theorem codecSum_walk (l : List UInt8) (a : Option Addr) (c : Nat) (w : World) (h : BytesAt w a l) (hl : l.length ≤ 140737488351232) :
    Calls Tryz.prog 143 #[.slice a l.length c] w fun e w' => e = .returned (.int .i64 (crcOf l)) ∧ Below w.heap.size w w' := by
  have H := Lib.hid h
  clear h
  have HH := Lib.hid (halves_walk w)
  have htc : tabCells.size = 16 := rfl
  have hone : tabCells.all (·.oneCell') = true := by kernel_rfl
  have hat := tabCells_at
  generalize htab : tabCells = T at *
  have HT := Lib.hid htab
  clear htab
  have hst : (storeCells ⟨w.heap.size + 1, 0, none⟩ T.toList 0).run Tryz.prog ((w.alloc (.cells T 294)).alloc (.cells #[.int .u32 0, .int .u32 0, .int .u32 0, .int .u32 0, .int .u32 0, .int .u32 0, .int .u32 0, .int .u32 0, .int .u32 0, .int .u32 0, .int .u32 0, .int .u32 0, .int .u32 0, .int .u32 0, .int .u32 0, .int .u32 0] 294)) = .ok () ((w.alloc (.cells T 294)).alloc (.cells T 294)) := by
    have := run_storeCells_new (P := Tryz.prog) (w.alloc (.cells T 294) ) 294 #[.int .u32 0, .int .u32 0, .int .u32 0, .int .u32 0, .int .u32 0, .int .u32 0, .int .u32 0, .int .u32 0, .int .u32 0, .int .u32 0, .int .u32 0, .int .u32 0, .int .u32 0, .int .u32 0, .int .u32 0, .int .u32 0] T (by rw [htc]; kernel_rfl) (by rw [htc]; rfl) hone
    simpa using this
  go_enter Tryz.func143, Tryz.ntmps143
  go_wp2_with (go_at_call 185; refine HH.out.mono ?_; rintro e w' ⟨rfl, hw9⟩; rw [hw9])
  have hcell : ∀ t, t < 16 → ((w.alloc (.cells T 294)).alloc (.cells T 294)).cell? ⟨w.heap.size + 1, t, none⟩ = some (.int .u32 (crcTab.getD t 0 : Nat)) := by
    intro t ht
    have := cell_whole (heap_alloc_new (w.alloc (.cells T 294)) (.cells T 294)) t
    rw [size_alloc] at this
    rw [this, hat t ht]
  have hbw : Below w.heap.size w ((w.alloc (.cells T 294)).alloc (.cells T 294)) := ((Below.refl _ _).alloc (Nat.le_refl _) _).alloc (le_alloc (Nat.le_refl _) _) _
  have HC := Lib.hid hcell
  have HB := Lib.hid hbw
  clear hcell hbw hst
  generalize (w.alloc (.cells T 294)).alloc (.cells T 294) = w2 at *
  go_loopw [4, 6, 10] (fun v4 _ v10 wr => ∃ k : Nat, k ≤ l.length ∧ v10 = .int .i64 k ∧ v4 = .int .u32 (crcRun crcOnes (l.take k) : Nat) ∧ wr = w2) (fun _ _ v10 _ => l.length - (intOf v10).toNat)
  case atStart => exact ⟨0, by omega, rfl, rfl, rfl⟩
  case round =>
    obtain ⟨k, hk, rfl, rfl, rfl⟩ := hrel
    have hlt32 := crcRun_lt (r := crcOnes) (by decide) (l.take k)
    by_cases hlt : k < l.length
    · obtain ⟨g, off, rfl, _, hc⟩ := (H.out.below HB.out) k hlt
      have HNX := Lib.hid (crcRun_next crcOnes l k hlt)
      have hb := l[k].toNat_lt
      have hx := xor_u32 hlt32 (show l[k].toNat < 4294967296 by omega)
      have hx32 : crcRun crcOnes (l.take k) ^^^ l[k].toNat < 4294967296 := Nat.xor_lt_two_pow (n := 32) hlt32 (by omega)
      clear hlt32
      generalize crcRun crcOnes (l.take k) = r at *
      generalize hz : l[k].toNat = z at *
      generalize hq : r ^^^ z = q at *
      have t1 := HC.out (q % 16) (by omega)
      have a1 := and_u32 hx32
      have c1 := crcTab_lt (q % 16) (by omega)
      have x1 := xor_u32 (a := q / 16) (b := crcTab.getD (q % 16) 0) (by omega) c1
      have y1 := crc4_tab q
      have y32 := crc4_lt hx32
      rw [← y1, show ((q / 16 : Nat) : Int) = (q : Int) / 16 by omega] at x1
      generalize crcTab.getD (q % 16) 0 = d1 at *
      have HBY := Lib.hid (crcByte_eq q)
      generalize crc4 q = q1 at *
      have t2 := HC.out (q1 % 16) (by omega)
      have a2 := and_u32 y32
      have c2 := crcTab_lt (q1 % 16) (by omega)
      have x2 := xor_u32 (a := q1 / 16) (b := crcTab.getD (q1 % 16) 0) (by omega) c2
      have y2 := crc4_tab q1
      rw [← y2, show ((q1 / 16 : Nat) : Int) = (q1 : Int) / 16 by omega] at x2
      generalize crcTab.getD (q1 % 16) 0 = d2 at *
      generalize crc4 q1 = q2 at *
      clear hq hz c1 y1 c2 y2
      go_wp2
      go_roundw
      case rel => exact ⟨k + 1, by omega, by go_num, by rw [HNX.out, HBY.out], trivial⟩
      case measure => simp [intOf]; omega
    · obtain rfl : k = l.length := by omega
      rw [List.take_length] at hlt32 ⊢
      have hx := xor_u32 (a := 4294967295) (b := crcRun crcOnes l) (by decide) hlt32
      have HX := Lib.hid hx
      clear hx
      go_wp2
      go_ret
      have hlt := crcOf_lt l
      have e1 : bits .xor .u32 IntKind.u32.max (crcRun crcOnes l : Nat) = ((crcOf l : Nat) : Int) := by
        have := HX.out
        rw [Nat.xor_comm] at this
        exact this
      have e2 : wrap64 (bits .xor .u32 IntKind.u32.max (crcRun crcOnes l : Nat)) = ((crcOf l : Nat) : Int) := by
        rw [e1]
        unfold wrap64; omega
      exact ⟨congrArg Ending.returned (congrArg (Value.int .i64) e2), HB.out⟩
end Go.Proofs.YtikfphojehgpjaaGreatDoor
/- Frames with a footprint; rows that are written in place. -/
namespace Go.Proofs.YtikfphojehgpjaaGreatDoor
open Go.RowKit Vl
set_option linter.unusedVariables false

/-- Of the old blocks only those of F may turn. -/
structure Kept (F : List Nat) (w w' : World) : Prop where
  os : w'.os = w.os
  tape : w'.tape = w.tape
  output : w'.output = w.output
  size : w.heap.size ≤ w'.heap.size
  block : ∀ k, k < w.heap.size → k ∉ F → w'.heap[k]? = w.heap[k]?
section
variable {F G : List Nat} {a b c w w' : World}
theorem Kept.refl (F : List Nat) (w : World) : Kept F w w := ⟨rfl, rfl, rfl, Nat.le_refl _, fun _ _ _ => rfl⟩
/-- A second step, over blocks of F and new ones. -/
theorem Kept.trans (h : Kept F a b) (k : Kept G b c) (hG : ∀ x ∈ G, x ∈ F ∨ a.heap.size ≤ x) : Kept F a c :=
  ⟨k.os.trans h.os, k.tape.trans h.tape, k.output.trans h.output, Nat.le_trans h.size k.size, fun i hi hF => (k.block i (Nat.lt_of_lt_of_le hi h.size) (fun hg => by
    rcases hG i hg with h1 | h1
    · exact hF h1
    · omega)).trans (h.block i hi hF)⟩
theorem Kept.mono (h : Kept F a b) (hG : ∀ x ∈ F, x ∈ G ∨ a.heap.size ≤ x) : Kept G a b :=
  ⟨h.os, h.tape, h.output, h.size, fun i hi hg => h.block i hi (fun hF => by
    rcases hG i hF with h1 | h1
    · exact hg h1
    · omega)⟩
theorem Kept.of_below (h : Below w.heap.size w w') : Kept F w w' := ⟨h.os, h.tape, h.output, h.size, fun k hk _ => h.block k hk⟩
theorem Kept.below (h : Kept [] w w') : Below w.heap.size w w' := ⟨h.os, h.tape, h.output, h.size, fun k hk => h.block k hk (by simp)⟩
theorem Kept.below' {B : Nat} (h : Kept F w w') (hB : B ≤ w.heap.size) (hF : ∀ x ∈ F, B ≤ x) : Below B w w' := ⟨h.os, h.tape, h.output, h.size, fun k hk => h.block k (by omega) (fun hx => by have := hF k hx; omega)⟩
theorem Kept.drew (h : Kept F a w) : Kept F a w.drew := ⟨h.os, h.tape, h.output, h.size, h.block⟩
theorem Kept.alloc (h : Kept F a w) (o : Obj) : Kept F a (w.alloc o) :=
  ⟨h.os, h.tape, h.output, Nat.le_trans h.size (by show w.heap.size ≤ (w.heap.push o).size; simp), fun k hk hb => (Below.heap_alloc w o k (Nat.lt_of_lt_of_le hk h.size)).trans (h.block k hk hb)⟩
theorem Kept.setCell (h : Kept F a w) (p : Addr) (v : Value) (hp : p.block ∈ F ∨ a.heap.size ≤ p.block) : Kept F a (w.setCell p v) :=
  ⟨h.os, h.tape, h.output, by simpa [World.setCell] using h.size, fun k hk hb => (Below.heap_setCell _ _ _ _ (fun e => by
    subst e
    rcases hp with h1 | h1
    · exact hb h1
    · omega)).trans (h.block k hk hb)⟩
theorem Kept.grown (h : Kept F a w) {row : Option Nat} (hg : w.grownBy w' row) (hr : ∀ k, row = some k → k ∈ F ∨ a.heap.size ≤ k) : Kept F a w' :=
  h.trans (G := row.toList) ⟨hg.os, hg.tape, hg.output, hg.size, fun k hk hn => hg.block k hk (fun e => hn (by simp [← e]))⟩ (fun x hx => hr x (by simpa using hx))
theorem Kept.keep {o : Obj} {k : Nat} (h : Kept F w w') (hk : w.heap[k]? = some o) (hF : k ∉ F) : w'.heap[k]? = some o := by rw [h.block k (lt_whole hk) hF]; exact hk
end

/-- A row of bytes, whole: a block that holds just these. -/
def Bytes (w : World) (g : Nat) (l : List UInt8) : Prop := w.heap[g]? = some (.cells (bcells l).toArray 5 (0, 0))
theorem Bytes.cell {w : World} {g : Nat} {l : List UInt8} (h : Bytes w g l) {i : Nat} (hi : i < l.length) : w.cell? ⟨g, i, none⟩ = some (.int .u8 l[i].toNat) := by
  rw [cell_whole h i]
  unfold bcells
  simp [hi]
theorem Bytes.at {w : World} {g : Nat} {l : List UInt8} (h : Bytes w g l) : BytesAt w (some ⟨g, 0, none⟩) l := fun i hi => ⟨g, 0, rfl, lt_whole h, by rw [Nat.zero_add]; exact h.cell hi⟩
theorem Bytes.frozen {w : World} {g : Nat} {l : List UInt8} (h : Bytes w g l) (i : Nat) : w.frozen? ⟨g, i, none⟩ = false := frozen_whole h i
theorem Bytes.set {w : World} {g : Nat} {l : List UInt8} (h : Bytes w g l) (i : Nat) (c : UInt8) : Bytes (w.setCell ⟨g, i, none⟩ (.int .u8 c.toNat)) g (l.set i c) := by
  unfold Bytes
  rw [set_whole h]
  congr 2
  unfold bcells
  simp [List.map_set]
theorem Bytes.kept {w w' : World} {F : List Nat} {g : Nat} {l : List UInt8} (h : Bytes w g l) (hk : Kept F w w') (hg : g ∉ F) : Bytes w' g l := hk.keep h hg

/-- Bytes laid over others from a place on. -/
def over (l : List UInt8) (at_ : Nat) (m : List UInt8) : List UInt8 := l.take at_ ++ m ++ l.drop (at_ + m.length)
theorem over_length {l m : List UInt8} {at_ : Nat} (h : at_ + m.length ≤ l.length) : (over l at_ m).length = l.length := by
  unfold over
  simp only [List.length_append, List.length_take, List.length_drop]
  omega
theorem over_nil (l : List UInt8) (at_ : Nat) : over l at_ [] = l := by unfold over; simp
theorem over_snoc {l m : List UInt8} {at_ : Nat} (c : UInt8) (h : at_ + m.length < l.length) : (over l at_ m).set (at_ + m.length) c = over l at_ (m ++ [c]) := by
  unfold over
  have h1 : (l.take at_ ++ m).length = at_ + m.length := by rw [List.length_append, List.length_take]; omega
  rw [List.set_append_right _ _ (by omega), h1, Nat.sub_self, List.drop_eq_getElem_cons h, List.set_cons_zero]
  simp only [List.length_append, List.length_cons, List.length_nil, List.append_assoc, List.cons_append, List.nil_append, Nat.add_assoc]
end Go.Proofs.YtikfphojehgpjaaGreatDoor
/- How a sealed sector is laid, piece by piece: plain Lean. -/
namespace Go.Proofs.YtikfphojehgpjaaGreatDoor
open Go.RowKit Vl
set_option linter.unusedVariables false

theorem over_app {P Q m : List UInt8} {n k : Nat} (h : n = P.length + k) : over (P ++ Q) n m = P ++ over Q k m := by
  subst h
  unfold over
  rw [List.take_append, List.take_of_length_le (by omega : P.length ≤ P.length + k), Nat.add_sub_cancel_left, Nat.add_assoc, List.drop_append, List.drop_eq_nil_of_le (by omega : P.length ≤ P.length + (k + m.length)), List.nil_append, Nat.add_sub_cancel_left]
  simp only [List.append_assoc]
theorem over_front {l r m : List UInt8} (h : m.length ≤ l.length) : over (l ++ r) 0 m = over l 0 m ++ r := by
  unfold over
  rw [List.take_zero, List.take_zero, Nat.zero_add, List.drop_append_of_le_length h]
  simp only [List.nil_append, List.append_assoc]
theorem over_cons {c : UInt8} {l m : List UInt8} {n : Nat} : over (c :: l) (n + 1) m = c :: over l n m := by
  unfold over
  rw [show n + 1 + m.length = (n + m.length) + 1 by omega]
  simp
theorem over_same {l m : List UInt8} (h : m.length = l.length) : over l 0 m = m := by
  unfold over
  rw [List.take_zero, Nat.zero_add, List.drop_eq_nil_of_le (by omega), List.nil_append, List.append_nil]

/-- Where a sector's pieces stand. -/
def form (t : UInt8) (a b m : List UInt8) (e : UInt8) : List UInt8 := t :: (a ++ (b ++ (m ++ [e])))
theorem form_zero : zsec = form 0 [0, 0] [0, 0, 0, 0] (List.replicate 504 0) 0 := by
  unfold zsec form
  rw [show ([0] : List UInt8) = List.replicate 1 0 from rfl, List.replicate_append_replicate]
  rfl
theorem form_end {t e e' : UInt8} {a b m : List UInt8} (ha : a.length = 2) (hb : b.length = 4) (hm : m.length = 504) : (form t a b m e).set 511 e' = form t a b m e' := by
  unfold form
  rw [List.set_cons_succ, List.set_append_right _ _ (by omega), List.set_append_right _ _ (by omega), List.set_append_right _ _ (by omega), ha, hb, hm]
  rfl
theorem pre_eq (t x y : UInt8) (body : List UInt8) (h : body.length ≤ 504) (hx : leB body.length 2 = [x, y]) :
    over ((((zsec.set 0 t).set 511 t).set 1 x).set 2 y) 7 body = form t (leB body.length 2) [0, 0, 0, 0] (body ++ List.replicate (504 - body.length) 0) t := by
  rw [form_zero, hx]
  have e0 : (form 0 [0, 0] [0, 0, 0, 0] (List.replicate 504 0) 0).set 0 t = form t [0, 0] [0, 0, 0, 0] (List.replicate 504 0) 0 := rfl
  rw [e0, form_end rfl rfl List.length_replicate]
  have e1 : ((form t [0, 0] [0, 0, 0, 0] (List.replicate 504 0) t).set 1 x).set 2 y = form t [x, y] [0, 0, 0, 0] (List.replicate 504 0) t := rfl
  rw [e1]
  unfold form
  rw [show 7 = 6 + 1 from rfl, over_cons, over_app (P := [x, y]) (n := 6) (k := 4) rfl, over_app (P := [0, 0, 0, 0]) (n := 4) (k := 0) rfl, over_front (by rw [List.length_replicate]; exact h)]
  have e2 : over (List.replicate 504 0) 0 body = body ++ List.replicate (504 - body.length) 0 := by
    unfold over
    rw [List.take_zero, Nat.zero_add, List.drop_replicate, List.nil_append]
  rw [e2]
theorem form_length {t e : UInt8} {a b m : List UInt8} (ha : a.length = 2) (hb : b.length = 4) (hm : m.length = 504) : (form t a b m e).length = 512 := by
  unfold form
  simp only [List.length_cons, List.length_append, List.length_nil]; omega
theorem form_head {t e : UInt8} {a b m : List UInt8} (ha : a.length = 2) (hb : b.length = 4) (hm : m.length = 504) : ((form t a b m e).drop 1).take 2 = a ∧ ((form t a b m e).drop 7).take 504 = m := by
  unfold form
  constructor
  · show List.take 2 (a ++ _) = a
    rw [List.take_left' ha]
  · show List.take 504 (List.drop 6 (a ++ (b ++ (m ++ [e])))) = m
    rw [← List.append_assoc, List.drop_left' (by rw [List.length_append]; omega), List.take_left' hm]
theorem form_sum {t e : UInt8} {a b s m : List UInt8} (ha : a.length = 2) (hb : b.length = 4) (hs : s.length = 4) : over (form t a b m e) 3 s = form t a s m e := by
  unfold form
  rw [show 3 = 2 + 1 from rfl, over_cons, over_app (k := 0) (by omega), over_front (by omega), over_same (by omega)]
theorem form_seal (t : UInt8) (body : List UInt8) : form t (leB body.length 2) (leB (crcOf (sealText body)) 4) (body ++ List.replicate (504 - body.length) 0) t = sealSec t body := rfl
theorem mid_length {body : List UInt8} (h : body.length ≤ 504) : (body ++ List.replicate (504 - body.length) 0).length = 504 := by
  rw [List.length_append, List.length_replicate]; omega
end Go.Proofs.YtikfphojehgpjaaGreatDoor
/- vellumref3: Sum; vellumref3: same. -/
namespace Go.Proofs.YtikfphojehgpjaaGreatDoor
open Go.RowKit Vl
set_option linter.unusedVariables false

theorem and1_i64 {a : Nat} (ha : a < 4294967296) : bits .and .i64 (a : Int) 1 = ((a % 2 : Nat) : Int) := by
  show IntKind.wrap .i64 (((BitVec.ofInt 64 (a : Int) &&& BitVec.ofInt 64 ((1 : Nat) : Int)).toNat : Nat) : Int) = _
  have e : (BitVec.ofInt 64 (a : Int) &&& BitVec.ofInt 64 ((1 : Nat) : Int)).toNat = a % 2 := by
    rw [BitVec.toNat_and, BitVec.ofInt_natCast, BitVec.ofInt_natCast, BitVec.toNat_ofNat, BitVec.toNat_ofNat, Nat.mod_eq_of_lt (by omega), Nat.mod_eq_of_lt (by omega)]
    show a &&& (2 ^ 1 - 1) = a % 2 ^ 1
    exact Nat.and_two_pow_sub_one_eq_mod a 1
  rw [e, wrap_i64 (by omega)]
set_option maxRecDepth 100000 in
set_option maxHeartbeats 1000000 in
theorem refSum3_walk (l : List UInt8) (a : Option Addr) (c : Nat) (w : World) (h : BytesAt w a l) (hl : l.length ≤ 140737488351232) :
    Calls Tryz.prog 215 #[.slice a l.length c] w fun e w' => e = .returned (.int .i64 (crcOf l)) ∧ w' = w := by
  have H := Lib.hid h
  clear h
  go_enter Tryz.func215, Tryz.ntmps215
  go_wp2
  go_loopw [3, 4] (fun v3 v4 wr => ∃ k : Nat, k ≤ l.length ∧ v4 = .int .i64 k ∧ v3 = .int .i64 (crcRun crcOnes (l.take k)) ∧ wr = w) (fun _ v4 _ => l.length - (intOf v4).toNat)
  case atStart => exact ⟨0, by omega, rfl, rfl, rfl⟩
  case round =>
    obtain ⟨k, hk, rfl, rfl, rfl⟩ := hrel
    have hlt32 := crcRun_lt (r := crcOnes) (by decide) (l.take k)
    by_cases hlt : k < l.length
    · obtain ⟨g, off, rfl, _, hc⟩ := H.out k hlt
      have HNX := Lib.hid (crcRun_next crcOnes l k hlt)
      have hb := l[k].toNat_lt
      have hx := xor_i64 hlt32 (show l[k].toNat < 4294967296 by omega)
      have hx32 : crcRun crcOnes (l.take k) ^^^ l[k].toNat < 4294967296 := Nat.xor_lt_two_pow (n := 32) hlt32 (by omega)
      have HX32 := Lib.hid hx32
      clear hlt32 hx32
      generalize crcRun crcOnes (l.take k) = r at *
      generalize hz : l[k].toNat = z at *
      generalize hq : r ^^^ z = q at *
      clear hq hz
      go_wp2
      go_loopw [3, 5] (fun v3 v5 wr2 => ∃ j : Nat, j ≤ 8 ∧ v5 = .int .i64 j ∧ v3 = .int .i64 (bitRun q j) ∧ wr2 = wr) (fun _ v5 _ => 8 - (intOf v5).toNat)
      case atStart => exact ⟨0, by omega, rfl, rfl, rfl⟩
      case round =>
        obtain ⟨j, hj, rfl, rfl, rfl⟩ := hrel
        by_cases hj8 : j < 8
        · have hb32 := bitRun_lt HX32.out j
          have HB := Lib.hid (show bitRun q (j + 1) = crcBit (bitRun q j) from rfl)
          generalize bitRun q j = b at *
          have hand := and1_i64 hb32
          by_cases hodd : b % 2 = 1
          · have HC := Lib.hid (show crcBit b = b / 2 ^^^ crcP by unfold crcBit; rw [if_pos hodd])
            have hx2 := xor_i64 (a := b / 2) (b := 2197175160) (by omega) (by decide)
            have hdv : ((b / 2 : Nat) : Int) = (b : Int) / 2 := by omega
            rw [hdv] at hx2
            have HX := Lib.hid hx2
            rw [hodd] at hand
            clear hx2 hdv
            go_wp2
            go_roundw
            case rel => exact ⟨j + 1, by omega, by go_num, by rw [HB.out, HC.out]; exact congrArg (Value.int .i64) HX.out, trivial⟩
            case measure => simp [intOf]; omega
          · have HC := Lib.hid (show crcBit b = b / 2 by unfold crcBit; rw [if_neg hodd])
            have he : b % 2 = 0 := by omega
            rw [he] at hand
            go_wp2
            go_roundw
            case rel => exact ⟨j + 1, by omega, by go_num, by rw [HB.out, HC.out]; exact congrArg (Value.int .i64) (by omega), trivial⟩
            case measure => simp [intOf]; omega
        · obtain rfl : j = 8 := by omega
          clear hj8
          rw [bitRun_eight]
          have HR := HNX
          generalize crcByte q = y at *
          go_wp2
          go_roundw
          case rel => exact ⟨k + 1, by omega, by go_num, by rw [HR.out], trivial⟩
          case measure => simp [intOf]; omega
    · obtain rfl : k = l.length := by omega
      rw [List.take_length] at hlt32 ⊢
      have hx := xor_i64 (a := crcRun crcOnes l) (b := 4294967295) hlt32 (by decide)
      have HX := Lib.hid hx
      clear hx
      go_wp2
      go_ret
      exact ⟨congrArg Ending.returned (congrArg (Value.int .i64) HX.out), rfl⟩
set_option maxRecDepth 100000 in
set_option maxHeartbeats 1000000 in
theorem same3_walk (l m : List UInt8) (a b : Option Addr) (c d : Nat) (w : World) (ha : BytesAt w a l) (hb : BytesAt w b m) (hl : l.length ≤ 140737488351232) (hm : m.length ≤ 140737488351232) :
    Calls Tryz.prog 198 #[.slice a l.length c, .slice b m.length d] w fun e w' => e = .returned (.bool (decide (l = m))) ∧ Below w.heap.size w w' := by
  have HA := Lib.hid ha
  have HB := Lib.hid hb
  clear ha hb
  by_cases hlm : l.length = m.length
  · have n1 : (((l.length : Int)) != (m.length : Int)) = false := by simp; omega
    go_enter Tryz.func198, Tryz.ntmps198
    go_wp2
    go_loopw [5] (fun i wr => ∃ k : Nat, k ≤ l.length ∧ i = .int .i64 k ∧ l.take k = m.take k ∧ Below w.heap.size w wr) (fun i _ => l.length - (intOf i).toNat)
    case atStart => exact ⟨0, by omega, rfl, rfl, Below.refl _ _⟩
    case round =>
      obtain ⟨k, hk, rfl, ht, hbw⟩ := hrel
      have HT := Lib.hid ht
      have HBW := Lib.hid hbw
      clear ht hbw
      by_cases hlt : k < l.length
      · obtain ⟨ga, oa, rfl, _, hca⟩ := (HA.out.below HBW.out) k hlt
        obtain ⟨gb, ob, rfl, _, hcb⟩ := (HB.out.below HBW.out) k (show k < m.length by omega)
        by_cases he : l[k] = m[k]'(by omega)
        · rw [he] at hca
          have HE := Lib.hid he
          clear he
          generalize hsv : (((m[k]'(by omega)).toNat : Nat) : Int) = sv at *
          go_wp2
          refine wp_canon (by kernel_rfl) (by kernel_rfl) ?_
          go_wp2
          refine ⟨rfl, ?_⟩
          go_wp2
          go_roundw
          case rel =>
            refine ⟨k + 1, by omega, by go_num, ?_, HBW.out.drew⟩
            rw [List.take_succ_eq_append_getElem hlt, List.take_succ_eq_append_getElem (show k < m.length by omega), HT.out, HE.out]
          case measure => simp [intOf]; omega
        · have hne : (((l[k].toNat : Nat) : Int) != (((m[k]'(by omega)).toNat : Nat) : Int)) = true := by
            simp only [bne_iff_ne, ne_eq]
            exact fun e => he (UInt8.toNat_inj.1 (by omega))
          have hF : decide (l = m) = false := decide_eq_false fun e => by subst e; exact he rfl
          have HF := Lib.hid hF
          clear hF he
          generalize hsv : (((m[k]'(by omega)).toNat : Nat) : Int) = sv at *
          generalize hsu : ((l[k].toNat : Nat) : Int) = su at *
          go_wp2
          refine wp_canon (by kernel_rfl) (by kernel_rfl) ?_
          go_wp2
          refine ⟨rfl, ?_⟩
          go_wp2
          go_ret
          exact ⟨by rw [HF.out]; rfl, HBW.out.drew⟩
      · obtain rfl : k = l.length := by omega
        have hxy : l = m := by
          have := HT.out
          rw [List.take_length, hlm, List.take_length] at this
          exact this
        have HF := Lib.hid (show decide (l = m) = true from decide_eq_true hxy)
        clear hxy
        go_wp2
        go_ret
        exact ⟨by rw [HF.out]; rfl, HBW.out⟩
  · have n1 : (((l.length : Int)) != (m.length : Int)) = true := by simp; omega
    have hF : decide (l = m) = false := decide_eq_false fun e => hlm (by rw [e])
    have HF := Lib.hid hF
    clear hF
    go_enter Tryz.func198, Tryz.ntmps198
    go_wp2
    go_ret
    exact ⟨by rw [HF.out]; rfl, Below.refl _ _⟩
set_option maxRecDepth 100000 in
set_option maxHeartbeats 1000000 in
theorem same2_walk (l m : List UInt8) (a b : Option Addr) (c d : Nat) (w : World) (ha : BytesAt w a l) (hb : BytesAt w b m) (hl : l.length ≤ 140737488351232) (hm : m.length ≤ 140737488351232) :
    Calls Tryz.prog 125 #[.slice a l.length c, .slice b m.length d] w fun e w' => e = .returned (.bool (decide (l = m))) ∧ Below w.heap.size w w' := by
  have HA := Lib.hid ha
  have HB := Lib.hid hb
  clear ha hb
  by_cases hlm : l.length = m.length
  · have n1 : (((l.length : Int)) != (m.length : Int)) = false := by simp; omega
    go_enter Tryz.func125, Tryz.ntmps125
    go_wp2
    go_loopw [5] (fun i wr => ∃ k : Nat, k ≤ l.length ∧ i = .int .i64 k ∧ l.take k = m.take k ∧ Below w.heap.size w wr) (fun i _ => l.length - (intOf i).toNat)
    case atStart => exact ⟨0, by omega, rfl, rfl, Below.refl _ _⟩
    case round =>
      obtain ⟨k, hk, rfl, ht, hbw⟩ := hrel
      have HT := Lib.hid ht
      have HBW := Lib.hid hbw
      clear ht hbw
      by_cases hlt : k < l.length
      · obtain ⟨ga, oa, rfl, _, hca⟩ := (HA.out.below HBW.out) k hlt
        obtain ⟨gb, ob, rfl, _, hcb⟩ := (HB.out.below HBW.out) k (show k < m.length by omega)
        by_cases he : l[k] = m[k]'(by omega)
        · rw [he] at hca
          have HE := Lib.hid he
          clear he
          generalize hsv : (((m[k]'(by omega)).toNat : Nat) : Int) = sv at *
          go_wp2
          refine wp_canon (by kernel_rfl) (by kernel_rfl) ?_
          go_wp2
          refine ⟨rfl, ?_⟩
          go_wp2
          go_roundw
          case rel =>
            refine ⟨k + 1, by omega, by go_num, ?_, HBW.out.drew⟩
            rw [List.take_succ_eq_append_getElem hlt, List.take_succ_eq_append_getElem (show k < m.length by omega), HT.out, HE.out]
          case measure => simp [intOf]; omega
        · have hne : (((l[k].toNat : Nat) : Int) != (((m[k]'(by omega)).toNat : Nat) : Int)) = true := by
            simp only [bne_iff_ne, ne_eq]
            exact fun e => he (UInt8.toNat_inj.1 (by omega))
          have hF : decide (l = m) = false := decide_eq_false fun e => by subst e; exact he rfl
          have HF := Lib.hid hF
          clear hF he
          generalize hsv : (((m[k]'(by omega)).toNat : Nat) : Int) = sv at *
          generalize hsu : ((l[k].toNat : Nat) : Int) = su at *
          go_wp2
          refine wp_canon (by kernel_rfl) (by kernel_rfl) ?_
          go_wp2
          refine ⟨rfl, ?_⟩
          go_wp2
          go_ret
          exact ⟨by rw [HF.out]; rfl, HBW.out.drew⟩
      · obtain rfl : k = l.length := by omega
        have hxy : l = m := by
          have := HT.out
          rw [List.take_length, hlm, List.take_length] at this
          exact this
        have HF := Lib.hid (show decide (l = m) = true from decide_eq_true hxy)
        clear hxy
        go_wp2
        go_ret
        exact ⟨by rw [HF.out]; rfl, HBW.out⟩
  · have n1 : (((l.length : Int)) != (m.length : Int)) = true := by simp; omega
    have hF : decide (l = m) = false := decide_eq_false fun e => hlm (by rw [e])
    have HF := Lib.hid hF
    clear hF
    go_enter Tryz.func125, Tryz.ntmps125
    go_wp2
    go_ret
    exact ⟨by rw [HF.out]; rfl, Below.refl _ _⟩
end Go.Proofs.YtikfphojehgpjaaGreatDoor
