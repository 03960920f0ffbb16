/- codec's reader: take, number, fits. -/
import Derived.Test.YtikfphojehgpjaaGreatDoorM10
import Derived.BigQuiet
set_option linter.unusedSimpArgs false
set_option linter.unusedVariables false
namespace Go.Proofs.YtikfphojehgpjaaGreatDoor
open Go.RowKit Vl
set_option linter.unusedVariables false

theorem wrap_u64 {n : Nat} (h : n < 18446744073709551616) : IntKind.wrap .u64 (n : Int) = (n : Int) := by
  have e : (n : Int) % (2 ^ 64 : Int) = n := by omega
  show (if (false && decide ((n : Int) % (2 ^ 64 : Int) ≥ (2 ^ 63 : Int))) = true then (n : Int) % (2 ^ 64 : Int) - (2 ^ 64 : Int) else (n : Int) % (2 ^ 64 : Int)) = n
  rw [e, if_neg (by simp)]
theorem or_u64 {a b : Nat} (ha : a < 18446744073709551616) (hb : b < 18446744073709551616) : bits .or .u64 (a : Int) (b : Int) = ((a ||| b : Nat) : Int) := by
  have h : a ||| b < 18446744073709551616 := Nat.or_lt_two_pow (n := 64) ha hb
  show IntKind.wrap .u64 (((BitVec.ofInt 64 (a : Int) ||| BitVec.ofInt 64 (b : Int)).toNat : Nat) : Int) = _
  have e : (BitVec.ofInt 64 (a : Int) ||| BitVec.ofInt 64 (b : Int)).toNat = a ||| b := by
    rw [BitVec.toNat_or, BitVec.ofInt_natCast, BitVec.ofInt_natCast, BitVec.toNat_ofNat, BitVec.toNat_ofNat, Nat.mod_eq_of_lt (by omega), Nat.mod_eq_of_lt (by omega)]
  rw [e, wrap_u64 h]

/-- A reader. -/
structure RdAt (w : World) (p g off : Nat) (l : List UInt8) (c place : Nat) : Prop where
  blk : w.heap[p]? = some (.cells #[.slice (some ⟨g, off, none⟩) l.length c, .int .i64 place] 177 (0, 0))
  bytes : BytesAt w (some ⟨g, off, none⟩) l
  ne : g ≠ p
  cap : l.length ≤ c

def TakePost (p g off : Nat) (l : List UInt8) (c place n : Nat) (w : World) (e : Ending) (w' : World) : Prop :=
  e = .returned (.slice (some ⟨g, off + place, none⟩) n n) ∧ RdAt w' p g off l c (place + n) ∧ Kept [p] w w'

set_option maxRecDepth 100000 in
set_option maxHeartbeats 2000000 in
theorem rtake_walk (p g off : Nat) (l : List UInt8) (c place n : Nat) (w : World) (h : RdAt w p g off l c place) (hn : place + n ≤ l.length) (hn0 : 0 < n) (hl : c ≤ 1000000000) :
    Calls Tryz.prog 90 #[.pointer (some ⟨p, 0, none⟩), .int .i64 n] w (TakePost p g off l c place n w) := by
  have c0 := cell_whole h.blk 0
  have c1 := cell_whole h.blk 1
  have f1 := frozen_whole h.blk 1
  simp only [List.getElem?_toArray, List.getElem?_cons_succ, List.getElem?_cons_zero] at c0 c1
  have hc := h.cap
  have hlt := lt_whole h.blk
  have t1 : decide ((n : Int) < 0) = false := decide_eq_false (by omega)
  have t2 : decide ((l.length : Int) - place < n) = false := decide_eq_false (by omega)
  have H := Lib.hid h
  clear h
  go_enter Tryz.func90, Tryz.ntmps90
  go_wp2_with fail
  refine wp_canon (by kernel_rfl) (by kernel_rfl) ?_
  go_wp2
  refine ⟨rfl, ?_⟩
  go_upto_region 4 with fail
  have HR := Lib.hid (show RdAt (w.setCell ⟨p, 1, none⟩ (.int .i64 ((place : Int) + n))) p g off l c (place + n) from
    ⟨by rw [set_whole (i := 1) H.out.blk]; rfl, fun i hi => by
      obtain ⟨g', o', e1, h1, h2⟩ := H.out.bytes i hi
      injection e1 with e2
      injection e2 with e3 e4 _
      subst e3; subst e4
      refine ⟨g, off, rfl, by rw [size_set]; exact h1, ?_⟩
      have := H.out.ne
      rw [World.cell?_setCell_other]
      · exact h2
      · intro e; injection e with e5; exact this e5.symm, H.out.ne, H.out.cap⟩)
  have HK := Lib.hid ((Kept.refl [p] w).setCell ⟨p, 1, none⟩ (.int .i64 ((place : Int) + n)) (.inl (by simp)))
  clear c0 c1 f1
  generalize w.setCell ⟨p, 1, none⟩ (.int .i64 ((place : Int) + n)) = w1 at *
  have c0 := cell_whole HR.out.blk 0
  have c1 := cell_whole HR.out.blk 1
  simp only [List.getElem?_toArray, List.getElem?_cons_succ, List.getElem?_cons_zero] at c0 c1
  have hlt1 := lt_whole HR.out.blk
  refine wp_canon (by kernel_rfl) (by kernel_rfl) ?_
  go_wp2
  refine ⟨rfl, ?_⟩
  go_wp2
  go_ret
  refine ⟨?_, ?_, HK.out.drew.drew⟩
  · show Ending.returned (Value.slice _ (place + n - place) (place + n - place)) = _
    rw [Nat.add_sub_cancel_left]
  · exact ⟨HR.out.blk, HR.out.bytes, HR.out.ne, HR.out.cap⟩

theorem take_drop_get {l m : List UInt8} {place n j : Nat} (h : (l.drop place).take n = m) (hj : j < m.length) : l[place + j]? = some m[j] := by
  have h1 : m[j]? = some m[j] := List.getElem?_eq_getElem hj
  rw [← h1, ← h, List.getElem?_take, List.getElem?_drop, if_pos]
  subst h
  rw [List.length_take] at hj
  omega
theorem leB_get (V n j : Nat) (hj : j < n) : (leB V n)[j]? = some (UInt8.ofNat (V / 256 ^ j % 256)) := by
  induction n generalizing V j with
  | zero => omega
  | succ n ih =>
    rw [leB]
    cases j with
    | zero => simp
    | succ j =>
      rw [List.getElem?_cons_succ, ih (V / 256) j (by omega), Nat.div_div_eq_div_mul, Nat.pow_succ, Nat.mul_comm 256]
theorem or_next (V j : Nat) : V % 256 ^ j ||| (V / 256 ^ j % 256) * 256 ^ j = V % 256 ^ (j + 1) := by
  have h1 : V % 256 ^ (j + 1) = V % 256 ^ j + 256 ^ j * (V / 256 ^ j % 256) := by rw [Nat.pow_succ, Nat.mod_mul]
  have e : (256 : Nat) ^ j = 2 ^ (8 * j) := by rw [Nat.pow_mul]
  rw [h1, e, Nat.or_comm, Nat.add_comm, Nat.mul_comm]
  exact (Nat.two_pow_add_eq_or_of_lt (Nat.mod_lt _ (Nat.two_pow_pos _)) _).symm

def NumPost (p g off : Nat) (l : List UInt8) (c place n V : Nat) (w : World) (e : Ending) (w' : World) : Prop :=
  e = .returned (.int .i64 V) ∧ RdAt w' p g off l c (place + n) ∧ Kept [p] w w'
set_option maxRecDepth 100000 in
set_option maxHeartbeats 2000000 in
theorem rnum_walk (p g off : Nat) (l : List UInt8) (c place n most V : Nat) (w : World) (h : RdAt w p g off l c place) (hn : place + n ≤ l.length) (hn0 : 0 < n) (hn8 : n ≤ 7) (hl : c ≤ 1000000000)
    (hb : (l.drop place).take n = leB V n) (hV : V < 256 ^ n) (hm : V ≤ most) (hmm : most < 4611686018427387904) :
    Calls Tryz.prog 91 #[.pointer (some ⟨p, 0, none⟩), .int .i64 n, .int .i64 most] w (NumPost p g off l c place n V w) := by
  have HT := Lib.hid (rtake_walk p g off l c place n w h hn hn0 hl)
  have hlt := lt_whole h.blk
  have HBY := Lib.hid hb
  have HV := Lib.hid hV
  clear h hb hV
  go_enter Tryz.func91, Tryz.ntmps91
  go_wp2_with fail
  refine HT.out.mono ?_
  rintro e w1 ⟨rfl, hr, hk⟩
  have HR := Lib.hid hr
  have HK := Lib.hid hk
  clear hr hk
  go_wp2_with fail
  go_loopw [7, 14] (fun v7 v14 wr => ∃ j : Nat, j ≤ n ∧ v14 = .int .i64 j ∧ v7 = .int .u64 (V % 256 ^ j : Nat) ∧ wr = w1) (fun _ v14 _ => n - (intOf v14).toNat)
  case atStart => exact ⟨0, by omega, rfl, by rw [Nat.pow_zero, Nat.mod_one]; rfl, rfl⟩
  case round =>
    obtain ⟨j, hj, rfl, rfl, rfl⟩ := hrel
    by_cases hjn : j < n
    · have hg := take_drop_get HBY.out (show j < (leB V n).length by rw [leB_length]; exact hjn)
      obtain ⟨hi1, hi2⟩ := List.getElem?_eq_some_iff.1 hg
      obtain ⟨g', o', e1, hgl, hce⟩ := HR.out.bytes (place + j) hi1
      injection e1 with e2
      injection e2 with e3 e4 _
      subst e3; subst e4
      rw [hi2] at hce
      have hgb := leB_get V n j hjn
      rw [List.getElem?_eq_getElem (by rw [leB_length]; exact hjn)] at hgb
      rw [Option.some.inj hgb] at hce
      have hbn : (UInt8.ofNat (V / 256 ^ j % 256)).toNat = V / 256 ^ j % 256 := by rw [UInt8.toNat_ofNat']; omega
      rw [hbn, show off + (place + j) = off + place + j by omega] at hce
      have hb256 : V / 256 ^ j % 256 < 256 := Nat.mod_lt _ (by omega)
      have hpw : 256 ^ j ≤ 281474976710656 := by
        have : 256 ^ j ≤ 256 ^ 6 := Nat.pow_le_pow_right (by omega) (by omega)
        exact this
      have hlo : V % 256 ^ j < 281474976710656 := Nat.lt_of_lt_of_le (Nat.mod_lt _ (Nat.pow_pos (by omega))) hpw
      have HON := Lib.hid (or_next V j)
      have HPW := Lib.hid (show (256 : Nat) ^ j = 2 ^ (8 * j) by rw [Nat.pow_mul])
      clear hg hi2 hgb hbn
      generalize V / 256 ^ j % 256 = b at *
      have hbb : b * 256 ^ j ≤ 255 * 281474976710656 := Nat.mul_le_mul (by omega) hpw
      have HW := Lib.hid (show IntKind.wrap .u64 ((b : Int) * 2 ^ (8 * j)) = ((b * 256 ^ j : Nat) : Int) by
        rw [HPW.out]
        have e9 : ((b : Int) * 2 ^ (8 * j)) = ((b * 2 ^ (8 * j) : Nat) : Int) := by push_cast; rfl
        rw [e9, wrap_u64 (by rw [← HPW.out]; omega)])
      have HOR := Lib.hid (or_u64 (a := V % 256 ^ j) (b := b * 256 ^ j) (by omega) (by omega))
      rw [HON.out] at HOR
      have HQ := Lib.hid (show ∀ k, V % 256 ^ k = V % 256 ^ k from fun _ => rfl)
      obtain ⟨acc, hacc⟩ : ∃ acc, acc = V % 256 ^ j := ⟨_, rfl⟩
      rw [← hacc] at hlo HOR
      rw [← hacc]
      clear HON hacc HQ hbb hpw hi1 HV HPW
      go_wp2
      go_roundw
      case rel => exact ⟨j + 1, by omega, by go_num, by rw [HW.out, HOR.out], trivial⟩
      case measure => simp [intOf]; omega
    · obtain rfl : j = n := by omega
      have hmod : V % 256 ^ j = V := Nat.mod_eq_of_lt HV.out
      rw [hmod]
      clear hmod
      have HB := HBY
      clear HBY
      have t1 : decide ((most : Int) < V) = false := decide_eq_false (by omega)
      go_wp2
      go_ret
      exact ⟨rfl, HR.out, HK.out⟩

theorem fits_walk (w : World) : Calls Tryz.prog 92 #[.bool true] w fun e w' => e = .returned (.tuple #[]) ∧ w' = w := by
  go_enter Tryz.func92, Tryz.ntmps92
  go_wp2
  go_end0
  exact ⟨rfl, rfl⟩
end Go.Proofs.YtikfphojehgpjaaGreatDoor
