/- dump's taker: take, num. -/
import Derived.Test.YtenpihkfghfpaaaDoorDPackD
import Derived.WalkLawsBesides
namespace Go.Proofs.YtenpihkfghfpaaaDoor
open Go.RowKit Vl Go.Maps
set_option linter.unusedVariables false

/-- A taker's block, and what it has yet to hand out. -/
def TkAt (W0 w : World) (p : Nat) (l : List UInt8) : Prop := ∃ a c, w.heap[p]? = some (.cells #[.slice a l.length c] 88 (0, 0)) ∧ BytesAt W0 a l ∧ l.length ≤ c ∧ W0.heap.size ≤ p ∧ Below W0.heap.size W0 w
theorem TkAt.keep {W0 w w' : World} {p : Nat} {l : List UInt8} (h : TkAt W0 w p l) (hp : w'.heap[p]? = w.heap[p]?) (hb : Below W0.heap.size W0 w') : TkAt W0 w' p l := by
  obtain ⟨a, c, h1, h2, h3, h4, _⟩ := h
  exact ⟨a, c, by rw [hp]; exact h1, h2, h3, h4, hb⟩
theorem TkAt.low {W0 w : World} {p : Nat} {l : List UInt8} (h : TkAt W0 w p l) : Below W0.heap.size W0 w := by
  obtain ⟨_, _, _, _, _, _, h⟩ := h; exact h
theorem TkAt.lt {W0 w : World} {p : Nat} {l : List UInt8} (h : TkAt W0 w p l) : p < w.heap.size := by
  obtain ⟨_, _, h, _⟩ := h; exact lt_whole h
def shortE : Ending := .panicked [{ v := .iface 84 (.agg #[]), recovered := false }]

theorem elem24 : Tryd.prog.underlying 24 = some (.slice (Tryd.prog.elem 24)) := by kernel_rfl
theorem sizeElem24 (w : World) : (sizeOf (Tryd.prog.elem 24)).run Tryd.prog w = .ok 1 w := by kernel_rfl
theorem BytesAt.head {w : World} {a : Option Addr} {l : List UInt8} {n : Nat} (h : BytesAt w a l) : BytesAt w a (l.take n) := by
  intro i hi
  rw [List.length_take] at hi
  obtain ⟨g, off, h1, h2, h3⟩ := h i (by omega)
  refine ⟨g, off, h1, h2, ?_⟩
  rw [List.getElem_take]
  exact h3
theorem BytesAt.tail {w : World} {a : Option Addr} {l : List UInt8} {n : Nat} (h : BytesAt w a l) : BytesAt w (a.map (·.add (n * 1))) (l.drop n) := by
  intro i hi
  rw [List.length_drop] at hi
  obtain ⟨g, off, rfl, h2, h3⟩ := h (n + i) (by omega)
  refine ⟨g, off + n, ?_, h2, ?_⟩
  · simp [Addr.add_lit]
  · rw [List.getElem_drop, Nat.add_assoc]
    exact h3
theorem slice_tail {w : World} {a : Option Addr} {l : List UInt8} {c n : Nat} (h : BytesAt w a l) (hc : l.length ≤ c) (hn : n ≤ l.length) :
    ∃ a', (Instr.slice 24 (.slice a l.length c) (some (.int .i64 n)) none none).run Tryd.prog w = .ok (.slice a' (l.length - n) (c - n)) w ∧ BytesAt w a' (l.drop n) := by
  have h1 := run_slice_l (P := Tryd.prog) w 24 a l.length c elem24 .i64 n (by omega) (by omega)
  rw [sizeElem24, Result.andThen_ok] at h1
  unfold sliced at h1
  rw [Int.toNat_natCast] at h1
  refine ⟨_, h1, ?_⟩
  split
  · intro i hi
    rw [List.length_drop] at hi
    omega
  · exact h.tail
theorem slice_tail2 {W0 : World} {a : Option Addr} {l : List UInt8} {c n : Nat} (w : World) (h : BytesAt W0 a l) (hc : l.length ≤ c) (hn : n ≤ l.length) :
    ∃ a', (Instr.slice 24 (.slice a l.length c) (some (.int .i64 n)) none none).run Tryd.prog w = .ok (.slice a' (l.length - n) (c - n)) w ∧ BytesAt W0 a' (l.drop n) := by
  have h1 := run_slice_l (P := Tryd.prog) w 24 a l.length c elem24 .i64 n (by omega) (by omega)
  rw [sizeElem24, Result.andThen_ok] at h1
  unfold sliced at h1
  rw [Int.toNat_natCast] at h1
  refine ⟨_, h1, ?_⟩
  split
  · intro i hi
    rw [List.length_drop] at hi
    omega
  · exact h.tail
theorem slice_head {w : World} {a : Option Addr} {l : List UInt8} {c n : Nat} (h : BytesAt w a l) (hc : l.length ≤ c) (hn : n ≤ l.length) :
    (Instr.slice 24 (.slice a l.length c) none (some (.int .i64 n)) (some (.int .i64 n))).run Tryd.prog w = .ok (.slice a n n) w ∧ BytesAt w a (l.take n) := by
  have h1 := run_slice_hm (P := Tryd.prog) w 24 a l.length c elem24 .i64 .i64 n n (by omega) (by omega) (by omega)
  rw [sizeElem24, Result.andThen_ok] at h1
  unfold sliced at h1
  rw [Int.toNat_natCast] at h1
  refine ⟨?_, h.head⟩
  rw [h1]
  have e : a.map (·.add (0 * 1)) = a := by cases a <;> simp [Addr.add]
  rw [e]
  simp

/-- What take hands back: the bytes and the rest; or nothing. -/
def TakePost (W0 : World) (l : List UInt8) (p : Nat) (n : Int) (w : World) (e : Ending) (w' : World) : Prop :=
  if 0 ≤ n ∧ n ≤ (l.length : Int) then ∃ a, e = .returned (.slice a n.toNat n.toNat) ∧ BytesAt W0 a (l.take n.toNat) ∧ TkAt W0 w' p (l.drop n.toNat) ∧ Out p w.heap.size w w'
  else e = shortE ∧ w' = w

set_option maxRecDepth 100000 in
theorem take_walk (W0 : World) (p : Nat) (l : List UInt8) (n : Int) (w : World) (h : TkAt W0 w p l) (hl : l.length ≤ 140737488351232) : Calls Tryd.prog 47 #[.pointer (some ⟨p, 0, none⟩), .int .i64 n] w (TakePost W0 l p n w) := by
  obtain ⟨a, c, hp, hb0, hc, hWp, hW⟩ := h
  have hb := hb0.below hW
  have c0 := cell_whole hp 0
  have f0 := frozen_whole hp 0
  simp only [List.getElem?_toArray, List.getElem?_cons_zero] at c0
  by_cases hn : 0 ≤ n ∧ n ≤ (l.length : Int)
  · obtain ⟨m, rfl⟩ : ∃ m : Nat, n = m := ⟨n.toNat, by omega⟩
    obtain ⟨hs1, _⟩ := slice_head (n := m) hb hc (by omega)
    have hb1 := hb0.head (n := m)
    obtain ⟨a', hs2, hb2⟩ := slice_tail2 (n := m) w hb0 hc (by omega)
    have HW := Lib.hid hW
    have t1 : decide ((m : Int) < 0) = false := decide_eq_false (by omega)
    have t2 : decide ((l.length : Int) < (m : Int)) = false := decide_eq_false (by omega)
    have HP := Lib.hid hp
    have HB1 := Lib.hid hb1
    have HB2 := Lib.hid hb2
    have HPOST := Lib.hid (show ∀ e w', (∃ a, e = .returned (.slice a m m) ∧ BytesAt W0 a (l.take m) ∧ TkAt W0 w' p (l.drop m) ∧ Out p w.heap.size w w') → TakePost W0 l p m w e w' from fun e w' h => by
      unfold TakePost
      rw [if_pos hn]
      simpa using h)
    clear hp hb hb0 hb1 hb2 hW
    go_enter Tryd.func47, Tryd.ntmps47
    go_wp2
    go_ret
    have HO : Out p w.heap.size w (w.setCell ⟨p, 0, none⟩ (.slice a' (l.length - m) (c - m))) := (Out.refl _ _ _).setCell _ _ (.inl rfl)
    refine HPOST.out _ _ ⟨_, rfl, HB1.out, ⟨a', c - m, ?_, HB2.out, by rw [List.length_drop]; omega, hWp, HW.out.setCell hWp _⟩, HO⟩
    rw [set_whole (i := 0) HP.out, List.length_drop]; rfl
  · have HPOST := Lib.hid (show TakePost W0 l p n w shortE w by unfold TakePost; rw [if_neg hn]; exact ⟨rfl, rfl⟩)
    by_cases h0 : n < 0
    · have t1 : decide (n < 0) = true := decide_eq_true h0
      clear hn
      go_enter Tryd.func47, Tryd.ntmps47
      go_wp2
      exact ⟨rfl, HPOST.out⟩
    · have t1 : decide (n < 0) = false := decide_eq_false h0
      have h2 : (l.length : Int) < n := by omega
      have t2 : decide ((l.length : Int) < n) = true := decide_eq_true h2
      clear hn
      go_enter Tryd.func47, Tryd.ntmps47
      go_wp2
      exact ⟨rfl, HPOST.out⟩

theorem takePost_some {W0 : World} {l : List UInt8} {p n : Nat} {w w' : World} {e : Ending} {x : List UInt8 × List UInt8} (ht : takeB n l = some x) (h : TakePost W0 l p n w e w') : ∃ a, e = .returned (.slice a x.1.length x.1.length) ∧ BytesAt W0 a x.1 ∧ TkAt W0 w' p x.2 ∧ Out p w.heap.size w w' := by
  unfold takeB at ht
  split at ht
  · rename_i hn
    cases ht
    unfold TakePost at h
    rw [if_pos ⟨by omega, by omega⟩, Int.toNat_natCast] at h
    rw [List.length_take, Nat.min_eq_left hn]
    exact h
  · cases ht
theorem takePost_none {W0 : World} {l : List UInt8} {p n : Nat} {w w' : World} {e : Ending} (ht : takeB n l = none) (h : TakePost W0 l p n w e w') : e = shortE ∧ w' = w := by
  unfold takeB at ht
  split at ht
  · cases ht
  · unfold TakePost at h
    rwa [if_neg (by omega)] at h

theorem wrapB_wrap {n : Nat} (h : n < 18446744073709551616) : wrapB n = wrap64 (n : Int) := by
  unfold wrapB wrap64
  split <;> omega
theorem wrapB_ofInt {n : Nat} (h : n < 18446744073709551616) : BitVec.ofInt 64 (wrap64 (n : Int)) = BitVec.ofNat 64 n := by
  apply BitVec.eq_of_toNat_eq
  rw [BitVec.toNat_ofInt, BitVec.toNat_ofNat]
  unfold wrap64
  omega
theorem leV_snoc (l : List UInt8) (c : UInt8) : leV (l ++ [c]) = leV l + 256 ^ l.length * c.toNat := by
  induction l with
  | nil => simp [leV]
  | cons b l ih => simp only [List.cons_append, leV, ih, List.length_cons, Nat.pow_succ, Nat.mul_add]; rw [Nat.mul_comm (256 ^ l.length) 256, Nat.mul_assoc]; omega
theorem wrap64_is (n : Int) : IntKind.wrap .i64 n = wrap64 n := by
  show (if (true && decide (n % (2 ^ 64 : Int) ≥ (2 ^ 63 : Int))) = true then n % (2 ^ 64 : Int) - (2 ^ 64 : Int) else n % (2 ^ 64 : Int)) = _
  unfold wrap64
  by_cases h : n % (2 ^ 64 : Int) ≥ (2 ^ 63 : Int)
  · rw [decide_eq_true h]
    show n % (2 ^ 64 : Int) - (2 ^ 64 : Int) = _
    omega
  · rw [decide_eq_false h, if_neg (by simp)]; omega
theorem or_step {A c k : Nat} (hk : k < 8) (hA : A < 256 ^ k) (hc : c < 256) : bits .or .i64 (wrapB A) (wrap64 (wrap64 (c : Int) * 2 ^ (8 * k))) = wrapB (A + 256 ^ k * c) := by
  have hp : (256 : Nat) ^ k = 2 ^ (8 * k) := by rw [Nat.pow_mul]
  have h8 : (2 : Nat) ^ (8 * k) * 256 ≤ 18446744073709551616 := by
    have : (2 : Nat) ^ (8 * k) * 2 ^ 8 ≤ 2 ^ 64 := by rw [← Nat.pow_add]; exact Nat.pow_le_pow_right (by decide) (by omega)
    exact this
  rw [hp] at hA ⊢
  have hB : 2 ^ (8 * k) * c < 18446744073709551616 := Nat.lt_of_lt_of_le (Nat.mul_lt_mul_of_pos_left hc (Nat.two_pow_pos _)) h8
  have hA2 : A < 18446744073709551616 := by omega
  have hS : A + 2 ^ (8 * k) * c < 18446744073709551616 := by
    have : 2 ^ (8 * k) * c + 2 ^ (8 * k) ≤ 2 ^ (8 * k) * 256 := by rw [← Nat.mul_succ]; exact Nat.mul_le_mul_left _ (by omega)
    omega
  have e1 : wrap64 (c : Int) * 2 ^ (8 * k) = ((2 ^ (8 * k) * c : Nat) : Int) := by
    rw [show wrap64 (c : Int) = c by unfold wrap64; omega]
    push_cast
    rw [Int.mul_comm]
  rw [e1, wrapB_wrap hA2, wrapB_wrap hS]
  unfold bits
  show IntKind.i64.wrap ((BitVec.ofInt 64 (wrap64 (A : Int)) ||| BitVec.ofInt 64 (wrap64 ((2 ^ (8 * k) * c : Nat) : Int))).toNat) = _
  rw [wrapB_ofInt hA2, wrapB_ofInt hB, BitVec.toNat_or, BitVec.toNat_ofNat, BitVec.toNat_ofNat, Nat.mod_eq_of_lt hA2, Nat.mod_eq_of_lt hB, Nat.or_comm, ← Nat.two_pow_add_eq_or_of_lt hA, Nat.add_comm]
  exact wrap64_is _
/-- What num hands back. -/
def NumPost (W0 : World) (l : List UInt8) (p n : Nat) (w : World) (e : Ending) (w' : World) : Prop :=
  match numB n l with
  | none => e = shortE ∧ w' = w
  | some (v, m) => e = .returned (.int .i64 (wrapB v)) ∧ TkAt W0 w' p m ∧ Out p w.heap.size w w'

set_option maxRecDepth 100000 in
set_option maxHeartbeats 1000000 in
theorem tnum_walk (W0 : World) (p : Nat) (l : List UInt8) (n : Nat) (hn : n ≤ 8) (w : World) (h : TkAt W0 w p l) (hl : l.length ≤ 140737488351232) : Calls Tryd.prog 48 #[.pointer (some ⟨p, 0, none⟩), .int .i64 n] w (NumPost W0 l p n w) := by
  have HT := Lib.hid (take_walk W0 p l n w h hl)
  clear h
  cases ht : takeB n l with
  | none =>
    have HPOST := Lib.hid (show NumPost W0 l p n w shortE w by unfold NumPost numB; rw [ht]; exact ⟨rfl, rfl⟩)
    have HT2 := Lib.hid (HT.out.mono fun e w' h => takePost_none ht h)
    clear HT ht
    go_enter Tryd.func48, Tryd.ntmps48
    go_wp2_with fail
    refine HT2.out.mono ?_
    rintro e w' ⟨rfl, rfl⟩
    unfold shortE
    go_wp2
    exact ⟨rfl, HPOST.out⟩
  | some x =>
    obtain ⟨b, m⟩ := x
    have HT2 := Lib.hid (HT.out.mono fun e w' h => takePost_some ht h)
    have hbl : b.length = n := (takeB_len ht).2.1
    have HPOST := Lib.hid (show ∀ w', TkAt W0 w' p m → Out p w.heap.size w w' → NumPost W0 l p n w (.returned (.int .i64 (wrapB (leV b)))) w' from fun w' h1 h2 => by unfold NumPost numB; rw [ht]; exact ⟨rfl, h1, h2⟩)
    clear HT ht
    go_enter Tryd.func48, Tryd.ntmps48
    go_wp2_with fail
    refine HT2.out.mono ?_
    rintro e w' ⟨a, rfl, hb0, htk, ho⟩
    have hb := hb0.below htk.low
    have HB := Lib.hid hb
    have HTK := Lib.hid htk
    have HO := Lib.hid ho
    clear hb hb0 htk ho HT2
    go_wp2
    go_loopw [5, 12] (fun v5 v12 wr => ∃ k : Nat, k ≤ b.length ∧ v12 = .int .i64 k ∧ v5 = .int .i64 (wrapB (leV (b.take k))) ∧ wr = w') (fun _ v12 _ => b.length - (intOf v12).toNat)
    case atStart => exact ⟨0, by omega, rfl, rfl, rfl⟩
    case round =>
      obtain ⟨k, hk, rfl, rfl, rfl⟩ := hrel
      by_cases hlt : k < b.length
      · obtain ⟨g, off, rfl, hg, hc⟩ := HB.out k hlt
        have HST := Lib.hid (show bits .or .i64 (wrapB (leV (b.take k))) (wrap64 (wrap64 (b[k].toNat : Int) * 2 ^ (8 * k))) = wrapB (leV (b.take (k + 1))) by
          have h1 := leV_lt (b.take k)
          have h2 := leV_snoc (b.take k) b[k]
          rw [List.length_take, Nat.min_eq_left (by omega)] at h1 h2
          rw [← List.take_succ_eq_append_getElem hlt] at h2
          rw [h2]
          exact or_step (by omega) h1 b[k].toNat_lt)
        go_wp2
        go_roundw
        case rel => exact ⟨k + 1, by omega, by go_num, by rw [HST.out], trivial⟩
        case measure => simp [intOf]; omega
      · obtain rfl : k = b.length := by omega
        rw [List.take_length]
        go_wp2
        go_ret
        exact HPOST.out _ HTK.out HO.out
end Go.Proofs.YtenpihkfghfpaaaDoor
