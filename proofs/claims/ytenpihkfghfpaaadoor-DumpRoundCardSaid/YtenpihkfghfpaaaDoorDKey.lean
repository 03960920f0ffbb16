/- The reference's key of a path. -/
import Derived.Test.YtenpihkfghfpaaaDoorDAhead
import Derived.Lib.ConvBytes
import Derived.Laws.IdiomStrings
namespace Go.Proofs.YtenpihkfghfpaaaDoor
open Go.RowKit Vl
set_option linter.unusedVariables false

theorem bytes_conv {w : World} {a : Option Addr} {l : List UInt8} (h : BytesAt w a l) (c : Nat) : (convert 24 9 (.slice a l.length c)).run Tryd.prog w = .ok (.string (strOf l)) w := by
  cases a with
  | none =>
    have hl : l = [] := by
      cases l with
      | nil => rfl
      | cons x l => obtain ⟨g, off, h1, _⟩ := h 0 (by simp); cases h1
    subst hl
    rw [run_convert_bytes_nil w 24 5 Tryd.underlying24 Tryd.underlying5 _ c 9 Tryd.underlying9]
    rfl
  | some ad =>
    refine run_convert_bytes_back w 24 9 5 ad c l Tryd.underlying24 Tryd.underlying5 Tryd.underlying9 (fun j hj => ?_)
    obtain ⟨g, off, e, _, hc⟩ := h j hj
    cases e
    have hplain : (⟨g, off, none⟩ : Addr).add j = ⟨g, off + j, none⟩ := by unfold Addr.add; split <;> simp_all
    rw [hplain, hc]

/-- The row that a conversion of a text to bytes makes. -/
def KeyRow (w : World) (b S : Nat) (m : List UInt8) : Prop :=
  ∃ cs, w.heap[b]? = some (.cells cs 5 (S, S + 1)) ∧ cs.size = S ∧ m.length ≤ S ∧ ∀ j (h : j < m.length), cs[j]? = some (.int .u8 m[j].toNat)
theorem KeyRow.lt {w : World} {b S : Nat} {m : List UInt8} (h : KeyRow w b S m) : b < w.heap.size := by obtain ⟨cs, h1, _⟩ := h; exact lt_whole h1
theorem KeyRow.cell {w : World} {b S : Nat} {m : List UInt8} (h : KeyRow w b S m) {j : Nat} (hj : j < m.length) : w.cell? ⟨b, j, none⟩ = some (.int .u8 m[j].toNat) := by
  obtain ⟨cs, h1, h2, h3, h4⟩ := h
  rw [cell_whole h1 j]; exact h4 j hj
theorem KeyRow.free {w : World} {b S : Nat} {m : List UInt8} (h : KeyRow w b S m) {j : Nat} (hj : j < m.length) : w.frozen? ⟨b, j, none⟩ = false := by
  obtain ⟨cs, h1, h2, h3, h4⟩ := h
  simp only [World.frozen?, h1]
  simp
  omega
theorem KeyRow.set {w : World} {b S : Nat} {m : List UInt8} (h : KeyRow w b S m) {j : Nat} (hj : j < m.length) (x : UInt8) : KeyRow (w.setCell ⟨b, j, none⟩ (.int .u8 x.toNat)) b S (m.set j x) := by
  obtain ⟨cs, h1, h2, h3, h4⟩ := h
  refine ⟨cs.setIfInBounds j (.int .u8 x.toNat), by simp [World.setCell, Array.getElem?_modify, h1], by simpa using h2, by simpa using h3, fun i hi => ?_⟩
  rw [List.length_set] at hi
  by_cases e : i = j
  · subst e
    rw [Array.getElem?_setIfInBounds_self_of_lt (by omega)]
    simp
  · rw [Array.getElem?_setIfInBounds_ne (Ne.symm e), h4 i hi, List.getElem_set_ne (Ne.symm e)]
theorem KeyRow.bytesAt {w : World} {b S : Nat} {m : List UInt8} (h : KeyRow w b S m) : BytesAt w (some ⟨b, 0, none⟩) m := fun i hi => ⟨b, 0, rfl, h.lt, by rw [Nat.zero_add]; exact h.cell hi⟩
theorem keyRow_new (w : World) (s : ByteArray) : KeyRow (Lib.bytesWorld w 5 s) w.heap.size (Lib.bytesCells w 5 s).size (bytes s) := by
  refine ⟨_, Lib.bytesWorld_at_new w 5 s, rfl, ?_, fun j hj => ?_⟩
  · unfold Lib.bytesCells
    rw [Array.size_append, Array.size_map, bytes_len]
    show s.size ≤ s.size + _
    omega
  · have hjs : j < s.size := by rw [bytes_len] at hj; exact hj
    have := Lib.bytesWorld_cell w 5 s j hjs
    rw [cell_whole (Lib.bytesWorld_at_new w 5 s)] at this
    have hd : j < s.data.size := hjs
    have e : s.data.toList.getD j 0 = (bytes s)[j] := by
      rw [List.getD_eq_getElem?_getD, List.getElem?_eq_getElem (by simpa using hd)]; rfl
    rw [this, e]
    rfl
theorem below_bytesWorld (w : World) (s : ByteArray) : Below w.heap.size w (Lib.bytesWorld w 5 s) := by
  have hsz := Lib.bytesWorld_size w 5 s
  refine ⟨?_, ?_, ?_, by omega, fun k hk => Lib.bytesWorld_at_old w 5 s k hk⟩
  all_goals
    unfold Lib.bytesWorld World.freeze
    split <;> rfl

def keyMix (l : List UInt8) (k : Nat) : List UInt8 := keyB (l.take k) ++ l.drop k
theorem keyMix_len (l : List UInt8) (k : Nat) : (keyMix l k).length = l.length := by
  unfold keyMix keyB
  rw [List.length_append, List.length_map, List.length_take, List.length_drop]; omega
theorem keyMix_at (l : List UInt8) (k : Nat) (h : k < l.length) : (keyMix l k)[k]'(by rw [keyMix_len]; exact h) = l[k] := by
  unfold keyMix keyB
  rw [List.getElem_append_right (by rw [List.length_map, List.length_take]; omega), List.getElem_drop]
  congr 1
  rw [List.length_map, List.length_take]; omega
theorem keyMix_next (l : List UInt8) (k : Nat) (h : k < l.length) : keyMix l (k + 1) = (keyMix l k).set k (if l[k] = 47 then 0 else l[k]) := by
  have e1 : (keyB (l.take k)).length = k := by unfold keyB; rw [List.length_map, List.length_take]; omega
  unfold keyMix
  rw [List.take_succ_eq_append_getElem h, keyB_append, List.set_append, if_neg (by omega), e1, Nat.sub_self, List.drop_eq_getElem_cons h, List.set_cons_zero, List.append_assoc]
  rfl
theorem keyMix_same (l : List UInt8) (k : Nat) (h : k < l.length) (hc : l[k] ≠ 47) : keyMix l (k + 1) = keyMix l k := by
  rw [keyMix_next l k h, if_neg hc]
  apply List.ext_getElem (by simp)
  intro i h1 h2
  by_cases e : i = k
  · subst e; rw [List.getElem_set_self, keyMix_at l i h]
  · rw [List.getElem_set_ne (Ne.symm e)]
theorem keyMix_zero (l : List UInt8) : keyMix l 0 = l := rfl
theorem keyMix_all (l : List UInt8) : keyMix l l.length = keyB l := by unfold keyMix; rw [List.take_length, List.drop_length, List.append_nil]

set_option maxRecDepth 100000 in
set_option maxHeartbeats 1000000 in
theorem key_walk (s : ByteArray) (w : World) (hs : s.size ≤ maxLen) : Calls Tryd.prog 40 #[.string s] w fun e w' => e = .returned (.string (strOf (keyB (bytes s)))) ∧ Below w.heap.size w w' := by
  unfold maxLen at hs
  have hcv := Lib.run_convert_string_bytes (P := Tryd.prog) w 9 24 5 s Tryd.underlying9 Tryd.underlying24 Tryd.underlying5
  have hK := Lib.hid (keyRow_new w s)
  have hB := Lib.hid (below_bytesWorld w s)
  generalize Lib.bytesWorld w 5 s = w1 at *
  generalize grownCap w s.size 0 5 = cap at *
  generalize (Lib.bytesCells w 5 s).size = S at *
  have hlen := bytes_len s
  go_enter Tryd.func40, Tryd.ntmps40
  go_wp2
  go_loopw [4] (fun v4 wr => ∃ k : Nat, k ≤ s.size ∧ v4 = .int .i64 k ∧ KeyRow wr w.heap.size S (keyMix (bytes s) k) ∧ Below w.heap.size w wr) (fun v4 _ => s.size - (intOf v4).toNat)
  case atStart => exact ⟨0, by omega, rfl, hK.out, hB.out⟩
  case round =>
    obtain ⟨k, hk, rfl, hR, hb⟩ := hrel
    have HR := Lib.hid hR
    have HB := Lib.hid hb
    clear hR hb
    by_cases hlt : k < s.size
    · have hkl : k < (bytes s).length := by rw [hlen]; exact hlt
      have hkm : k < (keyMix (bytes s) k).length := by rw [keyMix_len]; exact hkl
      have hc := HR.out.cell hkm
      rw [keyMix_at _ _ hkl] at hc
      have hf := HR.out.free hkm
      by_cases h47 : (bytes s)[k] = 47
      · have n1 : ((((bytes s)[k].toNat : Nat) : Int) == 47) = true := by rw [h47]; rfl
        have HN := Lib.hid (HR.out.set hkm 0)
        have hnx := keyMix_next _ _ hkl
        rw [if_pos h47] at hnx
        rw [← hnx] at HN
        clear hnx h47 hkm
        generalize (((bytes s)[k].toNat : Nat) : Int) = z at *
        go_wp2
        go_roundw
        case rel => exact ⟨k + 1, by omega, by go_num, HN.out, Below.setCell HB.out (Nat.le_refl _) _⟩
        case measure => simp [intOf]; omega
      · have n1 : ((((bytes s)[k].toNat : Nat) : Int) == 47) = false := by
          rw [beq_eq_false_iff_ne]; exact fun e => h47 (UInt8.toNat_inj.1 (by simpa using Int.ofNat_inj.1 e))
        have HN : Hid (KeyRow wr w.heap.size S (keyMix (bytes s) (k + 1))) := by rw [keyMix_same _ _ hkl h47]; exact HR
        clear h47 hkm
        generalize (((bytes s)[k].toNat : Nat) : Int) = z at *
        go_wp2
        go_roundw
        case rel => exact ⟨k + 1, by omega, by go_num, HN.out, HB.out⟩
        case measure => simp [intOf]; omega
    · obtain rfl : k = s.size := by omega
      rw [← hlen, keyMix_all] at HR
      have hcb := bytes_conv HR.out.bytesAt cap
      rw [show (keyB (bytes s)).length = s.size by unfold keyB; rw [List.length_map, hlen]] at hcb
      generalize hks : strOf (keyB (bytes s)) = ks at *
      have HKS := Lib.hid hks
      clear hks
      go_wp2
      go_ret
      exact ⟨by rw [HKS.out]; rfl, HB.out⟩
end Go.Proofs.YtenpihkfghfpaaaDoor
