/- A name of a directory: the reference's Name, codec.Name. -/
import Derived.Test.YtenpihkfghfpaaaDoorDBase
import Derived.Test.YtenpihkfghfpaaaDoorShelf
namespace Go.Proofs.YtenpihkfghfpaaaDoor
open Go.RowKit Vl
set_option linter.unusedVariables false

def bytes (s : ByteArray) : List UInt8 := s.data.toList
theorem bytes_len (s : ByteArray) : (bytes s).length = s.size := Array.length_toList

def nameE (l : List UInt8) : Int := if 54 < l.length then 7 else if nameB l = true then 0 else 21

theorem nameE_long {l : List UInt8} (h : 54 < l.length) : nameE l = 7 := by unfold nameE; rw [if_pos h]
theorem nameE_bad {l : List UInt8} (h : ¬ 54 < l.length) (hb : nameB l = false) : nameE l = 21 := by unfold nameE; rw [if_neg h, if_neg (by rw [hb]; decide)]
theorem nameE_good {l : List UInt8} (hb : nameB l = true) : nameE l = 0 := by
  unfold nameE
  rw [if_neg (by have := (nameB_free hb).2.2.2; omega), if_pos hb]
theorem nameB_dots {l : List UInt8} (h : l = [] ∨ l = [46] ∨ l = [46, 46]) : nameB l = false := by
  rcases h with rfl | rfl | rfl <;> rfl
theorem nameB_sign {l : List UInt8} {c : UInt8} (h : c ∈ l) (hc : c = 47 ∨ c = 0) : nameB l = false := by
  cases hb : nameB l with
  | false => rfl
  | true =>
    obtain ⟨h1, h2, _⟩ := nameB_free hb
    rcases hc with rfl | rfl
    · exact absurd h h1
    · exact absurd h h2
theorem nameB_yes {l : List UInt8} (h : ¬ 54 < l.length) (h0 : l ≠ []) (h1 : l ≠ [46]) (h2 : l ≠ [46, 46]) (hc : ∀ c ∈ l, c ≠ 47 ∧ c ≠ 0) : nameB l = true := by
  unfold nameB
  simp only [Bool.and_eq_true, decide_eq_true_eq, Bool.not_eq_true', List.contains_eq_mem, decide_eq_false_iff_not, beq_eq_false_iff_ne, ne_eq]
  exact ⟨⟨⟨⟨⟨by omega, h0⟩, h1⟩, h2⟩, fun e => (hc _ e).1 rfl⟩, fun e => (hc _ e).2 rfl⟩

set_option maxRecDepth 100000 in
set_option maxHeartbeats 1000000 in
theorem refName_walk (s : ByteArray) (w : World) (hs : s.size ≤ maxLen) : Calls Tryd.prog 56 #[.string s] w fun e w' => e = .returned (.int .i64 (nameE (bytes s))) ∧ Below w.heap.size w w' := by
  unfold maxLen at hs
  by_cases hlong : 54 < s.size
  · have hn := nameE_long (l := bytes s) (by rw [bytes_len]; exact hlong)
    have HN := Lib.hid hn
    clear hn
    go_enter Tryd.func56, Tryd.ntmps56
    go_wp2
    go_ret
    exact ⟨by rw [HN.out]; rfl, Below.refl _ _⟩
  · have hl : ¬ 54 < (bytes s).length := by rw [bytes_len]; exact hlong
    have HLg := Lib.hid hl
    clear hl
    by_cases hd : bytes s = [] ∨ bytes s = [46] ∨ bytes s = [46, 46]
    · have hn := nameE_bad HLg.out (nameB_dots hd)
      have HN := Lib.hid hn
      clear hn
      have ht : s.toList = bytes s := ByteArray.toList_eq s
      rcases hd with h | h | h
      all_goals
        rw [h] at ht
        clear h
        go_enter Tryd.func56, Tryd.ntmps56
        go_wp2
        go_ret
        exact ⟨by rw [HN.out]; rfl, Below.refl _ _⟩
    · have ht : s.toList = bytes s := ByteArray.toList_eq s
      have h0 : (s.toList.isEmpty) = false := by rw [ht]; simp only [List.isEmpty_eq_false_iff]; exact fun e => hd (.inl e)
      have h1 : (s.toList == [46]) = false := by rw [ht, beq_eq_false_iff_ne]; exact fun e => hd (.inr (.inl e))
      have h2 : (s.toList == [46, 46]) = false := by rw [ht, beq_eq_false_iff_ne]; exact fun e => hd (.inr (.inr e))
      have HD := Lib.hid hd
      clear ht hd
      go_enter Tryd.func56, Tryd.ntmps56
      go_wp2
      go_loopw [3] (fun i wr => ∃ k : Nat, k ≤ s.size ∧ i = .int .i64 k ∧ (∀ c ∈ (bytes s).take k, c ≠ 47 ∧ c ≠ 0) ∧ wr = w) (fun i _ => s.size - (intOf i).toNat)
      case atStart => exact ⟨0, by omega, rfl, by simp, rfl⟩
      case round =>
        obtain ⟨k, hk, rfl, hfree, rfl⟩ := hrel
        have HF := Lib.hid hfree
        clear hfree
        by_cases hlt : k < s.size
        · have hx : (bytes s)[k]'(by rw [bytes_len]; exact hlt) = s[k] := rfl
          have HM := Lib.hid (List.getElem_mem (l := bytes s) (n := k) (by rw [bytes_len]; exact hlt))
          have HT := Lib.hid (List.take_succ_eq_append_getElem (l := bytes s) (i := k) (by rw [bytes_len]; exact hlt))
          rw [hx] at HM HT
          clear hx
          generalize hc : s[k] = c at *
          by_cases hbad : c = 47 ∨ c = 0
          · have HN := Lib.hid (nameE_bad HLg.out (nameB_sign HM.out hbad))
            rcases hbad with rfl | rfl
            all_goals
              go_wp2
              go_ret
              exact ⟨by rw [HN.out]; rfl, Below.refl _ _⟩
          · have n1 : (((c.toNat : Nat) : Int) == 47) = false := by
              rw [beq_eq_false_iff_ne]; exact fun e => hbad (.inl (UInt8.toNat_inj.1 (by simpa using Int.ofNat_inj.1 e)))
            have n2 : (((c.toNat : Nat) : Int) == 0) = false := by
              rw [beq_eq_false_iff_ne]; exact fun e => hbad (.inr (UInt8.toNat_inj.1 (by simpa using Int.ofNat_inj.1 e)))
            have HC := Lib.hid (show c ≠ 47 ∧ c ≠ 0 from ⟨fun e => hbad (.inl e), fun e => hbad (.inr e)⟩)
            clear hbad
            go_wp2
            go_roundw
            case rel =>
              refine ⟨k + 1, by omega, by go_num, fun d hd => ?_, trivial⟩
              rw [HT.out] at hd
              rcases List.mem_append.1 hd with hd | hd
              · exact HF.out d hd
              · rw [List.mem_singleton.1 hd]; exact HC.out
            case measure => simp [intOf]; omega
        · have hk2 : (bytes s).take k = bytes s := List.take_of_length_le (by rw [bytes_len]; omega)
          rw [hk2] at HF
          have hn := nameE_good (nameB_yes HLg.out (fun e => HD.out (.inl e)) (fun e => HD.out (.inr (.inl e))) (fun e => HD.out (.inr (.inr e))) HF.out)
          have HN := Lib.hid hn
          clear hn hk2
          go_wp2
          go_ret
          exact ⟨by rw [HN.out]; rfl, Below.refl _ _⟩
end Go.Proofs.YtenpihkfghfpaaaDoor
