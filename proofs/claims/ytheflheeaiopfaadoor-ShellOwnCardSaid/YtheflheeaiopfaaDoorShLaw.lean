/- The statement on the shell's words: the law's function, walked. -/
import Derived.Test.YtheflheeaiopfaaDoorShWords
namespace Go.Proofs.YtheflheeaiopfaaDoor
open Go.RowKit Vl
set_option linter.unusedVariables false

theorem own_kept {w w' : World} {B : Nat} {e : TypeId} {v : Value} {n : Nat} {xs : List Value} (h : Own w B e v n xs) (hb : Below w.heap.size w w') : Own w' B e v n xs :=
  h.keep fun k hk => hb.block k (h.block hk).2.1

theorem own_cell {w : World} {B : Nat} {xs : List (List UInt8)} {a : Option Addr} {c : Nat} (h : Own w B 9 (.slice a xs.length c) xs.length (scells xs)) {k : Nat} (hk : k < xs.length) :
    ∃ g, a = some ⟨g, 0, none⟩ ∧ w.cell? ⟨g, k, none⟩ = some (.string (strOf xs[k])) := by
  cases a with
  | none => exact absurd (h.nil_of_none rfl).2.1 (by omega)
  | some ad =>
    obtain ⟨g, off, sp⟩ := ad
    obtain ⟨rfl, rfl, _, hc⟩ := h.cells rfl
    refine ⟨g, rfl, ?_⟩
    rw [hc k hk]
    unfold scells
    rw [List.getElem?_map, List.getElem?_eq_getElem hk]; rfl

theorem strOf_inj {a b : List UInt8} (h : strOf a = strOf b) : a = b := by
  have := congrArg (fun s : ByteArray => s.data.toList) h
  simpa using this

theorem same_walk (B B' : Nat) (va vb : Value) (xs ys : List (List UInt8)) (w : World) (ha : Own w B 9 va xs.length (scells xs)) (hb : Own w B' 9 vb ys.length (scells ys)) (hx : xs.length ≤ 1000000) (hy : ys.length ≤ 1000000) :
    Calls Tryd.prog 9 #[va, vb] w fun e w' => e = .returned (.bool (decide (xs = ys))) ∧ Below w.heap.size w w' := by
  obtain ⟨aa, ca, rfl⟩ := ha.form
  obtain ⟨ab, cb, rfl⟩ := hb.form
  by_cases hl : xs.length = ys.length
  · have HA := Lib.hid ha
    have HB := Lib.hid hb
    clear ha hb
    have n1 : (((xs.length : Int)) != (ys.length : Int)) = false := by simp; omega
    go_enter Tryd.func9, Tryd.ntmps9
    go_wp2
    go_loopw [5] (fun i wr => ∃ k : Nat, k ≤ xs.length ∧ i = .int .i64 k ∧ xs.take k = ys.take k ∧ Below w.heap.size w wr) (fun i _ => xs.length - (intOf i).toNat)
    case atStart => exact ⟨0, by omega, rfl, rfl, Below.refl _ _⟩
    case round =>
      obtain ⟨k, hk, rfl, ht, hbw⟩ := hrel
      have HT := Lib.hid ht
      have HBW := Lib.hid hbw
      clear ht hbw
      by_cases hlt : k < xs.length
      · obtain ⟨ga, rfl, hca⟩ := own_cell (own_kept HA.out HBW.out) hlt
        obtain ⟨gb, rfl, hcb⟩ := own_cell (own_kept HB.out HBW.out) (show k < ys.length by omega)
        by_cases he : xs[k] = ys[k]'(by omega)
        · rw [he] at hca
          have HE := Lib.hid he
          clear he
          generalize hsv : strOf (ys[k]'(by omega)) = sv at *
          go_wp2
          refine wp_canon (by kernel_rfl) (by kernel_rfl) ?_
          go_wp2
          refine ⟨rfl, ?_⟩
          go_wp2
          go_roundw
          case rel =>
            refine ⟨k + 1, by omega, by go_num, ?_, HBW.out.drew⟩
            rw [List.take_succ_eq_append_getElem hlt, List.take_succ_eq_append_getElem (show k < ys.length by omega), HT.out, HE.out]
          case measure => simp [intOf]; omega
        · have hne : ((strOf xs[k]).toList == (strOf (ys[k]'(by omega))).toList) = false := by
            rw [ByteArray.toList_eq, ByteArray.toList_eq, beq_eq_false_iff_ne]; exact he
          have hF : decide (xs = ys) = false := decide_eq_false fun e => by subst e; exact he rfl
          have HF := Lib.hid hF
          clear hF
          have HE := Lib.hid he
          clear he
          generalize hsv : strOf (ys[k]'(by omega)) = sv at *
          generalize hsu : strOf xs[k] = su at *
          go_wp2
          refine wp_canon (by kernel_rfl) (by kernel_rfl) ?_
          go_wp2
          refine ⟨rfl, ?_⟩
          go_wp2
          go_ret
          exact ⟨by rw [HF.out]; rfl, HBW.out.drew⟩
      · have hkk : k = xs.length := by omega
        have hxy : xs = ys := by
          have := HT.out
          rw [List.take_of_length_le (by omega), List.take_of_length_le (by omega)] at this
          exact this
        have HX := Lib.hid hxy
        clear hxy
        go_wp2
        go_ret
        exact ⟨by rw [decide_eq_true HX.out]; rfl, HBW.out⟩
  · have hne : decide (xs = ys) = false := decide_eq_false fun e => hl (by rw [e])
    rw [hne]
    have n1 : (((xs.length : Int)) != (ys.length : Int)) = true := by simp; omega
    clear ha hb hne
    go_enter Tryd.func9, Tryd.ntmps9
    go_wp2
    go_ret
    exact ⟨rfl, Below.refl _ _⟩

theorem told_len {t : W.RS} {ws : List (List UInt8)} (h : W.told t = some ws) : ws.length ≤ t.words.length + 1 := by
  by_cases e : t.at_ = 1
  · rw [told_at e] at h
    split at h
    · cases h
    · cases h; simp [W.RS.ends]
  · rw [told_not e] at h
    split at h
    · cases h
    · cases h; omega

theorem wsOf_le (l : List UInt8) : (wsOf l).length ≤ 65537 := by
  unfold wsOf
  split
  · exact Nat.zero_le _
  · rename_i hl
    have h1 := (W.Fit.run l W.Fit.init).words
    cases hw : W.wordsOf l with
    | none => exact Nat.zero_le _
    | some ws =>
      have := told_len hw
      show ws.length ≤ _
      omega

theorem same_self (B B' : Nat) (va vb : Value) (xs : List (List UInt8)) (w : World) (ha : Own w B 9 va xs.length (scells xs)) (hb : Own w B' 9 vb xs.length (scells xs)) (hx : xs.length ≤ 1000000) :
    Calls Tryd.prog 9 #[va, vb] w fun e w' => e = .returned (.bool true) ∧ Below w.heap.size w w' := by
  have := same_walk B B' va vb xs xs w ha hb hx hx
  rw [decide_eq_true rfl] at this
  exact this

theorem words_a (l : List UInt8) (hl : l = [97]) : wsOf l = [[97]] ∧ erOf l = 0 := by subst hl; exact ⟨rfl, rfl⟩

set_option maxRecDepth 100000 in
theorem shellWords_walk (s : ByteArray) (w : World) (hT : Lib.Utf8Tabs 0 1 w) (hs : s.size ≤ maxLen) : Calls Tryd.prog 3 #[.string s] w fun e w' => e = .returned (.bool true) ∧ Below w.heap.size w w' := by
  have HT := Lib.hid hT
  clear hT
  have h97 := Lib.hid (words_walk ⟨#[97]⟩ w HT.out (by unfold maxLen; decide))
  have HS := Lib.hid hs
  clear hs
  go_enter Tryd.func3, Tryd.ntmps3
  go_wp2_with fail
  refine h97.out.mono ?_
  rintro e w1 ⟨v1, rfl, hO1, hB1⟩
  rw [(words_a (bytes ⟨#[97]⟩) rfl).1] at hO1
  rw [(words_a (bytes ⟨#[97]⟩) rfl).2]
  obtain ⟨a1, c1, rfl⟩ := hO1.form
  obtain ⟨g1, rfl, hc1⟩ := own_cell (xs := [[97]]) hO1 (k := 0) (by decide)
  have hc1' : w1.cell? ⟨g1, 0, none⟩ = some (.string ⟨#[97]⟩) := hc1
  have HB1 := Lib.hid hB1
  clear hc1 hO1 hB1
  go_wp2_with fail
  refine (words_walk s w1 (Utf8Tabs_below HT.out HB1.out) HS.out).mono ?_
  rintro e w2 ⟨v2, rfl, hO2, hB2⟩
  have HB2 := Lib.hid hB2
  have HO2 := Lib.hid hO2
  have HT2 := Lib.hid (Utf8Tabs_below (Utf8Tabs_below HT.out HB1.out) hB2)
  clear hB2 hO2
  go_wp2_with fail
  refine (refWords_walk s w2 HS.out).mono ?_
  rintro e w3 ⟨v3, rfl, hO3, hB3⟩
  have HB3 := Lib.hid hB3
  have HO3 := Lib.hid hO3
  have hlen := wsOf_le (bytes s)
  have hsame := Lib.hid (same_self _ _ v2 v3 (wsOf (bytes s)) w3 (own_kept HO2.out hB3) HO3.out (by omega))
  clear hB3 hO3 hlen
  generalize erOf (bytes s) = er at *
  go_wp2_with fail
  refine hsame.out.mono ?_
  rintro e w4 ⟨rfl, hB4⟩
  have HB4 := Lib.hid hB4
  clear hB4
  go_wp2
  go_ret
  exact ⟨rfl, HB1.out.trans ((HB2.out.mono HB1.out.size).trans ((HB3.out.mono (Nat.le_trans HB1.out.size HB2.out.size)).trans (HB4.out.mono (Nat.le_trans HB1.out.size (Nat.le_trans HB2.out.size HB3.out.size)))))⟩
end Go.Proofs.YtheflheeaiopfaaDoor
