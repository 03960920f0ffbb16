/- The reference's parts of a path. -/
import Derived.Test.YtenpihkfghfpaaaDoorDAny
namespace Go.Proofs.YtenpihkfghfpaaaDoor
open Go.RowKit Vl
set_option linter.unusedVariables false

/-- On the way through the tail t of a path: the names before place f are done, none of the bytes from f to k is a slash. (Places count from 1.) -/
structure PInv (t : List UInt8) (ps : List (List UInt8)) (f k : Nat) : Prop where
  split : splitS t = ps ++ splitS (t.drop (f - 1))
  good : ∀ p ∈ ps, nameB p = true
  f1 : 1 ≤ f
  fk : f ≤ k
  kl : k ≤ t.length + 1
  free : (47 : UInt8) ∉ (t.drop (f - 1)).take (k - f)
theorem PInv.start (t : List UInt8) : PInv t [] 1 1 := ⟨by simp, by simp, by omega, by omega, by omega, by simp⟩
theorem PInv.step {t : List UInt8} {ps : List (List UInt8)} {f k : Nat} (h : PInv t ps f k) (hk : k < t.length + 1) (hc : t[k - 1]'(by have := h.f1; have := h.fk; omega) ≠ 47) : PInv t ps f (k + 1) := by
  have h1 := h.f1
  have h2 := h.fk
  refine ⟨h.split, h.good, h.f1, by omega, by omega, ?_⟩
  rw [show k + 1 - f = (k - f) + 1 by omega, List.take_succ_eq_append_getElem (by rw [List.length_drop]; omega), List.mem_append]
  rintro (hm | hm)
  · exact h.free hm
  · rw [List.mem_singleton, List.getElem_drop] at hm
    apply hc
    rw [hm]
    congr 1
    omega
/-- The name that ends at k. -/
def nameAt (t : List UInt8) (f k : Nat) : List UInt8 := (t.drop (f - 1)).take (k - f)
theorem PInv.cut {t : List UInt8} {ps : List (List UInt8)} {f k : Nat} (h : PInv t ps f k) (hk : k < t.length + 1) (hc : t[k - 1]'(by have := h.f1; have := h.fk; omega) = 47) :
    splitS t = (ps ++ [nameAt t f k]) ++ splitS (t.drop k) := by
  have h1 := h.f1
  have h2 := h.fk
  have e : t.drop (f - 1) = nameAt t f k ++ 47 :: t.drop k := by
    have e2 : t.drop (k - 1) = 47 :: t.drop k := by
      rw [List.drop_eq_getElem_cons (show k - 1 < t.length by omega), hc, show k - 1 + 1 = k by omega]
    unfold nameAt
    conv => lhs; rw [← List.take_append_drop (k - f) (t.drop (f - 1))]
    rw [List.drop_drop, show f - 1 + (k - f) = k - 1 by omega, e2]
  rw [h.split, e, splitS_append_slash (nameAt t f k) (t.drop k) h.free, List.append_assoc]
  rfl
theorem PInv.more {t : List UInt8} {ps : List (List UInt8)} {f k : Nat} (h : PInv t ps f k) (hk : k < t.length + 1) (hc : t[k - 1]'(by have := h.f1; have := h.fk; omega) = 47) (hn : nameB (nameAt t f k) = true) : PInv t (ps ++ [nameAt t f k]) (k + 1) (k + 1) := by
  refine ⟨h.cut hk hc, fun p hp => ?_, by omega, by omega, by omega, by simp⟩
  rcases List.mem_append.1 hp with hp | hp
  · exact h.good p hp
  · rw [List.mem_singleton.1 hp]; exact hn
theorem PInv.last {t : List UInt8} {ps : List (List UInt8)} {f k : Nat} (h : PInv t ps f k) (hk : k = t.length + 1) : splitS t = ps ++ [nameAt t f k] := by
  have h1 := h.f1
  have h2 := h.fk
  have e : nameAt t f k = t.drop (f - 1) := by
    unfold nameAt
    exact List.take_of_length_le (by rw [List.length_drop]; omega)
  have hf := h.free
  rw [show (t.drop (f - 1)).take (k - f) = nameAt t f k from rfl, e] at hf
  rw [h.split, splitS_of_free _ hf, e]

theorem partsB_none_of {t : List UInt8} {ps qs : List (List UInt8)} {n : List UInt8} (h : splitS t = (ps ++ [n]) ++ qs) (hn : nameB n = false) : partsB (47 :: t) = none := by
  unfold partsB
  simp only
  rw [if_neg]
  rintro ⟨_, _, h3⟩
  rw [h, List.all_append, List.all_append] at h3
  simp [hn] at h3
theorem partsB_some_of {t : List UInt8} {ps : List (List UInt8)} (hl : t.length + 1 ≤ 1023) (h : splitS t = ps) (hg : ∀ p ∈ ps, nameB p = true) : partsB (47 :: t) = some ps := by
  show (if (47 :: t).length ≤ 1023 ∧ (47 : UInt8) = 47 ∧ (splitS t).all nameB = true then some (splitS t) else none) = some ps
  rw [if_pos ⟨by simpa using hl, rfl, by rw [h]; exact List.all_eq_true.2 hg⟩, h]

theorem bytes_extract (s : ByteArray) (a b : Nat) (h : b ≤ s.size) : bytes (s.extract a b) = ((bytes s).drop a).take (b - a) := by
  unfold bytes
  rw [ByteArray.data_extract, Array.toList_extract]

theorem name_bytes {s : ByteArray} {t : List UInt8} {f k : Nat} (h : bytes s = 47 :: t) (hf : 1 ≤ f) (hk : k ≤ s.size) : bytes (s.extract f k) = nameAt t f k := by
  rw [bytes_extract s f k hk, h]
  unfold nameAt
  obtain ⟨j, rfl⟩ : ∃ j, f = j + 1 := ⟨f - 1, by omega⟩
  rfl
theorem strOf_bytes (s : ByteArray) : strOf (bytes s) = s := rfl

/-- What a call of parts leaves. -/
def PartsPost (s : ByteArray) (w : World) (e : Ending) (w' : World) : Prop :=
  (match partsB (bytes s) with
    | none => e = .returned (.tuple #[.slice none 0 0, .bool false])
    | some ps => ∃ v, e = .returned (.tuple #[v, .bool true]) ∧ Own w' w.heap.size 9 v ps.length (scells ps)) ∧ Below w.heap.size w w'
theorem parts_none {s : ByteArray} {w w' : World} (h : partsB (bytes s) = none) (hb : Below w.heap.size w w') : PartsPost s w (.returned (.tuple #[.slice none 0 0, .bool false])) w' := by
  unfold PartsPost; rw [h]; exact ⟨rfl, hb⟩
theorem parts_some {s : ByteArray} {w w' : World} {ps : List (List UInt8)} {v : Value} (h : partsB (bytes s) = some ps) (ho : Own w' w.heap.size 9 v ps.length (scells ps)) (hb : Below w.heap.size w w') : PartsPost s w (.returned (.tuple #[v, .bool true])) w' := by
  unfold PartsPost; rw [h]; exact ⟨⟨v, rfl, ho⟩, hb⟩

set_option maxRecDepth 100000 in
set_option maxHeartbeats 2000000 in
theorem refParts_walk (s : ByteArray) (w : World) (hs : s.size ≤ maxLen) : Calls Tryd.prog 39 #[.string s] w (PartsPost s w) := by
  unfold maxLen at hs
  obtain ⟨i0, hi, hz0, hz1, hz2⟩ := info_parts info9
  by_cases h0 : s.size = 0
  · have hN : partsB (bytes s) = none := by
      have : bytes s = [] := List.eq_nil_of_length_eq_zero (by rw [bytes_len]; exact h0)
      rw [this]; rfl
    have HN := Lib.hid hN
    clear hN
    go_enter Tryd.func39, Tryd.ntmps39
    go_wp2
    go_ret2
    exact parts_none HN.out (Below.refl _ _)
  · by_cases hlong : 1023 < s.size
    · have hN : partsB (bytes s) = none := by
        unfold partsB
        cases hb : bytes s with
        | nil => rfl
        | cons c l =>
          simp only
          rw [if_neg]
          rintro ⟨h1, _⟩
          have := bytes_len s
          rw [hb] at this
          omega
      have HN := Lib.hid hN
      clear hN
      go_enter Tryd.func39, Tryd.ntmps39
      go_wp2
      go_ret2
      exact parts_none HN.out (Below.refl _ _)
    · have h00 : 0 < s.size := by omega
      obtain ⟨t, ht⟩ : ∃ t, bytes s = s[0] :: t := by
        cases hb : bytes s with
        | nil => have := bytes_len s; rw [hb] at this; simp at this; omega
        | cons c l =>
          refine ⟨l, ?_⟩
          have : (bytes s)[0]'(by rw [bytes_len]; exact h00) = s[0] := rfl
          rw [← this]
          simp [hb]
      have htl : t.length + 1 = s.size := by rw [← bytes_len, ht]; rfl
      by_cases hsl : s[0] = 47
      · rw [hsl] at ht
        have n1 : ((s[0].toNat : Int) != 47) = false := by rw [hsl]; rfl
        have HT := Lib.hid ht
        have HTL := Lib.hid htl
        have hat : ∀ k (hk : k < s.size) (h1 : 1 ≤ k) (hb : k - 1 < t.length), t[k - 1] = s[k] := by
          intro k hk h1 hb
          obtain ⟨j, rfl⟩ : ∃ j, k = j + 1 := ⟨k - 1, by omega⟩
          have h : (bytes s)[j + 1]'(by rw [bytes_len]; exact hk) = s[j + 1] := rfl
          have h2 : (bytes s)[j + 1]? = some s[j + 1] := by rw [List.getElem?_eq_getElem (by rw [bytes_len]; exact hk), h]
          rw [ht, List.getElem?_cons_succ] at h2
          have hb' : j < t.length := hb
          rw [List.getElem?_eq_getElem hb'] at h2
          simpa using h2
        have HAT := Lib.hid hat
        have b0 : ((s.size : Int) == 0) = false := by rw [beq_eq_false_iff_ne]; omega
        have b1 : decide ((1023 : Int) < (s.size : Int)) = false := decide_eq_false (by omega)
        clear ht htl hat hsl
        go_enter Tryd.func39, Tryd.ntmps39
        go_wp2
        go_loopw [4, 5, 6] (fun v4 v5 v6 wr => ∃ (ps : List (List UInt8)) (f k : Nat), v5 = .int .i64 f ∧ v6 = .int .i64 k ∧ ps.length ≤ k ∧ Own wr w.heap.size 9 v4 ps.length (scells ps) ∧ Below w.heap.size w wr ∧ ((k ≤ s.size ∧ PInv t ps f k) ∨ (k = s.size + 1 ∧ splitS t = ps ∧ ∀ p ∈ ps, nameB p = true))) (fun _ _ v6 _ => s.size + 1 - (intOf v6).toNat)
        case atStart => exact ⟨[], 1, 1, rfl, rfl, by simp, Own.nil _ _ _, Below.refl _ _, .inl ⟨by omega, PInv.start t⟩⟩
        case round =>
          obtain ⟨ps, f, k, rfl, rfl, hpk, hO, hB, hcase⟩ := hrel
          have HO := Lib.hid hO
          have HB := Lib.hid hB
          clear hO hB
          have HTl := HTL.out
          rcases hcase with ⟨hk, hinv⟩ | ⟨hk, hsp, hgood⟩
          · have hf1 := hinv.f1
            have hfk := hinv.fk
            have HINV := Lib.hid hinv
            clear hinv
            have HNB := Lib.hid (name_bytes HT.out hf1 hk)
            have HNW := Lib.hid (fun w => refName_walk (s.extract f k) w (by unfold maxLen; rw [ByteArray.size_extract]; omega))
            by_cases hend : k = s.size
            · subst hend
              have HCUT := Lib.hid (HINV.out.last HTl.symm)
              have HGOOD := Lib.hid HINV.out.good
              clear HINV
              by_cases hn : nameB (nameAt t f s.size) = true
              ·
                rw [HNB.out, nameE_good hn] at HNW
                have HALL := Lib.hid (show ∀ p ∈ ps ++ [nameAt t f s.size], nameB p = true from fun p hp => by
                  rcases List.mem_append.1 hp with hp | hp
                  · exact HGOOD.out p hp
                  · rw [List.mem_singleton.1 hp]; exact hn)
                clear hn
                go_wp2_with (go_at_call 56; refine (HNW.out _).mono ?_)
                rintro e w2 ⟨rfl, hb2⟩
                have HO2 := Lib.hid (own_kept HO.out hb2)
                have HB2 := Lib.hid (HB.out.trans (hb2.mono HB.out.size))
                clear hb2
                go_wp2_with (at_builtin; refine wpList_append_own _ rfl _ _ 67 rfl w.heap.size 9 i0 (.string ByteArray.empty) 1 16 Tryd.underlying67 hi hz0 hz1 hz2 rfl (by decide) _ ps.length _ rfl (HO2.out.alloc _) ⟨w2.heap.size, 0, none⟩ 1 1 [_] rfl rfl (new_one _ _ _ _ rfl) (one_cell rfl) (by unfold maxLen; omega) (by omega) (le_alloc HB2.out.size _) ?_)
                intro v3 w3 h3 hg3 _
                have HO3 : Hid (Own w3 w.heap.size 9 v3 (ps ++ [nameAt t f s.size]).length (scells (ps ++ [nameAt t f s.size]))) := by
                  rw [List.length_append, scells_append, scells_one, ← HNB.out, strOf_bytes]
                  exact h3
                have HB3 := Lib.hid ((HB2.out.alloc HB2.out.size _).grown hg3 (le_alloc HB2.out.size _) (fun j hj => (HO2.out.block hj).1))
                clear h3 hg3
                go_wp2
                go_roundw
                case rel => exact ⟨ps ++ [nameAt t f s.size], (s.size + 1 : Nat), (s.size + 1 : Nat), by go_num, by go_num, by simp only [List.length_append, List.length_cons, List.length_nil]; omega, HO3.out, HB3.out, .inr ⟨rfl, HCUT.out, HALL.out⟩⟩
                case measure => simp [intOf]
              ·
                have hnf : nameB (nameAt t f s.size) = false := by simpa using hn
                have hq : (nameE (nameAt t f s.size) != 0) = true := by
                  rw [bne_iff_ne]
                  by_cases h54 : 54 < (nameAt t f s.size).length
                  · rw [nameE_long h54]; decide
                  · rw [nameE_bad h54 hnf]; decide
                rw [HNB.out] at HNW
                have HBN := Lib.hid (show partsB (bytes s) = none by rw [HT.out]; exact partsB_none_of (qs := []) (by rw [List.append_nil]; exact HCUT.out) hnf)
                clear hn hnf
                generalize nameE (nameAt t f s.size) = q at *
                go_wp2_with (go_at_call 56; refine (HNW.out _).mono ?_)
                rintro e w2 ⟨rfl, hb2⟩
                have HB2 := Lib.hid (HB.out.trans (hb2.mono HB.out.size))
                clear hb2
                go_wp2
                go_ret2
                exact parts_none HBN.out HB2.out
            · have hks : k < s.size := by omega
              by_cases hc : s[k] = 47
              · have n2 : ((s[k].toNat : Int) == 47) = true := by rw [hc]; rfl
                have n3 : ((k : Int) == (s.size : Int)) = false := by rw [beq_eq_false_iff_ne]; omega
                have hkt : t[k - 1]'(by omega) = 47 := by rw [HAT.out k hks (by omega) (by omega)]; exact hc
                have HCUT := Lib.hid (HINV.out.cut (by omega) hkt)
                have HMORE := Lib.hid (HINV.out.more (by omega) hkt)
                clear HINV hkt hc
                by_cases hn : nameB (nameAt t f k) = true
                ·
                  rw [HNB.out, nameE_good hn] at HNW
                  have HNEXT := Lib.hid (HMORE.out hn)
                  clear hn
                  go_wp2_with (go_at_call 56; refine (HNW.out _).mono ?_)
                  rintro e w2 ⟨rfl, hb2⟩
                  have HO2 := Lib.hid (own_kept HO.out hb2)
                  have HB2 := Lib.hid (HB.out.trans (hb2.mono HB.out.size))
                  clear hb2
                  go_wp2_with (at_builtin; refine wpList_append_own _ rfl _ _ 67 rfl w.heap.size 9 i0 (.string ByteArray.empty) 1 16 Tryd.underlying67 hi hz0 hz1 hz2 rfl (by decide) _ ps.length _ rfl (HO2.out.alloc _) ⟨w2.heap.size, 0, none⟩ 1 1 [_] rfl rfl (new_one _ _ _ _ rfl) (one_cell rfl) (by unfold maxLen; omega) (by omega) (le_alloc HB2.out.size _) ?_)
                  intro v3 w3 h3 hg3 _
                  have HO3 : Hid (Own w3 w.heap.size 9 v3 (ps ++ [nameAt t f k]).length (scells (ps ++ [nameAt t f k]))) := by
                    rw [List.length_append, scells_append, scells_one, ← HNB.out, strOf_bytes]
                    exact h3
                  have HB3 := Lib.hid ((HB2.out.alloc HB2.out.size _).grown hg3 (le_alloc HB2.out.size _) (fun j hj => (HO2.out.block hj).1))
                  clear h3 hg3
                  go_wp2
                  go_roundw
                  case rel => exact ⟨ps ++ [nameAt t f k], (k + 1 : Nat), (k + 1 : Nat), by go_num, by go_num, by simp only [List.length_append, List.length_cons, List.length_nil]; omega, HO3.out, HB3.out, .inl ⟨by omega, HNEXT.out⟩⟩
                  case measure => simp [intOf]; omega
                ·
                  have hnf : nameB (nameAt t f k) = false := by simpa using hn
                  have hq : (nameE (nameAt t f k) != 0) = true := by
                    rw [bne_iff_ne]
                    by_cases h54 : 54 < (nameAt t f k).length
                    · rw [nameE_long h54]; decide
                    · rw [nameE_bad h54 hnf]; decide
                  rw [HNB.out] at HNW
                  have HBN := Lib.hid (show partsB (bytes s) = none by rw [HT.out]; exact partsB_none_of HCUT.out hnf)
                  clear hn hnf
                  generalize nameE (nameAt t f k) = q at *
                  go_wp2_with (go_at_call 56; refine (HNW.out _).mono ?_)
                  rintro e w2 ⟨rfl, hb2⟩
                  have HB2 := Lib.hid (HB.out.trans (hb2.mono HB.out.size))
                  clear hb2
                  go_wp2
                  go_ret2
                  exact parts_none HBN.out HB2.out
              · have n2 : ((s[k].toNat : Int) == 47) = false := by
                  rw [beq_eq_false_iff_ne]; exact fun e => hc (UInt8.toNat_inj.1 (by simpa using Int.ofNat_inj.1 e))
                have n3 : ((k : Int) == (s.size : Int)) = false := by rw [beq_eq_false_iff_ne]; omega
                have hkt : t[k - 1]'(by omega) ≠ 47 := by rw [HAT.out k hks (by omega) (by omega)]; exact hc
                have HNEXT := Lib.hid (HINV.out.step (by omega) hkt)
                clear HINV hkt hc HNW HNB
                go_wp2
                go_roundw
                case rel => exact ⟨ps, f, (k + 1 : Nat), rfl, by go_num, by omega, HO.out, HB.out, .inl ⟨by omega, HNEXT.out⟩⟩
                case measure => simp [intOf]; omega
          · subst hk
            have HS := Lib.hid (show partsB (bytes s) = some ps by rw [HT.out]; exact partsB_some_of (by omega) hsp hgood)
            clear hsp hgood
            go_wp2
            go_ret2
            exact parts_some HS.out HO.out HB.out
      · have n1 : ((s[0].toNat : Int) != 47) = true := by
          rw [bne_iff_ne]; exact fun e => hsl (UInt8.toNat_inj.1 (by simpa using Int.ofNat_inj.1 e))
        have hN : partsB (bytes s) = none := by
          rw [ht]
          unfold partsB
          simp only
          rw [if_neg (fun h => hsl h.2.1)]
        have HN := Lib.hid hN
        have b0 : ((s.size : Int) == 0) = false := by rw [beq_eq_false_iff_ne]; omega
        have b1 : decide ((1023 : Int) < (s.size : Int)) = false := decide_eq_false (by omega)
        clear hN ht htl hsl
        go_enter Tryd.func39, Tryd.ntmps39
        go_wp2
        go_ret2
        exact parts_none HN.out (Below.refl _ _)
end Go.Proofs.YtenpihkfghfpaaaDoor
