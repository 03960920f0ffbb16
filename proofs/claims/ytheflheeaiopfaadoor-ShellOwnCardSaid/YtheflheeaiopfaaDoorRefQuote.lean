/- vellumref16.Quote, walked. -/
import Derived.Test.YtheflheeaiopfaaDoorQuoteWalk
namespace Go.Proofs.YtheflheeaiopfaaDoor
open Go.RowKit Vl
set_option linter.unusedVariables false
set_option linter.unusedSimpArgs false

theorem new_cells (w : World) (xs : List Value) (e : TypeId) (n : Nat) (hn : n = w.heap.size) : ∀ j u, xs[j]? = some u → (w.alloc (.cells xs.toArray e)).cell? ((⟨n, 0, none⟩ : Addr).add j) = some u := by
  intro j u hj
  subst hn
  rw [Addr.add_lit, cell_whole (heap_alloc_new w (.cells xs.toArray e))]
  simpa using hj

/-- Behind an append of bytes to a list of the call's own. -/
theorem own_pushed {w w1 : World} {B : Nat} {l m : List UInt8} {v v' : Value} (hle : B ≤ w.heap.size) (hw : Own w B 5 v l.length (bcells l))
    (h1 : w1.ownsRow B 5 1 v' (l.length + m.length) (bcells l ++ bcells m)) (hg : w.grownBy w1 v.ownBlock) :
    Own w1 B 5 v' (l ++ m).length (bcells (l ++ m)) ∧ Below B w w1 := by
  constructor
  · rw [bcells_append, List.length_append]; exact h1
  · exact (Below.refl B w).grown hg hle (fun k hk => (hw.block hk).1)

theorem qb_sign (x : UInt8) (h : x.toNat = 34 ∨ x.toNat = 92) : W.qByte x = [92, x] := by
  rcases h with h | h
  · obtain rfl : x = 34 := by rw [← UInt8.toNat_inj]; exact h
    rfl
  · obtain rfl : x = 92 := by rw [← UInt8.toNat_inj]; exact h
    rfl
theorem qb_ten (x : UInt8) (h : x.toNat = 10) : W.qByte x = [92, 110] := by
  obtain rfl : x = 10 := by rw [← UInt8.toNat_inj]; exact h
  rfl
theorem qb_nine (x : UInt8) (h : x.toNat = 9) : W.qByte x = [92, 116] := by
  obtain rfl : x = 9 := by rw [← UInt8.toNat_inj]; exact h
  rfl
theorem qs_none (x : UInt8) (h : x.toNat ≠ 34 ∧ x.toNat ≠ 92 ∧ x.toNat ≠ 10 ∧ x.toNat ≠ 9) : W.qSign x = 0 := by
  rw [← UInt8.toNat_inj, qSign_val, if_neg (by omega), if_neg (by omega), if_neg (by omega), if_neg (by omega)]; rfl
theorem qb_hex (x : UInt8) (h : x.toNat ≠ 34 ∧ x.toNat ≠ 92 ∧ x.toNat ≠ 10 ∧ x.toNat ≠ 9) (h2 : x.toNat < 32 ∨ 127 ≤ x.toNat) : W.qByte x = [92, 120, W.hexSign (x.toNat / 16), W.hexSign (x.toNat % 16)] := by
  unfold W.qByte; rw [if_neg (by simpa using qs_none x h), if_pos h2]
theorem qb_plain (x : UInt8) (h : x.toNat ≠ 34 ∧ x.toNat ≠ 92 ∧ x.toNat ≠ 10 ∧ x.toNat ≠ 9) (h2 : ¬ (x.toNat < 32 ∨ 127 ≤ x.toNat)) : W.qByte x = [x] := by
  unfold W.qByte; rw [if_neg (by simpa using qs_none x h), if_neg h2]

set_option maxRecDepth 100000 in
set_option maxHeartbeats 2000000 in
theorem refQuote_walk (l : List UInt8) (a : Option Addr) (c : Nat) (w : World) (h : BytesAt w a l) (hl : l.length ≤ 100000) :
    Calls Tryd.prog 12 #[.slice a l.length c] w fun e w' => e = .returned (.string (strOf (W.quote l))) ∧ Below w.heap.size w w' := by
  obtain ⟨i0, hi, hz0, hz1, hz2⟩ := info_parts info5
  have H := Lib.hid h
  have hn0 := Own.nil w w.heap.size 5
  clear h
  go_enter Tryd.func12, Tryd.ntmps12
  go_wp2_with (at_builtin; refine wpList_append_own _ rfl _ _ 33 rfl w.heap.size 5 i0 (.int .u8 0) 1 1 Tryd.underlying33 hi hz0 hz1 hz2 rfl (by decide) _ _ _ rfl (hn0.alloc _) ⟨w.heap.size, 0, none⟩ 1 1 [.int .u8 34] rfl rfl (new_cells _ [.int .u8 34] _ _ rfl) (by intro u hu; simp at hu; (repeat' (rcases hu with rfl | hu <;> try rfl)); try (subst hu; rfl)) (by first | (unfold maxLen; decide) | decide) (by first | (unfold maxLen; decide) | decide) (le_alloc (Nat.le_refl _) _) ?_)
  intro v1 w1 h1 hg1 _
  obtain ⟨ho1, hb1⟩ := own_pushed (l := []) (m := [34]) (le_alloc (Nat.le_refl _) _) (hn0.alloc _) h1 hg1
  have HO1 := Lib.hid ho1
  have HB1 := Lib.hid (((Below.refl w.heap.size w).alloc (Nat.le_refl _) _).trans hb1)
  clear ho1 hb1 h1 hg1 hn0
  go_wp2
  go_loopw [3, 4] (fun v i wr => ∃ k : Nat, k ≤ l.length ∧ i = .int .i64 k ∧ Own wr w.heap.size 5 v (34 :: W.qBody (l.take k)).length (bcells (34 :: W.qBody (l.take k))) ∧ Below w.heap.size w wr) (fun _ i _ => l.length - (intOf i).toNat)
  case atStart => exact ⟨0, by omega, rfl, HO1.out, HB1.out⟩
  case round =>
    obtain ⟨k, hk, rfl, ho, hbw⟩ := hrel
    have HO := Lib.hid ho
    have HW := Lib.hid hbw
    have HLE := Lib.hid hbw.size
    clear ho hbw
    have hlen : (34 :: W.qBody (l.take k)).length ≤ 400001 := by
      have := W.qBody_len (l.take k)
      rw [List.length_take] at this
      simp only [List.length_cons]
      omega
    by_cases hlt : k < l.length
    · obtain ⟨g, off, rfl, hg, hc⟩ := (H.out.below HW.out) k hlt
      generalize hx : l[k] = x at *
      have HX := Lib.hid hx
      have hx256 : x.toNat < 256 := x.toNat_lt
      obtain ⟨av, cv, hv⟩ := HO.out.form
      have HK := Lib.hid (show 34 :: W.qBody (l.take (k + 1)) = (34 :: W.qBody (l.take k)) ++ W.qByte x by rw [List.take_succ_eq_append_getElem hlt, hx, W.qBody_snoc]; rfl)
      clear hx
      generalize 34 :: W.qBody (l.take k) = m at *
      subst hv
      by_cases x34 : x.toNat = 34
      · have n1 : ((x.toNat : Int) == 34) = true := by simp; omega
        have HQ := Lib.hid (qb_sign x (.inl x34))
        clear x34
        go_wp2_with (at_builtin; refine wpList_append_own _ rfl _ _ 33 rfl w.heap.size 5 i0 (.int .u8 0) 1 1 Tryd.underlying33 hi hz0 hz1 hz2 rfl (by decide) _ _ _ rfl (HO.out.alloc _) ⟨wr.heap.size, 0, none⟩ 2 2 [.int .u8 92, .int .u8 x.toNat] rfl rfl (new_cells _ [.int .u8 92, .int .u8 x.toNat] _ _ rfl) (by intro u hu; simp at hu; (repeat' (rcases hu with rfl | hu <;> try rfl)); try (subst hu; rfl)) (by first | (unfold maxLen; omega) | omega) (by first | (unfold maxLen; omega) | omega) (le_alloc HLE.out _) ?_)
        intro v2 w2 h2 hg2 _
        have h2' : w2.ownsRow w.heap.size 5 1 v2 (m.length + (W.qByte x).length) (bcells m ++ bcells (W.qByte x)) := by rw [HQ.out]; exact h2
        obtain ⟨ho2, hb2⟩ := own_pushed (le_alloc HLE.out _) (HO.out.alloc _) h2' hg2
        rw [← HK.out] at ho2
        have HO2 := Lib.hid ho2
        have HB2 := Lib.hid hb2
        clear ho2 hb2 h2 h2' hg2
        go_wp2
        go_roundw
        case rel => first | exact ⟨k + 1, by omega, by go_num, HO2.out, (HW.out.trans ((Below.refl _ _).alloc HLE.out _)).trans HB2.out⟩ | ((repeat apply Exists.intro); exact ⟨⟨k + 1, by omega, by go_num, HO2.out, (HW.out.trans ((Below.refl _ _).alloc HLE.out _)).trans HB2.out⟩, rfl⟩)
        case measure => simp [intOf]; omega
      have n34 : ((x.toNat : Int) == 34) = false := by simp; omega
      by_cases x92 : x.toNat = 92
      · have n1 : ((x.toNat : Int) == 92) = true := by simp; omega
        have HQ := Lib.hid (qb_sign x (.inr x92))
        clear x92
        go_wp2_with (at_builtin; refine wpList_append_own _ rfl _ _ 33 rfl w.heap.size 5 i0 (.int .u8 0) 1 1 Tryd.underlying33 hi hz0 hz1 hz2 rfl (by decide) _ _ _ rfl (HO.out.alloc _) ⟨wr.heap.size, 0, none⟩ 2 2 [.int .u8 92, .int .u8 x.toNat] rfl rfl (new_cells _ [.int .u8 92, .int .u8 x.toNat] _ _ rfl) (by intro u hu; simp at hu; (repeat' (rcases hu with rfl | hu <;> try rfl)); try (subst hu; rfl)) (by first | (unfold maxLen; omega) | omega) (by first | (unfold maxLen; omega) | omega) (le_alloc HLE.out _) ?_)
        intro v2 w2 h2 hg2 _
        have h2' : w2.ownsRow w.heap.size 5 1 v2 (m.length + (W.qByte x).length) (bcells m ++ bcells (W.qByte x)) := by rw [HQ.out]; exact h2
        obtain ⟨ho2, hb2⟩ := own_pushed (le_alloc HLE.out _) (HO.out.alloc _) h2' hg2
        rw [← HK.out] at ho2
        have HO2 := Lib.hid ho2
        have HB2 := Lib.hid hb2
        clear ho2 hb2 h2 h2' hg2
        go_wp2
        go_roundw
        case rel => first | exact ⟨k + 1, by omega, by go_num, HO2.out, (HW.out.trans ((Below.refl _ _).alloc HLE.out _)).trans HB2.out⟩ | ((repeat apply Exists.intro); exact ⟨⟨k + 1, by omega, by go_num, HO2.out, (HW.out.trans ((Below.refl _ _).alloc HLE.out _)).trans HB2.out⟩, rfl⟩)
        case measure => simp [intOf]; omega
      have n92 : ((x.toNat : Int) == 92) = false := by simp; omega
      by_cases x10 : x.toNat = 10
      · have n1 : ((x.toNat : Int) == 10) = true := by simp; omega
        have HQ := Lib.hid (qb_ten x x10)
        go_wp2_with (at_builtin; refine wpList_append_own _ rfl _ _ 33 rfl w.heap.size 5 i0 (.int .u8 0) 1 1 Tryd.underlying33 hi hz0 hz1 hz2 rfl (by decide) _ _ _ rfl (HO.out.alloc _) ⟨wr.heap.size, 0, none⟩ 2 2 [.int .u8 92, .int .u8 110] rfl rfl (new_cells _ [.int .u8 92, .int .u8 110] _ _ rfl) (by intro u hu; simp at hu; (repeat' (rcases hu with rfl | hu <;> try rfl)); try (subst hu; rfl)) (by first | (unfold maxLen; omega) | omega) (by first | (unfold maxLen; omega) | omega) (le_alloc HLE.out _) ?_)
        intro v2 w2 h2 hg2 _
        have h2' : w2.ownsRow w.heap.size 5 1 v2 (m.length + (W.qByte x).length) (bcells m ++ bcells (W.qByte x)) := by rw [HQ.out]; exact h2
        obtain ⟨ho2, hb2⟩ := own_pushed (le_alloc HLE.out _) (HO.out.alloc _) h2' hg2
        rw [← HK.out] at ho2
        have HO2 := Lib.hid ho2
        have HB2 := Lib.hid hb2
        clear ho2 hb2 h2 h2' hg2
        go_wp2
        go_roundw
        case rel => first | exact ⟨k + 1, by omega, by go_num, HO2.out, (HW.out.trans ((Below.refl _ _).alloc HLE.out _)).trans HB2.out⟩ | ((repeat apply Exists.intro); exact ⟨⟨k + 1, by omega, by go_num, HO2.out, (HW.out.trans ((Below.refl _ _).alloc HLE.out _)).trans HB2.out⟩, rfl⟩)
        case measure => simp [intOf]; omega
      have n10 : ((x.toNat : Int) == 10) = false := by simp; omega
      by_cases x9 : x.toNat = 9
      · have n1 : ((x.toNat : Int) == 9) = true := by simp; omega
        have HQ := Lib.hid (qb_nine x x9)
        go_wp2_with (at_builtin; refine wpList_append_own _ rfl _ _ 33 rfl w.heap.size 5 i0 (.int .u8 0) 1 1 Tryd.underlying33 hi hz0 hz1 hz2 rfl (by decide) _ _ _ rfl (HO.out.alloc _) ⟨wr.heap.size, 0, none⟩ 2 2 [.int .u8 92, .int .u8 116] rfl rfl (new_cells _ [.int .u8 92, .int .u8 116] _ _ rfl) (by intro u hu; simp at hu; (repeat' (rcases hu with rfl | hu <;> try rfl)); try (subst hu; rfl)) (by first | (unfold maxLen; omega) | omega) (by first | (unfold maxLen; omega) | omega) (le_alloc HLE.out _) ?_)
        intro v2 w2 h2 hg2 _
        have h2' : w2.ownsRow w.heap.size 5 1 v2 (m.length + (W.qByte x).length) (bcells m ++ bcells (W.qByte x)) := by rw [HQ.out]; exact h2
        obtain ⟨ho2, hb2⟩ := own_pushed (le_alloc HLE.out _) (HO.out.alloc _) h2' hg2
        rw [← HK.out] at ho2
        have HO2 := Lib.hid ho2
        have HB2 := Lib.hid hb2
        clear ho2 hb2 h2 h2' hg2
        go_wp2
        go_roundw
        case rel => first | exact ⟨k + 1, by omega, by go_num, HO2.out, (HW.out.trans ((Below.refl _ _).alloc HLE.out _)).trans HB2.out⟩ | ((repeat apply Exists.intro); exact ⟨⟨k + 1, by omega, by go_num, HO2.out, (HW.out.trans ((Below.refl _ _).alloc HLE.out _)).trans HB2.out⟩, rfl⟩)
        case measure => simp [intOf]; omega
      have n9 : ((x.toNat : Int) == 9) = false := by simp; omega
      by_cases xp : x.toNat < 32 ∨ 127 ≤ x.toNat
      · have hp' : decide ((x.toNat : Int) < 32) = true ∨ (decide ((x.toNat : Int) < 32) = false ∧ decide ((126 : Int) < x.toNat) = true) := by simp; omega
        have HQ0 := Lib.hid (qb_hex x ⟨x34, x92, x10, x9⟩ xp)
        clear xp
        rcases hp' with n1 | ⟨n1, n2⟩
        all_goals
          have HQ := Lib.hid (HQ0.out)
          go_wp2
          refine wp_canon (by kernel_rfl) (by kernel_rfl) ?_
          go_wp2_with (at_builtin; refine wpList_append_own _ rfl _ _ 33 rfl w.heap.size 5 i0 (.int .u8 0) 1 1 Tryd.underlying33 hi hz0 hz1 hz2 rfl (by decide) _ _ _ rfl (Own.drew (HO.out.alloc _)) ⟨wr.heap.size, 0, none⟩ 4 4 [.int .u8 92, .int .u8 120, .int .u8 (((ByteArray.mk #[48, 49, 50, 51, 52, 53, 54, 55, 56, 57, 97, 98, 99, 100, 101, 102])[x.toNat / 16]'(by show _ < 16; omega)).toNat : Int), .int .u8 (((ByteArray.mk #[48, 49, 50, 51, 52, 53, 54, 55, 56, 57, 97, 98, 99, 100, 101, 102])[x.toNat % 16]'(by show _ < 16; omega)).toNat : Int)] rfl rfl (new_cells _ [.int .u8 92, .int .u8 120, .int .u8 (((ByteArray.mk #[48, 49, 50, 51, 52, 53, 54, 55, 56, 57, 97, 98, 99, 100, 101, 102])[x.toNat / 16]'(by show _ < 16; omega)).toNat : Int), .int .u8 (((ByteArray.mk #[48, 49, 50, 51, 52, 53, 54, 55, 56, 57, 97, 98, 99, 100, 101, 102])[x.toNat % 16]'(by show _ < 16; omega)).toNat : Int)] _ _ rfl) (by intro u hu; simp at hu; (repeat' (rcases hu with rfl | hu <;> try rfl)); try (subst hu; rfl)) (by first | (unfold maxLen; omega) | omega) (by first | (unfold maxLen; omega) | omega) (le_drew (le_alloc HLE.out _)) ?_)
          intro v2 w2 h2 hg2 _
          have h2' : w2.ownsRow w.heap.size 5 1 v2 (m.length + (W.qByte x).length) (bcells m ++ bcells (W.qByte x)) := by rw [HQ.out]; rw [← hexd_is (x.toNat / 16) (by omega), ← hexd_is (x.toNat % 16) (by omega)] at h2; exact h2
          obtain ⟨ho2, hb2⟩ := own_pushed (le_drew (le_alloc HLE.out _)) (Own.drew (HO.out.alloc _)) h2' hg2
          rw [← HK.out] at ho2
          have HO2 := Lib.hid ho2
          have HB2 := Lib.hid hb2
          clear ho2 hb2 h2 h2' hg2
          go_wp2
          refine ⟨rfl, ?_⟩
          go_wp2
          go_roundw
          case rel => first | exact ⟨k + 1, by omega, by go_num, HO2.out, (HW.out.trans ((Below.refl _ _).alloc HLE.out _).drew).trans HB2.out⟩ | ((repeat apply Exists.intro); exact ⟨⟨k + 1, by omega, by go_num, HO2.out, (HW.out.trans ((Below.refl _ _).alloc HLE.out _).drew).trans HB2.out⟩, rfl⟩)
          case measure => simp [intOf]; omega
      · have n1 : decide ((x.toNat : Int) < 32) = false := by simp; omega
        have n2 : decide ((126 : Int) < x.toNat) = false := by simp; omega
        have HQ := Lib.hid (qb_plain x ⟨x34, x92, x10, x9⟩ xp)
        go_wp2_with (at_builtin; refine wpList_append_own _ rfl _ _ 33 rfl w.heap.size 5 i0 (.int .u8 0) 1 1 Tryd.underlying33 hi hz0 hz1 hz2 rfl (by decide) _ _ _ rfl (HO.out.alloc _) ⟨wr.heap.size, 0, none⟩ 1 1 [.int .u8 x.toNat] rfl rfl (new_cells _ [.int .u8 x.toNat] _ _ rfl) (by intro u hu; simp at hu; (repeat' (rcases hu with rfl | hu <;> try rfl)); try (subst hu; rfl)) (by first | (unfold maxLen; omega) | omega) (by first | (unfold maxLen; omega) | omega) (le_alloc HLE.out _) ?_)
        intro v2 w2 h2 hg2 _
        have h2' : w2.ownsRow w.heap.size 5 1 v2 (m.length + (W.qByte x).length) (bcells m ++ bcells (W.qByte x)) := by rw [HQ.out]; exact h2
        obtain ⟨ho2, hb2⟩ := own_pushed (le_alloc HLE.out _) (HO.out.alloc _) h2' hg2
        rw [← HK.out] at ho2
        have HO2 := Lib.hid ho2
        have HB2 := Lib.hid hb2
        clear ho2 hb2 h2 h2' hg2
        go_wp2
        go_roundw
        case rel => first | exact ⟨k + 1, by omega, by go_num, HO2.out, (HW.out.trans ((Below.refl _ _).alloc HLE.out _)).trans HB2.out⟩ | ((repeat apply Exists.intro); exact ⟨⟨k + 1, by omega, by go_num, HO2.out, (HW.out.trans ((Below.refl _ _).alloc HLE.out _)).trans HB2.out⟩, rfl⟩)
        case measure => simp [intOf]; omega
    · have hkk : l.take k = l := List.take_of_length_le (by omega)
      rw [hkk] at HO hlen
      obtain ⟨av, cv, hv⟩ := HO.out.form
      generalize hm : 34 :: W.qBody l = m at *
      subst hv
      have HM := Lib.hid hm
      clear hm hkk
      go_wp2_with (at_builtin; refine wpList_append_own _ rfl _ _ 33 rfl w.heap.size 5 i0 (.int .u8 0) 1 1 Tryd.underlying33 hi hz0 hz1 hz2 rfl (by decide) _ _ _ rfl (HO.out.alloc _) ⟨wr.heap.size, 0, none⟩ 1 1 [.int .u8 34] rfl rfl (new_cells _ [.int .u8 34] _ _ rfl) (by intro u hu; simp at hu; (repeat' (rcases hu with rfl | hu <;> try rfl)); try (subst hu; rfl)) (by first | (unfold maxLen; omega) | omega) (by first | (unfold maxLen; omega) | omega) (le_alloc HLE.out _) ?_)
      intro v2 w2 h2 hg2 _
      obtain ⟨ho2, hb2⟩ := own_pushed (m := [34]) (le_alloc HLE.out _) (HO.out.alloc _) h2 hg2
      have hq : m ++ [34] = W.quote l := by rw [← HM.out]; rfl
      rw [hq] at ho2
      obtain ⟨a2, c2, rfl⟩ := ho2.form
      have hcv := conv_bytes ho2 rfl w2 (fun _ _ => rfl)
      have HB2 := Lib.hid hb2
      have HCV := Lib.hid hcv
      clear ho2 hb2 h2 hg2 hq
      go_wp2
      go_ret
      exact ⟨rfl, (HW.out.trans ((Below.refl _ _).alloc HLE.out _)).trans HB2.out⟩
end Go.Proofs.YtheflheeaiopfaaDoor
