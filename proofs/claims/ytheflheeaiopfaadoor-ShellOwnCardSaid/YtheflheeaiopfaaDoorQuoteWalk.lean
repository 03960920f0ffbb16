/- shell.Quote, walked. -/
import Derived.Test.YtheflheeaiopfaaDoorBld
import Derived.Test.YtheflheeaiopfaaDoorQSpec
namespace Go.Proofs.YtheflheeaiopfaaDoor
open Go.RowKit Vl
set_option linter.unusedVariables false
set_option linter.unusedSimpArgs false

/-- A slice of bytes that lies below: what it reads as. -/
def BytesAt (w : World) (a : Option Addr) (l : List UInt8) : Prop :=
  ∀ i (h : i < l.length), ∃ g off, a = some ⟨g, off, none⟩ ∧ g < w.heap.size ∧ w.cell? ⟨g, off + i, none⟩ = some (.int .u8 l[i].toNat)
theorem BytesAt.below {w w' : World} {a : Option Addr} {l : List UInt8} (h : BytesAt w a l) (hb : Below w.heap.size w w') : BytesAt w' a l := by
  intro i hi
  obtain ⟨g, off, h1, h2, h3⟩ := h i hi
  exact ⟨g, off, h1, Nat.lt_of_lt_of_le h2 hb.size, by rw [hb.cell h2]; exact h3⟩

theorem qSign_val (c : UInt8) : (W.qSign c).toNat = (if (c.toNat : Int) = 92 then 92 else if (c.toNat : Int) = 34 then 34 else if (c.toNat : Int) = 10 then 110 else if (c.toNat : Int) = 9 then 116 else 0) := by
  unfold W.qSign
  have h (k : Nat) (hk : k < 256) : (c = UInt8.ofNat k) = ((c.toNat : Int) = k) := by
    apply propext
    constructor
    · rintro rfl; simp; omega
    · intro h; rw [← show c.toNat = k by omega]; simp
  rw [show (92 : UInt8) = UInt8.ofNat 92 from rfl, show (34 : UInt8) = UInt8.ofNat 34 from rfl, show (10 : UInt8) = UInt8.ofNat 10 from rfl, show (9 : UInt8) = UInt8.ofNat 9 from rfl]
  simp only [h 92 (by omega), h 34 (by omega), h 10 (by omega), h 9 (by omega)]
  (repeat' split) <;> first | rfl | omega

theorem sign_walk (c : UInt8) (w : World) : Calls Tryd.prog 21 #[.int .u8 c.toNat] w fun e w' => e = .returned (.int .u8 (W.qSign c).toNat) ∧ w' = w := by
  have hv := qSign_val c
  generalize (W.qSign c).toNat = q at *
  have hc : c.toNat < 256 := c.toNat_lt
  generalize c.toNat = n at *
  by_cases n1 : (n : Int) = 92
  · rw [if_pos n1] at hv; subst hv
    obtain rfl : n = 92 := by omega
    go_enter Tryd.func21, Tryd.ntmps21
    go_wp2
    go_ret
    exact ⟨rfl, rfl⟩
  rw [if_neg n1] at hv
  by_cases n2 : (n : Int) = 34
  · rw [if_pos n2] at hv; subst hv
    obtain rfl : n = 34 := by omega
    go_enter Tryd.func21, Tryd.ntmps21
    go_wp2
    go_ret
    exact ⟨rfl, rfl⟩
  rw [if_neg n2] at hv
  by_cases n3 : (n : Int) = 10
  · rw [if_pos n3] at hv; subst hv
    obtain rfl : n = 10 := by omega
    go_enter Tryd.func21, Tryd.ntmps21
    go_wp2
    go_ret
    exact ⟨rfl, rfl⟩
  rw [if_neg n3] at hv
  by_cases n4 : (n : Int) = 9
  · rw [if_pos n4] at hv; subst hv
    obtain rfl : n = 9 := by omega
    go_enter Tryd.func21, Tryd.ntmps21
    go_wp2
    go_ret
    exact ⟨rfl, rfl⟩
  rw [if_neg n4] at hv; subst hv
  have m1 : ((n : Int) == 92) = false := by simpa using n1
  have m2 : ((n : Int) == 34) = false := by simpa using n2
  have m3 : ((n : Int) == 10) = false := by simpa using n3
  have m4 : ((n : Int) == 9) = false := by simpa using n4
  clear n1 n2 n3 n4
  go_enter Tryd.func21, Tryd.ntmps21
  go_wp2
  go_ret
  exact ⟨rfl, rfl⟩

theorem hex_at : ∀ d : Fin 16, (ByteArray.mk #[48, 49, 50, 51, 52, 53, 54, 55, 56, 57, 97, 98, 99, 100, 101, 102])[d.val]'(by have := d.isLt; exact this) = W.hexSign d.val := by decide +kernel
theorem hexd_is (d : Nat) (h : d < 16) (h' : d < (ByteArray.mk #[48, 49, 50, 51, 52, 53, 54, 55, 56, 57, 97, 98, 99, 100, 101, 102]).size) :
    (((W.hexSign d).toNat : Nat) : Int) = (((ByteArray.mk #[48, 49, 50, 51, 52, 53, 54, 55, 56, 57, 97, 98, 99, 100, 101, 102])[d]'h').toNat : Int) := by
  rw [← hex_at ⟨d, h⟩]

theorem bld_new (w : World) (o : Obj) (ho : o = .cells #[.pointer none, .slice none 0 0] 52 (0, 0)) : Bld (w.alloc o) w.heap.size (w.heap.size + 1) [] := by
  subst ho
  exact ⟨_, _, .inl rfl, by omega, by rw [size_alloc]; omega, heap_alloc_new w _, Own.nil _ _ _⟩

theorem writeByte_is (b B : Nat) (l : List UInt8) (x : UInt8) (k : Int) (hk : (x.toNat : Int) = k) (w : World) (h : Bld w b B l) (hl : l.length < 1000000) :
    Calls Tryd.prog 20 #[.pointer (some ⟨b, 0, none⟩), .int .u8 k] w fun e w' => e = .returned .nilIface ∧ Bld w' b B (l ++ [x]) ∧ Out b B w w' := by
  subst hk; exact writeByte_walk b B l x w h hl

set_option maxRecDepth 100000 in
theorem quote_walk (l : List UInt8) (a : Option Addr) (c : Nat) (w : World) (h : BytesAt w a l) (hl : l.length ≤ 100000) :
    Calls Tryd.prog 11 #[.slice a l.length c] w fun e w' => e = .returned (.string (strOf (W.quote l))) ∧ Below w.heap.size w w' := by
  have H := Lib.hid h
  clear h
  go_enter Tryd.func11, Tryd.ntmps11
  go_wp2_with fail
  have hb0 := bld_new w (.cells #[.pointer none, .slice none 0 0] 52 (0, 0)) rfl
  refine (writeByte_is w.heap.size (w.heap.size + 1) [] 34 34 rfl _ hb0 (by decide)).mono ?_
  rintro e w1 ⟨rfl, hb1, ho1⟩
  have HB1 := Lib.hid hb1
  have HO1 := Lib.hid ho1
  clear hb0 hb1 ho1
  go_wp2
  go_loopw [10] (fun i wr => ∃ k : Nat, k ≤ l.length ∧ i = .int .i64 k ∧ Bld wr w.heap.size (w.heap.size + 1) (34 :: W.qBody (l.take k)) ∧ Below w.heap.size w wr) (fun i _ => l.length - (intOf i).toNat)
  case atStart =>
    refine ⟨0, by omega, rfl, HB1.out, ?_⟩
    exact ((Below.refl w.heap.size w).alloc (Nat.le_refl _) _).trans (HO1.out.below (Nat.le_refl _) (by omega))
  case round =>
    obtain ⟨k, hk, rfl, hb, hbw⟩ := hrel
    have HB := Lib.hid hb
    have HW := Lib.hid hbw
    clear hb hbw
    by_cases hlt : k < l.length
    · obtain ⟨g, off, rfl, hg, hc⟩ := (H.out.below HW.out) k hlt
      generalize hx : l[k] = x at *
      have hlen : (34 :: W.qBody (l.take k)).length ≤ 400001 := by
        have := W.qBody_len (l.take k)
        rw [List.length_take] at this
        simp only [List.length_cons]
        omega
      have HX := Lib.hid hx
      have HLEN := Lib.hid hlen
      have hx256 : x.toNat < 256 := x.toNat_lt
      clear hx hlen
      by_cases hs : W.qSign x = 0
      · by_cases hp : x.toNat < 32 ∨ 127 ≤ x.toNat
        · have hq : W.qByte x = [92, 120, W.hexSign (x.toNat / 16), W.hexSign (x.toNat % 16)] := by unfold W.qByte; rw [if_neg (by simpa using hs), if_pos hp]
          have HQ := Lib.hid hq
          have hs0 : (W.qSign x).toNat = 0 := by rw [hs]; rfl
          have hsg := sign_walk x
          rw [hs0] at hsg
          have HSG := Lib.hid hsg
          clear hsg hs hs0 hq
          have hp' : decide ((x.toNat : Int) < 32) = true ∨ (decide ((x.toNat : Int) < 32) = false ∧ decide ((127 : Int) ≤ x.toNat) = true) := by simp; omega
          rcases hp' with n1 | ⟨n1, n2⟩
          all_goals
            go_wp2_with fail
            refine (HSG.out _).mono ?_
            rintro e w' ⟨rfl, rfl⟩
            go_wp2_with fail
            refine (writeString_walk w.heap.size (w.heap.size + 1) _ ⟨#[92, 120]⟩ _ HB.out (by have := HLEN.out; show _ + 2 < _; omega)).mono ?_
            rintro e w2 ⟨rfl, hb2, ho2⟩
            have HB2 := Lib.hid hb2
            have HO2 := Lib.hid ho2
            clear hb2 ho2
            go_wp2_with fail
            refine (writeByte_is w.heap.size (w.heap.size + 1) _ (W.hexSign (x.toNat / 16)) _ (hexd_is (x.toNat / 16) (by omega) _) _ HB2.out (by have := HLEN.out; simp only [List.length_append, List.length_cons] at this ⊢; show _ + 2 < _; omega)).mono ?_
            rintro e w3 ⟨rfl, hb3, ho3⟩
            have HB3 := Lib.hid hb3
            have HO3 := Lib.hid ho3
            clear hb3 ho3
            go_wp2_with fail
            refine (writeByte_is w.heap.size (w.heap.size + 1) _ (W.hexSign (x.toNat % 16)) _ (hexd_is (x.toNat % 16) (by omega) _) _ HB3.out (by have := HLEN.out; simp only [List.length_append, List.length_cons, List.length_nil] at this ⊢; show _ + 2 + 1 < _; omega)).mono ?_
            rintro e w4 ⟨rfl, hb4, ho4⟩
            have HB4 := Lib.hid hb4
            have HO4 := Lib.hid ho4
            clear hb4 ho4
            go_wp2
            go_roundw
            case rel =>
              refine ⟨k + 1, by omega, by go_num, ?_, ((HW.out.trans (HO2.out.below (Nat.le_refl _) (by omega))).trans (HO3.out.below (Nat.le_refl _) (by omega))).trans (HO4.out.below (Nat.le_refl _) (by omega))⟩
              rw [List.take_succ_eq_append_getElem hlt, HX.out, W.qBody_snoc, HQ.out]
              have := HB4.out
              simpa [bytes] using this
            case measure => simp [intOf]; omega
        · have hq : W.qByte x = [x] := by unfold W.qByte; rw [if_neg (by simpa using hs), if_neg hp]
          have HQ := Lib.hid hq
          have hs0 : (W.qSign x).toNat = 0 := by rw [hs]; rfl
          have hsg := sign_walk x
          rw [hs0] at hsg
          have HSG := Lib.hid hsg
          clear hsg hs hs0 hq
          have n1 : decide ((x.toNat : Int) < 32) = false := by simp; omega
          have n2 : decide ((127 : Int) ≤ x.toNat) = false := by simp; omega
          clear hp
          go_wp2_with fail
          refine (HSG.out _).mono ?_
          rintro e w' ⟨rfl, rfl⟩
          go_wp2_with fail
          refine (writeByte_is w.heap.size (w.heap.size + 1) _ x _ rfl _ HB.out (by have := HLEN.out; simp only [List.length_append, List.length_cons, List.length_nil] at this ⊢; omega)).mono ?_
          rintro e w2 ⟨rfl, hb2, ho2⟩
          have HB2 := Lib.hid hb2
          have HO2 := Lib.hid ho2
          clear hb2 ho2
          go_wp2
          go_roundw
          case rel =>
            refine ⟨k + 1, by omega, by go_num, ?_, (HW.out.trans (HO2.out.below (Nat.le_refl _) (by omega)))⟩
            rw [List.take_succ_eq_append_getElem hlt, HX.out, W.qBody_snoc, HQ.out]
            have := HB2.out
            simpa using this
          case measure => simp [intOf]; omega
      · have hq : W.qByte x = [92, W.qSign x] := by unfold W.qByte; rw [if_pos hs]
        have HQ := Lib.hid hq
        have hsg := sign_walk x
        have hs0 : (((W.qSign x).toNat : Int) != 0) = true := by
          have : (W.qSign x).toNat ≠ 0 := fun e => hs (by rw [← UInt8.toNat_inj]; simpa using e)
          simp; omega
        have HSG := Lib.hid hsg
        clear hsg hs hq
        generalize hqs : W.qSign x = q at *
        clear hqs
        go_wp2_with fail
        refine (HSG.out _).mono ?_
        rintro e w' ⟨rfl, rfl⟩
        go_wp2_with fail
        refine (writeByte_is w.heap.size (w.heap.size + 1) _ 92 _ rfl _ HB.out (by have := HLEN.out; simp only [List.length_append, List.length_cons, List.length_nil] at this ⊢; omega)).mono ?_
        rintro e w2 ⟨rfl, hb2, ho2⟩
        have HB2 := Lib.hid hb2
        have HO2 := Lib.hid ho2
        clear hb2 ho2
        go_wp2_with fail
        refine (writeByte_is w.heap.size (w.heap.size + 1) _ q _ rfl _ HB2.out (by have := HLEN.out; simp only [List.length_append, List.length_cons, List.length_nil] at this ⊢; omega)).mono ?_
        rintro e w3 ⟨rfl, hb3, ho3⟩
        have HB3 := Lib.hid hb3
        have HO3 := Lib.hid ho3
        clear hb3 ho3
        go_wp2
        go_roundw
        case rel =>
          refine ⟨k + 1, by omega, by go_num, ?_, ((HW.out.trans (HO2.out.below (Nat.le_refl _) (by omega))).trans (HO3.out.below (Nat.le_refl _) (by omega)))⟩
          rw [List.take_succ_eq_append_getElem hlt, HX.out, W.qBody_snoc, HQ.out]
          have := HB3.out
          simpa using this
        case measure => simp [intOf]; omega
    · have hkk : l.take k = l := List.take_of_length_le (by omega)
      have HK := Lib.hid hkk
      clear hkk
      have hlen := W.qBody_len l
      have HLEN := Lib.hid hlen
      clear hlen
      go_wp2_with fail
      refine (writeByte_is w.heap.size (w.heap.size + 1) _ 34 _ rfl _ HB.out (by rw [HK.out]; have := HLEN.out; simp only [List.length_cons]; omega)).mono ?_
      rintro e w2 ⟨rfl, hb2, ho2⟩
      have HB2 := Lib.hid hb2
      have HO2 := Lib.hid ho2
      clear hb2 ho2
      go_wp2_with fail
      refine (string_walk w.heap.size (w.heap.size + 1) _ _ HB2.out).mono ?_
      rintro e w3 ⟨rfl, hb3⟩
      have HB3 := Lib.hid hb3
      clear hb3
      go_wp2
      go_ret
      refine ⟨?_, (HW.out.trans (HO2.out.below (Nat.le_refl _) (by omega))).trans HB3.out⟩
      rw [HK.out]; rfl
end Go.Proofs.YtheflheeaiopfaaDoor
