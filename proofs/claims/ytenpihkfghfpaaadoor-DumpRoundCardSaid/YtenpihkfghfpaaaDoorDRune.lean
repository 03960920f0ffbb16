/- strings.IndexRune of "/\x00" at a rune above ASCII: none. -/
import Derived.Test.YtenpihkfghfpaaaDoorDName
import Derived.Laws.RangeAny
namespace Go.Proofs.YtenpihkfghfpaaaDoor
open Go.RowKit Vl
set_option linter.unusedVariables false

theorem run_next_asc (w : World) (s : ByteArray) (pos : Nat) (ty : TypeId) (c : Nat) (h : pos < s.size) (ha : (s[pos]'h).toNat = c) (hc : c < 128) :
    (Instr.next (.pointer (some ⟨w.heap.size, 0, none⟩)) true ty).run Tryd.prog (w.iter s pos) = .ok (.tuple #[.bool true, .int .i64 pos, .int .i32 c]) (w.iter s (pos + 1)) := by
  subst ha
  exact run_next_ascii w s pos ty h hc

theorem two_ne (x y : UInt8) (h : 128 ≤ y.toNat) : ((((⟨#[47, 0]⟩ : ByteArray)[1].toNat : Nat) : Int) != ((((⟨#[x, y]⟩ : ByteArray)[1]'(show 1 < 2 by omega)).toNat : Nat) : Int)) = true := by
  have e1 : (⟨#[47, 0]⟩ : ByteArray)[1].toNat = 0 := rfl
  have e2 : ((⟨#[x, y]⟩ : ByteArray)[1]'(show 1 < 2 by omega)).toNat = y.toNat := rfl
  rw [e1, e2, bne_iff_ne]
  omega
theorem enc_two {c : Nat} (h : 128 ≤ c) (h2 : c < 2048) : ∃ a b : UInt8, Utf8.encode (c : Int) = ⟨#[a, b]⟩ ∧ 128 ≤ b.toNat := by
  have hv : Utf8.valid (c : Int) = true := by simp [Utf8.valid]; omega
  unfold Utf8.encode
  simp only [hv, if_true, Int.toNat_natCast]
  rw [if_neg (by omega), if_pos (by omega)]
  refine ⟨_, _, rfl, ?_⟩
  rw [UInt8.toNat_ofNat']
  omega
theorem enc_more {c : Nat} (h2 : ¬ c < 2048) : ∃ rs, Utf8.encode (c : Int) = rs ∧ 3 ≤ rs.size ∧ rs.size ≤ 4 := by
  refine ⟨_, rfl, ?_⟩
  unfold Utf8.encode
  simp only [Int.toNat_natCast]
  split
  · rw [if_neg (show ¬ c < 0x80 by omega)]
    split
    · exact ⟨by show 3 ≤ 3; omega, by show 3 ≤ 4; omega⟩
    · exact ⟨by show 3 ≤ 4; omega, by show 4 ≤ 4; omega⟩
  · exact ⟨by show 3 ≤ 3; omega, by show 3 ≤ 4; omega⟩

set_option maxRecDepth 100000 in
set_option maxHeartbeats 1000000 in
theorem indexRune_high (c : Nat) (w : World) (h : 128 ≤ c) (h2 : c ≤ 2147483647) : Calls Tryd.prog 69 #[.string ⟨#[47, 0]⟩, .int .i32 (c : Int)] w fun e w' => e = .returned (.int .i64 (-1)) ∧ Below w.heap.size w w' := by
  by_cases he : c = 65533
  · subst he
    clear h h2
    have r0 := fun ty => run_next_asc w ⟨#[47, 0]⟩ 0 ty 47 (by decide) rfl (by decide)
    have r1 := fun ty => run_next_asc w ⟨#[47, 0]⟩ 1 ty 0 (by decide) rfl (by decide)
    have r2 := fun ty => run_next_end (P := Tryd.prog) w ⟨#[47, 0]⟩ 2 ty (by decide)
    have R0 := Lib.hid r0
    have R1 := Lib.hid r1
    have R2 := Lib.hid r2
    clear r0 r1 r2
    go_enter Tryd.func69, Tryd.ntmps69
    go_wp2
    go_loopw [5, 6] (fun _ _ wr => ∃ k : Nat, k ≤ 2 ∧ wr = w.iter ⟨#[47, 0]⟩ k) (fun _ _ wr => 2 - wr.iterPos w.heap.size)
    case atStart => exact ⟨0, by omega, rfl⟩
    case round =>
      obtain ⟨k, hk, rfl⟩ := hrel
      rcases (show k = 0 ∨ k = 1 ∨ k = 2 by omega) with rfl | rfl | rfl
      · have r0 := R0.out
        go_wp2
        go_roundw
        case rel => exact ⟨1, by omega, rfl⟩
        case measure => simp
      · have r0 := R1.out
        go_wp2
        go_roundw
        case rel => exact ⟨2, by omega, rfl⟩
        case measure => simp
      · have r0 := R2.out
        go_wp2
        go_ret
        exact ⟨rfl, (Below.refl _ _).alloc (Nat.le_refl _) _⟩
  · obtain ⟨z, hz⟩ : ∃ z : Int, z = (c : Int) := ⟨_, rfl⟩
    rw [← hz]
    have n1 : (z == 65533) = false := by rw [beq_eq_false_iff_ne]; omega
    have b1 : decide (0 ≤ z) = true := decide_eq_true (by omega)
    have b2 : decide (z < 128) = false := decide_eq_false (by omega)
    have hcz : Utf8.encode z = Utf8.encode (c : Int) := by rw [hz]
    clear hz
    by_cases h8 : c < 2048
    · obtain ⟨x, y, hxy, hy⟩ := enc_two h h8
      rw [hxy] at hcz
      clear h h2 he
      have hy0 : ((((⟨#[47, 0]⟩ : ByteArray)[1].toNat : Nat) : Int) != ((((⟨#[x, y]⟩ : ByteArray)[1]'(show 1 < 2 by omega)).toNat : Nat) : Int)) = true := two_ne x y hy
      clear hxy hy h8
      cases hv : Lib.validRune z
      · go_enter Tryd.func69, Tryd.ntmps69
        go_wp2_with (go_at_call 77; refine (Tryd.utf8_ValidRune _ _).mono ?_; rintro e w' ⟨rfl, hw⟩; rw [hw, hv])
        go_ret
        exact ⟨rfl, Below.refl _ _⟩
      · go_enter Tryd.func69, Tryd.ntmps69
        go_wp2_with (go_at_call 77; refine (Tryd.utf8_ValidRune _ _).mono ?_; rintro e w' ⟨rfl, hw⟩; rw [hw, hv])
        go_step3
        go_wp2_with fail
        go_loopw [9, 10, 11, 12] (fun v9 _ _ _ wr => v9 = .int .i64 1 ∧ wr = w) (fun _ _ _ _ _ => 0)
        case atStart => exact ⟨rfl, rfl⟩
        case round =>
          obtain ⟨rfl, rfl⟩ := hrel
          go_wp2
          go_step3
          go_wp2
          refine wp_canon (by kernel_rfl) (by kernel_rfl) ?_
          go_wp2
          refine ⟨rfl, ?_⟩
          go_wp2
          refine wp_canon_call 7 [] [[0, 1, 2, 3, 4, 5, 6, 7, 8]] (by kernel_rfl) (by kernel_rfl) (by kernel_rfl) ⟨?_, trivial⟩
          simp only [fm_cons, List.filterMap_nil, List.getElem?_toArray, List.getElem?_cons_zero, List.getElem?_cons_succ, Option.elim_some]
          go_wp2_with fail
          refine (Tryd.strings_IndexByte _ _ _).mono ?_
          rintro e w' ⟨rfl, rfl⟩
          have hib : ∀ n, Lib.indexByte ByteArray.empty.data.toList n = -1 := fun _ => rfl
          rw [hib]
          go_wp2
          refine ⟨rfl, ?_⟩
          go_wp2
          rw [Exit.noGoto_ret]
          simp only [Exit.inBlock]
          show Exit.noGoto _ Exit.ret _ _
          rw [Exit.noGoto_ret]
          simp only [Exit.inBlock, Exit.then]
          rw [Exit.noGoto_ret]
          go_ret
          exact ⟨rfl, (Below.refl _ _).drew.drew⟩
    · obtain ⟨rs, hxy, hr3, hr4⟩ := enc_more h8
      rw [hxy] at hcz
      clear h h2 he hxy h8
      cases hv : Lib.validRune z
      · go_enter Tryd.func69, Tryd.ntmps69
        go_wp2_with (go_at_call 77; refine (Tryd.utf8_ValidRune _ _).mono ?_; rintro e w' ⟨rfl, hw⟩; rw [hw, hv])
        go_ret
        exact ⟨rfl, Below.refl _ _⟩
      · go_enter Tryd.func69, Tryd.ntmps69
        go_wp2_with (go_at_call 77; refine (Tryd.utf8_ValidRune _ _).mono ?_; rintro e w' ⟨rfl, hw⟩; rw [hw, hv])
        go_step3
        go_wp2_with fail
        go_loopw [9, 10, 11, 12] (fun v9 _ _ _ wr => v9 = .int .i64 ((rs.size : Int) - 1) ∧ wr = w) (fun _ _ _ _ _ => 0)
        case atStart => exact ⟨rfl, rfl⟩
        case round =>
          obtain ⟨rfl, rfl⟩ := hrel
          have b3 : decide ((rs.size : Int) - 1 < 2) = false := decide_eq_false (by omega)
          go_wp2
          rw [Exit.noGoto_ret]
          go_ret
          exact ⟨rfl, Below.refl _ _⟩
end Go.Proofs.YtenpihkfghfpaaaDoor
