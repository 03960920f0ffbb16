/- strings.ContainsAny of "/\x00", at whatever short text; codec.Name. -/
import Derived.Test.YtenpihkfghfpaaaDoorDRune
import Derived.Lib.OthersKept
namespace Go.Proofs.YtenpihkfghfpaaaDoor
open Go.RowKit Vl
set_option linter.unusedVariables false

/-- Neither a slash nor a zero byte among the first i. -/
def Free (l : List UInt8) (i : Nat) : Prop := ∀ (j : Nat) b, j < i → l[j]? = some b → b ≠ 47 ∧ b ≠ 0
theorem Free.zero (l : List UInt8) : Free l 0 := fun _ _ h => absurd h (Nat.not_lt_zero _)
theorem Free.to (s : ByteArray) {i : Nat} (h : Free (bytes s) i) {d : Nat} (hh : ∀ j, i ≤ j → j < i + d → ∀ hj : j < s.size, 128 ≤ (s[j]'hj).toNat ∨ ((s[j]'hj) ≠ 47 ∧ (s[j]'hj) ≠ 0)) : Free (bytes s) (i + d) := by
  intro j b hj hb
  by_cases hji : j < i
  · exact h j b hji hb
  · have hjs : j < s.size := by
      have := (List.getElem?_eq_some_iff.1 hb).1
      rw [bytes_len] at this; exact this
    have he : s[j] = b := by
      have := (List.getElem?_eq_some_iff.1 hb).2
      exact this
    have := hh j (by omega) hj hjs
    rw [he] at this
    rcases this with h1 | h1
    · exact ⟨by rintro rfl; exact absurd h1 (by decide), by rintro rfl; exact absurd h1 (by decide)⟩
    · exact h1
theorem Free.whole {s : ByteArray} (h : Free (bytes s) s.size) : ¬ ((47 : UInt8) ∈ bytes s ∨ (0 : UInt8) ∈ bytes s) := by
  rintro (hm | hm)
  · obtain ⟨j, hj, e⟩ := List.getElem_of_mem hm
    exact (h j 47 (by rw [bytes_len] at hj; exact hj) (by rw [List.getElem?_eq_getElem hj, e])).1 rfl
  · obtain ⟨j, hj, e⟩ := List.getElem_of_mem hm
    exact (h j 0 (by rw [bytes_len] at hj; exact hj) (by rw [List.getElem?_eq_getElem hj, e])).2 rfl

/-- What a rune above ASCII covers lies above ASCII. -/
theorem decode_cover (s : ByteArray) (pos : Nat) (h : pos < s.size) (ha : 128 ≤ (s[pos]'h).toNat) : pos + (Utf8.decode s pos).2 ≤ s.size ∧ ∀ j, pos ≤ j → j < pos + (Utf8.decode s pos).2 → ∀ hj : j < s.size, 128 ≤ (s[j]'hj).toNat := by
  have hn : ¬ (s[pos]'h).toNat < 128 := by omega
  have hg : ∀ k (hk : pos + k < s.size), s.get! (pos + k) = s[pos + k] := fun k hk => by
    have := get_at s (pos + k) hk
    simpa using this
  have one : ∀ d, d = 1 → pos + d ≤ s.size ∧ ∀ j, pos ≤ j → j < pos + d → ∀ hj : j < s.size, 128 ≤ (s[j]'hj).toNat := by
    rintro d rfl
    refine ⟨by omega, fun j h1 h2 hj => ?_⟩
    obtain rfl : j = pos := by omega
    exact ha
  have cont : ∀ k, (decide (pos + k < s.size) && (s.get! (pos + k)).toNat / 64 == 2) = true → pos + k < s.size ∧ ∀ hk : pos + k < s.size, 128 ≤ (s[pos + k]'hk).toNat := by
    intro k hk
    simp only [Bool.and_eq_true, decide_eq_true_eq, beq_iff_eq] at hk
    refine ⟨hk.1, fun hk' => ?_⟩
    have := hk.2
    rw [hg k hk'] at this
    omega
  have two : ∀ d, 2 ≤ d → (∀ k, 1 ≤ k → k < d → pos + k < s.size ∧ ∀ hk : pos + k < s.size, 128 ≤ (s[pos + k]'hk).toNat) → pos + d ≤ s.size ∧ ∀ j, pos ≤ j → j < pos + d → ∀ hj : j < s.size, 128 ≤ (s[j]'hj).toNat := by
    intro d hd hk
    refine ⟨by have := (hk (d - 1) (by omega) (by omega)).1; omega, fun j h1 h2 hj => ?_⟩
    by_cases e : j = pos
    · subst e; exact ha
    · obtain ⟨k, rfl⟩ : ∃ k, j = pos + k := ⟨j - pos, by omega⟩
      exact (hk k (by omega) (by omega)).2 hj
  unfold Utf8.decode
  simp only [get_at s pos h, hn, if_false]
  split
  · rename_i h1
    simp only [Bool.and_eq_true] at h1
    split
    · refine two 2 (by omega) fun k hk1 hk2 => ?_
      obtain rfl : k = 1 := by omega
      exact cont 1 (by simpa using h1.2)
    · exact one _ rfl
  · split
    · rename_i h1
      simp only [Bool.and_eq_true] at h1
      split
      · refine two 3 (by omega) fun k hk1 hk2 => ?_
        rcases (show k = 1 ∨ k = 2 by omega) with rfl | rfl
        · exact cont 1 (by simpa using h1.1.2)
        · exact cont 2 (by simpa using h1.2)
      · exact one _ rfl
    · split
      · rename_i h1
        simp only [Bool.and_eq_true] at h1
        split
        · refine two 4 (by omega) fun k hk1 hk2 => ?_
          rcases (show k = 1 ∨ k = 2 ∨ k = 3 by omega) with rfl | rfl | rfl
          · exact cont 1 (by simpa using h1.1.1.2)
          · exact cont 2 (by simpa using h1.1.2)
          · exact cont 3 (by simpa using h1.2)
        · exact one _ rfl
      · exact one _ rfl

theorem signs_conv (c : UInt8) (h : c = 47 ∨ c = 0) : ((0 : Int) ≤ Lib.indexByte (⟨#[47, 0]⟩ : ByteArray).data.toList ((c.toNat : Int)).toNat.toUInt8) := by
  rcases h with rfl | rfl
  · exact (by decide)
  · exact (by decide)
theorem signs_none (c : UInt8) (h : ¬ (c = 47 ∨ c = 0)) : Lib.indexByte (⟨#[47, 0]⟩ : ByteArray).data.toList ((c.toNat : Int)).toNat.toUInt8 = -1 := by
  have hb : ((c.toNat : Int)).toNat.toUInt8 = c := by simp
  rw [hb]
  have h1 : ¬ c = 47 := fun e => h (.inl e)
  have h2 : ¬ c = 0 := fun e => h (.inr e)
  show Lib.indexByte [47, 0] c = -1
  have h1' : ¬ (47 : UInt8) = c := fun e => h1 e.symm
  have h2' : ¬ (0 : UInt8) = c := fun e => h2 e.symm
  simp [Lib.indexByte, h1', h2']

theorem below_iterAt {B : Nat} {w0 w : World} {k : Nat} {s : ByteArray} {p : Nat} (h : Below B w0 w) (hk : B ≤ k) : Below B w0 (w.iterAt k s p) := by
  refine ⟨h.os, h.tape, h.output, by simpa [World.iterAt] using h.size, fun j hj => ?_⟩
  rw [← h.block j hj]
  simp only [World.iterAt]
  rw [Array.getElem?_setIfInBounds_ne (by omega)]
theorem iterPos_of {w : World} {k : Nat} {s : ByteArray} {p : Nat} (h : w.heap[k]? = some (.stringIter s p)) : w.iterPos k = p := by
  unfold World.iterPos; rw [h]

set_option maxRecDepth 100000 in
set_option maxHeartbeats 2000000 in
theorem indexAny_short (s : ByteArray) (w : World) (h8 : s.size ≤ 8) :
    Calls Tryd.prog 64 #[.string s, .string ⟨#[47, 0]⟩] w fun e w' => (∃ n : Int, e = .returned (.int .i64 n) ∧ (decide (0 ≤ n) = decide ((47 : UInt8) ∈ bytes s ∨ (0 : UInt8) ∈ bytes s))) ∧ Below w.heap.size w w' := by
  have h8z : decide ((8 : Int) < (s.size : Int)) = false := decide_eq_false (by omega)
  go_enter Tryd.func64, Tryd.ntmps64
  go_wp2_with (go_at_call 70; refine (Tryd.strings_shouldUseASCIISet _ _).mono ?_; rintro e w' ⟨rfl, hw⟩; rw [hw, h8z])
  go_loopw [9, 10] (fun _ _ wr => ∃ i : Nat, i ≤ s.size ∧ wr.heap[w.heap.size]? = some (.stringIter s i) ∧ Free (bytes s) i ∧ Below w.heap.size w wr) (fun _ _ wr => s.size - wr.iterPos w.heap.size)
  case atStart => exact ⟨0, by omega, w.iter_heap s 0, Free.zero _, (Below.refl _ _).alloc (Nat.le_refl _) _⟩
  case round =>
    obtain ⟨i, hi, hit, hfree, hb⟩ := hrel
    have HF := Lib.hid hfree
    have HB := Lib.hid hb
    have HI := Lib.hid hit
    clear hfree hb hit
    by_cases hlt : i < s.size
    · have hnx := fun ty => Lib.run_next_any_at (P := Tryd.prog) wr w.heap.size s i ty HI.out hlt
      have hat := Lib.iterAt_heap wr w.heap.size s i (i + (Utf8.decode s i).2) HI.out
      have hbe : Below w.heap.size w (wr.iterAt w.heap.size s (i + (Utf8.decode s i).2)) := below_iterAt HB.out (Nat.le_refl _)
      have HA := Lib.hid hat
      have HBE := Lib.hid hbe
      have hpos := iterPos_of HI.out
      clear hat hbe
      by_cases ha : 128 ≤ (s[i]'hlt).toNat
      · obtain ⟨d1, d2⟩ := decode_high s i hlt ha
        have hle := decode_le s i
        obtain ⟨c1, c2⟩ := decode_cover s i hlt ha
        have HFn := Lib.hid (HF.out.to s (d := (Utf8.decode s i).2) (fun j h1 h2 hj => .inl (c2 j h1 h2 hj)))
        have HR := Lib.hid (fun w => indexRune_high (Utf8.decode s i).1 w d1 hle)
        clear c2 hle d1 ha
        generalize (Utf8.decode s i).1 = c at *
        generalize (Utf8.decode s i).2 = d at *
        go_wp2_with (go_at_call 69; refine (HR.out _).mono ?_)
        rintro e w' ⟨rfl, hb⟩
        have HB2 := Lib.hid hb
        clear hb
        go_wp2
        go_roundw
        case rel =>
          have hh := HB2.out.block w.heap.size (lt_whole HA.out)
          rw [HA.out] at hh
          exact ⟨i + d, c1, hh, HFn.out, HBE.out.trans (HB2.out.mono HBE.out.size)⟩
        case measure =>
          have hh := HB2.out.block w.heap.size (lt_whole HA.out)
          rw [HA.out] at hh
          rw [iterPos_of hh, hpos]
          omega
      · have ha' : (s[i]'hlt).toNat < 128 := by omega
        have hd := decode_ascii s i hlt ha'
        have hd1 : (Utf8.decode s i).1 = (s[i]'hlt).toNat := by rw [hd]
        have hd2 : (Utf8.decode s i).2 = 1 := by rw [hd]
        rw [hd1, hd2] at hnx
        rw [hd2] at HA HBE
        have hss : ((s[i]'hlt) ≠ 47 ∧ (s[i]'hlt) ≠ 0) → Free (bytes s) (i + 1) := fun h => HF.out.to s (d := 1) (fun j h1 h2 hj => .inr (by
          have e : j = i := by omega
          subst e
          exact h))
        have HS := Lib.hid hss
        clear hss
        have HM := Lib.hid (show (s[i]'hlt) ∈ bytes s from List.getElem_mem (l := bytes s) (n := i) (by rw [bytes_len]; exact hlt))
        clear hd hd1 hd2 ha
        generalize s[i]'hlt = c at *
        have hc0 : (0 : Int) ≤ ((c.toNat : Nat) : Int) := by omega
        have hc1 : ((c.toNat : Nat) : Int) < 128 := by omega
        have HC0 := Lib.hid hc0
        have HC1 := Lib.hid hc1
        clear hc0 hc1 ha'
        by_cases hs : c = 47 ∨ c = 0
        · have hcv := signs_conv c hs
          have hy : decide ((47 : UInt8) ∈ bytes s ∨ (0 : UInt8) ∈ bytes s) = true := decide_eq_true (by rcases hs with rfl | rfl; exact .inl HM.out; exact .inr HM.out)
          have HY := Lib.hid hy
          have HCV := Lib.hid hcv
          clear hy hcv hs HM HS
          have HR := Lib.hid (fun w => Tryd.strings_IndexRune_ascii ⟨#[47, 0]⟩ (c.toNat : Int) w HC0.out HC1.out)
          generalize Lib.indexByte (⟨#[47, 0]⟩ : ByteArray).data.toList ((c.toNat : Int)).toNat.toUInt8 = q at *
          have hq := HCV.out
          go_wp2_with (go_at_call 69; refine (HR.out _).mono ?_; rintro e w' ⟨rfl, hw9⟩; rw [hw9])
          go_ret
          exact ⟨⟨_, rfl, by rw [HY.out]; exact decide_eq_true (by omega)⟩, HBE.out⟩
        · have hcv := signs_none c hs
          have HCV := Lib.hid hcv
          have HS2 := Lib.hid (HS.out ⟨fun e => hs (.inl e), fun e => hs (.inr e)⟩)
          clear hcv hs HM HS
          have HR := Lib.hid (fun w => Tryd.strings_IndexRune_ascii ⟨#[47, 0]⟩ (c.toNat : Int) w HC0.out HC1.out)
          rw [HCV.out] at HR
          go_wp2_with (go_at_call 69; refine (HR.out _).mono ?_; rintro e w' ⟨rfl, hw9⟩; rw [hw9])
          go_roundw
          case rel => exact ⟨i + 1, by omega, HA.out, HS2.out, HBE.out⟩
          case measure =>
            rw [iterPos_of HA.out, hpos]
            omega
    · obtain rfl : i = s.size := by omega
      have hnx := fun ty => Lib.run_next_end_at (P := Tryd.prog) wr w.heap.size s s.size ty HI.out hlt
      have hy : decide ((47 : UInt8) ∈ bytes s ∨ (0 : UInt8) ∈ bytes s) = false := decide_eq_false HF.out.whole
      have HY := Lib.hid hy
      clear hy
      go_wp2
      go_ret
      exact ⟨⟨_, rfl, by rw [HY.out]; rfl⟩, HB.out⟩

theorem indexAny_signs (l : List UInt8) : decide (0 ≤ Lib.indexAny l [47, 0]) = decide ((47 : UInt8) ∈ l ∨ (0 : UInt8) ∈ l) := by
  induction l with
  | nil => rfl
  | cons b l ih =>
    have hge := Lib.indexAny_ge [47, 0] l
    by_cases hb : b = 47 ∨ b = 0
    · have hc : ([47, 0] : List UInt8).contains b = true := by rcases hb with rfl | rfl <;> rfl
      rw [Lib.indexAny, if_pos hc]
      rcases hb with rfl | rfl <;> simp
    · have h1 : ¬ b = 47 := fun e => hb (.inl e)
      have h2 : ¬ b = 0 := fun e => hb (.inr e)
      have hc : ¬ ([47, 0] : List UInt8).contains b = true := by simp [h1, h2]
      have h1' : ¬ (47 : UInt8) = b := fun e => h1 e.symm
      have h2' : ¬ (0 : UInt8) = b := fun e => h2 e.symm
      have e : decide ((47 : UInt8) ∈ b :: l ∨ (0 : UInt8) ∈ b :: l) = decide ((47 : UInt8) ∈ l ∨ (0 : UInt8) ∈ l) := by simp [h1', h2']
      rw [e, ← ih, Lib.indexAny, if_neg hc]
      rw [Bool.eq_iff_iff]
      simp only [decide_eq_true_eq]
      split
      · rename_i hm
        have : Lib.indexAny l [47, 0] = -1 := by simpa using hm
        omega
      · rename_i hm
        have : Lib.indexAny l [47, 0] ≠ -1 := by simpa using hm
        omega

theorem info105 : (Tryd.prog.info? 105).map (fun i => (i.zero, i.size)) = some (some (.agg (Array.replicate 256 (.bool false))), 256) := by kernel_rfl

theorem containsAny_walk (s : ByteArray) (w : World) (h : s.size ≤ 54) :
    Calls Tryd.prog 59 #[.string s, .string ⟨#[47, 0]⟩] w fun e w' => e = .returned (.bool (decide ((47 : UInt8) ∈ bytes s ∨ (0 : UInt8) ∈ bytes s))) ∧ Below w.heap.size w w' := by
  have HR := Lib.hid (show Calls Tryd.prog 64 #[.string s, .string ⟨#[47, 0]⟩] w fun e w' => (∃ n : Int, e = .returned (.int .i64 n) ∧ (decide (0 ≤ n) = decide ((47 : UInt8) ∈ bytes s ∨ (0 : UInt8) ∈ bytes s))) ∧ Below w.heap.size w w' by
    by_cases h8 : s.size ≤ 8
    · exact indexAny_short s w h8
    · refine (Tryd.strings_IndexAny_long (zero_of_info info105).1 s ⟨#[47, 0]⟩ w (by decide) (by omega) (by omega) (by decide) ?_).mono ?_
      · intro j b hj
        have : b ∈ ([47, 0] : List UInt8) := List.mem_of_getElem? hj
        rcases (show b = 47 ∨ b = 0 by simpa using this) with rfl | rfl <;> decide
      · rintro e w' ⟨rfl, rfl⟩
        exact ⟨⟨_, rfl, indexAny_signs (bytes s)⟩, ((Below.refl _ _).alloc (Nat.le_refl _) _).alloc (le_alloc (Nat.le_refl _) _) _⟩)
  generalize decide ((47 : UInt8) ∈ bytes s ∨ (0 : UInt8) ∈ bytes s) = q at *
  go_enter Tryd.func59, Tryd.ntmps59
  go_wp2_with (go_at_call 64; refine HR.out.mono ?_)
  rintro e w' ⟨⟨n, rfl, hn⟩, hb⟩
  go_wp2
  go_ret
  exact ⟨by rw [← hn]; rfl, hb⟩

theorem nameB_of {l : List UInt8} (h : ¬ 54 < l.length) (h0 : l ≠ []) (h1 : l ≠ [46]) (h2 : l ≠ [46, 46]) : nameB l = !decide ((47 : UInt8) ∈ l ∨ (0 : UInt8) ∈ l) := by
  by_cases hs : (47 : UInt8) ∈ l ∨ (0 : UInt8) ∈ l
  · rw [decide_eq_true hs]
    rcases hs with hs | hs
    · exact nameB_sign hs (.inl rfl)
    · exact nameB_sign hs (.inr rfl)
  · rw [decide_eq_false hs]
    exact nameB_yes h h0 h1 h2 (fun c hc => ⟨by rintro rfl; exact hs (.inl hc), by rintro rfl; exact hs (.inr hc)⟩)

set_option maxRecDepth 100000 in
set_option maxHeartbeats 1000000 in
theorem codecName_walk (s : ByteArray) (w : World) (hs : s.size ≤ maxLen) : Calls Tryd.prog 52 #[.string s] w fun e w' => e = .returned (.int .i64 (nameE (bytes s))) ∧ Below w.heap.size w w' := by
  unfold maxLen at hs
  by_cases hlong : 54 < s.size
  · have hn := nameE_long (l := bytes s) (by rw [bytes_len]; exact hlong)
    have HN := Lib.hid hn
    clear hn
    go_enter Tryd.func52, Tryd.ntmps52
    go_wp2
    go_ret
    exact ⟨by rw [HN.out]; rfl, Below.refl _ _⟩
  · have hl : ¬ 54 < (bytes s).length := by rw [bytes_len]; exact hlong
    have HLg := Lib.hid hl
    clear hl
    by_cases hd : bytes s = [] ∨ bytes s = [46] ∨ bytes s = [46, 46]
    · have hn := nameE_bad HLg.out (nameB_dots hd)
      have HN := Lib.hid hn
      clear hn
      have ht : s.toList = bytes s := ByteArray.toList_eq s
      rcases hd with h | h | h
      all_goals
        rw [h] at ht
        clear h
        go_enter Tryd.func52, Tryd.ntmps52
        go_wp2
        go_ret
        exact ⟨by rw [HN.out]; rfl, Below.refl _ _⟩
    · have ht : s.toList = bytes s := ByteArray.toList_eq s
      have h0 : (s.toList.isEmpty) = false := by rw [ht]; simp only [List.isEmpty_eq_false_iff]; exact fun e => hd (.inl e)
      have h1 : (s.toList == [46]) = false := by rw [ht, beq_eq_false_iff_ne]; exact fun e => hd (.inr (.inl e))
      have h2 : (s.toList == [46, 46]) = false := by rw [ht, beq_eq_false_iff_ne]; exact fun e => hd (.inr (.inr e))
      have HNB := Lib.hid (nameB_of HLg.out (fun e => hd (.inl e)) (fun e => hd (.inr (.inl e))) (fun e => hd (.inr (.inr e))))
      have HC := Lib.hid (fun w => containsAny_walk s w (by omega))
      clear ht hd
      cases hq : decide ((47 : UInt8) ∈ bytes s ∨ (0 : UInt8) ∈ bytes s)
      all_goals
        rw [hq] at HNB HC
        clear hq
        go_enter Tryd.func52, Tryd.ntmps52
        go_wp2_with (go_at_call 59; refine (HC.out _).mono ?_)
        rintro e w' ⟨rfl, hb⟩
        have HB := Lib.hid hb
        clear hb
        go_wp2
        go_ret
      · exact ⟨by rw [nameE_good HNB.out]; rfl, HB.out⟩
      · exact ⟨by rw [nameE_bad HLg.out HNB.out]; rfl, HB.out⟩
end Go.Proofs.YtenpihkfghfpaaaDoor
