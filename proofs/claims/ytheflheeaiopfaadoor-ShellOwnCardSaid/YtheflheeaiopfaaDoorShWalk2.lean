/- The shell's reader of words: the end of a word, a sign within quotes. -/
import Derived.Test.YtheflheeaiopfaaDoorShWalk
namespace Go.Proofs.YtheflheeaiopfaaDoor
open Go.RowKit Vl
set_option linter.unusedVariables false

theorem end_walk (b B : Nat) (s : W.RS) (k : Nat) (w : World) (h : Sh w b B s) (hl : s.word.length < 1000000) (hl2 : s.words.length < 1000000) :
    Calls Tryd.prog 15 #[.pointer (some ⟨b, 0, none⟩), .int .i64 (k : Int)] w (ShPost b B { s.ends with at_ := k } w) := by
  obtain ⟨vw, vws, hlt, hle, hh, hw, hws⟩ := h
  obtain ⟨i0, hi, hz0, hz1, hz2⟩ := info_parts info9
  obtain ⟨aw, cw, rfl⟩ := hw.form
  obtain ⟨aws, cws, rfl⟩ := hws.form
  have c1 := cell_whole hh 1
  have c2 := cell_whole hh 2
  have f1 := frozen_whole hh 1
  have f2 := frozen_whole hh 2
  simp only [List.getElem?_toArray, List.getElem?_cons_succ, List.getElem?_cons_zero] at c1 c2
  have hcv := conv_bytes hw rfl w.drew (fun _ _ => rfl)
  have HH := Lib.hid hh
  clear hh
  go_enter Tryd.func15, Tryd.ntmps15
  go_wp2
  refine wp_canon (by kernel_rfl) (by kernel_rfl) ?_
  go_wp2_with (at_builtin; refine wpList_append_own _ rfl _ _ 22 rfl B 9 i0 (.string ByteArray.empty) 1 16 Tryd.underlying22 hi hz0 hz1 hz2 rfl (by decide) _ _ _ rfl (Own.drew (hws.alloc _)) ⟨w.heap.size, 0, none⟩ 1 1 [.string (strOf s.word)] rfl rfl ?c1 ?c2 ?c3 ?c4 ?c5 ?_)
  case c1 => exact new_one _ _ _ _ rfl
  case c2 => exact one_cell rfl
  case c3 => unfold maxLen; omega
  case c4 => omega
  case c5 => exact le_drew (le_alloc hle _)
  intro v' w1 h1 hg _
  obtain ⟨hh1, hws1, ho1, hB1, a1, d1, rfl⟩ := ref_ended hlt (le_drew (le_alloc hle _)) (alloc_whole HH.out) (Own.drew (hws.alloc _)) h1 hg
  have hw1 : Own w1 B 5 (.slice aw s.word.length cw) s.word.length (bcells s.word) := by
    refine (hw.alloc (.cells #[.string (strOf s.word)] 9)).keep fun k hk => hg.block k ?_ ?_
    · have := (hw.block hk).2.1; rw [size_drew, size_alloc]; omega
    · intro e
      obtain ⟨_, _, cur, hcur⟩ := hws.block e.symm
      obtain ⟨_, _, cur', hcur'⟩ := hw.block hk
      rw [hcur] at hcur'
      cases hcur'
  have c2' := cell_whole hh1 2
  have f2' := frozen_whole hh1 2
  have c1' := cell_whole hh1 1
  have f1' := frozen_whole hh1 1
  have c0' := cell_whole hh1 0
  have f0' := frozen_whole hh1 0
  simp only [List.getElem?_toArray, List.getElem?_cons_succ, List.getElem?_cons_zero] at c0' c1' c2'
  have HH1 := Lib.hid hh1
  have HO := Lib.hid ho1
  clear hh1 c1 c2 f1 f2 ho1 hcv
  go_wp2
  refine ⟨rfl, ?_⟩
  go_wp2
  go_end0
  refine ⟨rfl, ⟨_, _, hlt, le_set (le_set (le_set hB1 _ _) _ _) _ _, ?_, Own.nil _ _ _, ((hws1.setCell hlt).setCell hlt).setCell hlt⟩, ((((((Out.refl b B w).alloc _ hle).drew.trans HO.out).setCell _ _ (.inl rfl)).setCell _ _ (.inl rfl)).setCell _ _ (.inl rfl))⟩
  rw [set_whole (i := 0) (set_whole (i := 1) (set_whole (i := 2) HH1.out _) _)]
  simp [W.RS.ends]

/-- What a call within quotes tells. -/
def InPost (b B : Nat) (o : Option W.RS) (w : World) (e : Ending) (w' : World) : Prop :=
  Out b B w w' ∧ match o with | none => e = .returned (.bool false) | some s' => e = .returned (.bool true) ∧ Sh w' b B s'

theorem shout_set {w w' : World} {b B : Nat} (h : Out b B w w') (k : Nat) (v : Value) : Out b B w (w'.setCell ⟨b, k, none⟩ v) := h.setCell _ _ (.inl rfl)

theorem meant_is {r x : Int} (h : W.meantR r = x) (w : World) : Calls Tryd.prog 25 #[.int .i32 r] w fun e w' => e = .returned (.int .u8 x) ∧ w' = w := by subst h; exact meant_walk r w
theorem digit_is {r x : Int} (h : W.digitR r = x) (w : World) : Calls Tryd.prog 26 #[.int .i32 r] w fun e w' => e = .returned (.int .i64 x) ∧ w' = w := by subst h; exact digit_walk r w
theorem barred_is {r : Int} {x : Bool} (h : W.barredR r = x) (w : World) : Calls Tryd.prog 16 #[.int .i32 r] w fun e w' => e = .returned (.bool x) ∧ w' = w := by subst h; exact barred_walk r w
theorem blank_is {r : Int} {x : Bool} (h : W.blankR r = x) (w : World) : Calls Tryd.prog 14 #[.int .i32 r] w fun e w' => e = .returned (.bool x) ∧ w' = w := by subst h; exact blank_walk r w

theorem inq2 {s : W.RS} {r : Int} {bs : List UInt8} (h : s.at_ = 2) : W.inQ s r bs = if r = 34 then some { s.ends with at_ := 6 } else if r = 92 then some { s with at_ := 3 } else if W.barredR r then none else some (s.put bs) := by
  unfold W.inQ; rw [if_pos h]
theorem inq3 {s : W.RS} {r : Int} {bs : List UInt8} (h : s.at_ = 3) : W.inQ s r bs = if r = 120 then some { s with at_ := 4 } else if W.meantR r = 0 then none else some { s.push (W.byteOf (W.meantR r)) with at_ := 2 } := by
  unfold W.inQ; rw [if_neg (by omega), if_pos h]
theorem inq4 {s : W.RS} {r : Int} {bs : List UInt8} (h : s.at_ = 4) : W.inQ s r bs = if W.digitR r < 0 then none else some { s with hex := W.digitR r, at_ := 5 } := by
  unfold W.inQ; rw [if_neg (by omega), if_neg (by omega), if_pos h]
theorem inq5 {s : W.RS} {r : Int} {bs : List UInt8} (h : s.at_ = 5) : W.inQ s r bs = if W.digitR r < 0 then none else some { s.push (W.byteOf (16 * s.hex + W.digitR r)) with at_ := 2 } := by
  unfold W.inQ; rw [if_neg (show ¬ s.at_ = 2 by omega), if_neg (show ¬ s.at_ = 3 by omega), if_neg (show ¬ s.at_ = 4 by omega)]

theorem inq_two (b B : Nat) (s : W.RS) (r : Int) (m : ByteArray) (w : World) (h : Sh w b B s) (hl : s.word.length + m.size < 1000000) (hl2 : s.words.length < 1000000) (ek : s.at_ = 2) :
    Calls Tryd.prog 17 #[.pointer (some ⟨b, 0, none⟩), .int .i32 r, .string m] w (InPost b B (W.inQ s r (bytes m)) w) := by
  have HN := Lib.hid (inq2 (r := r) (bs := bytes m) ek)
  have c0 := sh_at h ek
  obtain ⟨_, c3, f⟩ := sh_cells h
  have f0 := f 0
  have f1 := f 1
  have EK := Lib.hid ek
  clear f ek
  by_cases n1 : r = 34
  · have hF : W.inQ s r (bytes m) = some { s.ends with at_ := 6 } := by rw [HN.out, if_pos n1]
    rw [hF]
    clear hF HN
    subst n1
    go_enter Tryd.func17, Tryd.ntmps17
    go_wp2_with (go_at_call 15; refine (end_walk b B s 6 _ h (by omega) hl2).mono ?_; rintro e w' ⟨rfl, hr, ho⟩)
    go_ret
    exact ⟨ho, rfl, hr⟩
  by_cases n2 : r = 92
  · have hF : W.inQ s r (bytes m) = some { s with at_ := 3 } := by rw [HN.out, if_neg n1, if_pos n2]
    rw [hF]
    clear hF HN
    subst n2
    go_enter Tryd.func17, Tryd.ntmps17
    go_wp2
    go_ret
    exact ⟨shout_set (Out.refl _ _ _) _ _, rfl, sh_set h 0 _ rfl rfl (fun _ _ => rfl)⟩
  have m1 : (r == 34) = false := by simpa using n1
  have m2 : (r == 92) = false := by simpa using n2
  cases n3 : W.barredR r with
  | true =>
    have hF : W.inQ s r (bytes m) = none := by rw [HN.out, if_neg n1, if_neg n2, if_pos n3]
    rw [hF]
    have N3 := Lib.hid n3
    clear hF HN n1 n2 n3
    go_enter Tryd.func17, Tryd.ntmps17
    go_wp2_with (go_at_call 16; refine (barred_is N3.out _).mono ?_; rintro e w' ⟨rfl, rfl⟩)
    go_ret
    exact ⟨Out.refl _ _ _, rfl⟩
  | false =>
    have hF : W.inQ s r (bytes m) = some (s.put (bytes m)) := by rw [HN.out, if_neg n1, if_neg n2, n3]; rfl
    rw [hF]
    have N3 := Lib.hid n3
    clear hF HN n1 n2 n3
    obtain ⟨i0, hi, hz0, hz1, hz2⟩ := info_parts info5
    obtain ⟨aw, cw, vws, hA, c1⟩ := sh_open h
    have hw := hA.word
    have hle := hA.le
    go_enter Tryd.func17, Tryd.ntmps17
    go_wp2_with fail
    refine (barred_is N3.out _).mono ?_
    rintro e w' ⟨rfl, rfl⟩
    go_wp2_with (at_builtin; refine Lib.wpList_append_own_string _ rfl _ _ 33 9 rfl B 5 i0 Tryd.underlying33 Tryd.underlying9 hi hz0 hz1 hz2 _ _ _ rfl hw m rfl (by unfold maxLen; omega) (by omega) hle ?_)
    intro v' w1 h1 hg _
    rw [strCells_eq, ← bytes_len] at h1
    obtain ⟨⟨a1, d1, rfl⟩, ⟨u1, c1'⟩, f', c0', hr, ho, f0'', u0, c0''⟩ := sh_push hA h1 hg
    have f1' := f' 1
    have HR := Lib.hid hr
    have HO := Lib.hid ho
    clear f' c1 c0 c3 f0 f1 hr ho
    go_wp2
    go_ret
    exact ⟨HO.out, rfl, HR.out⟩
end Go.Proofs.YtheflheeaiopfaaDoor
