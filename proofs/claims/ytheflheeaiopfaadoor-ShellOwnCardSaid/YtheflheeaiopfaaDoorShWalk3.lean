/- The shell's reader of words: a sign within quotes, the rest of the cases. -/
import Derived.Test.YtheflheeaiopfaaDoorShWalk2
namespace Go.Proofs.YtheflheeaiopfaaDoor
open Go.RowKit Vl
set_option linter.unusedVariables false

theorem inq_three (b B : Nat) (s : W.RS) (r : Int) (m : ByteArray) (w : World) (h : Sh w b B s) (hl : s.word.length < 1000000) (ek : s.at_ = 3) :
    Calls Tryd.prog 17 #[.pointer (some ⟨b, 0, none⟩), .int .i32 r, .string m] w (InPost b B (W.inQ s r (bytes m)) w) := by
  have HN := Lib.hid (inq3 (r := r) (bs := bytes m) ek)
  have c0 := sh_at h ek
  obtain ⟨_, c3, f⟩ := sh_cells h
  have f0 := f 0
  have f1 := f 1
  have EK := Lib.hid ek
  clear f ek
  by_cases n1 : r = 120
  · have hF : W.inQ s r (bytes m) = some { s with at_ := 4 } := by rw [HN.out, if_pos n1]
    rw [hF]
    clear hF HN
    subst n1
    go_enter Tryd.func17, Tryd.ntmps17
    go_wp2
    go_ret
    exact ⟨shout_set (Out.refl _ _ _) _ _, rfl, sh_set h 0 _ rfl rfl (fun _ _ => rfl)⟩
  have m1 : (r == 120) = false := by simpa using n1
  have hr0 := W.meantR_range r
  have hby := byteOf_val hr0.1 hr0.2
  generalize hx : W.meantR r = x at *
  have HX := Lib.hid hx
  by_cases n2 : x = 0
  · have hF : W.inQ s r (bytes m) = none := by rw [HN.out, if_neg n1, if_pos n2]
    rw [hF]
    clear hF HN n1 hx
    subst n2
    go_enter Tryd.func17, Tryd.ntmps17
    go_wp2_with (go_at_call 25; refine (meant_is HX.out _).mono ?_; rintro e w' ⟨rfl, rfl⟩)
    go_ret
    exact ⟨Out.refl _ _ _, rfl⟩
  · have hF : W.inQ s r (bytes m) = some { s.push (W.byteOf x) with at_ := 2 } := by rw [HN.out, if_neg n1, if_neg n2]
    rw [hF]
    have m2 : (x != 0) = true := by simpa using n2
    have HB := Lib.hid hby
    clear hF HN n1 n2 hx hby
    obtain ⟨i0, hi, hz0, hz1, hz2⟩ := info_parts info5
    obtain ⟨aw, cw, vws, hA, c1⟩ := sh_open h
    have hw := hA.word
    have hle := hA.le
    go_enter Tryd.func17, Tryd.ntmps17
    go_wp2_with fail
    refine (meant_is HX.out _).mono ?_
    rintro e w' ⟨rfl, rfl⟩
    go_wp2_with (at_builtin; refine wpList_append_own _ rfl _ _ 33 rfl B 5 i0 (.int .u8 0) 1 1 Tryd.underlying33 hi hz0 hz1 hz2 rfl (by decide) _ _ _ rfl (hw.alloc _) ⟨w'.heap.size, 0, none⟩ 1 1 [.int .u8 x] rfl rfl (new_one _ _ _ _ rfl) (one_cell rfl) (max_ok hl) (byt_ok1 hl) (le_alloc hle _) ?_)
    intro v' w1 h1 hg _
    have h1' : w1.ownsRow B 5 1 v' (s.word.length + [W.byteOf x].length) (bcells s.word ++ bcells [W.byteOf x]) := by rw [bcells_one, HB.out]; exact h1
    have hA' : ShAt (w'.alloc (.cells #[.int .u8 x] 5)) b B s (.slice aw s.word.length cw) vws := ⟨hA.lt, le_alloc hA.le _, alloc_whole hA.heap, hA.word.alloc _, hA.words.alloc _⟩
    obtain ⟨⟨a1, d1, rfl⟩, ⟨u1, c1'⟩, f', c0', hr, ho, f0'', u0, c0''⟩ := sh_push hA' h1' hg
    have f1' := f' 1
    have f0' := f' 0
    have HR := Lib.hid hr
    have HO := Lib.hid ho
    clear f' c1 c0 c3 f0 f1 hr ho
    go_wp2
    go_ret
    exact ⟨shout_set (((Out.refl _ _ _).alloc _ hA.le).trans HO.out) _ _, rfl, sh_set HR.out 0 _ rfl rfl (fun _ _ => rfl)⟩

theorem inq_four (b B : Nat) (s : W.RS) (r : Int) (m : ByteArray) (w : World) (h : Sh w b B s) (ek : s.at_ = 4) :
    Calls Tryd.prog 17 #[.pointer (some ⟨b, 0, none⟩), .int .i32 r, .string m] w (InPost b B (W.inQ s r (bytes m)) w) := by
  have HN := Lib.hid (inq4 (r := r) (bs := bytes m) ek)
  have c0 := sh_at h ek
  obtain ⟨_, c3, f⟩ := sh_cells h
  have f0 := f 0
  have f3 := f 3
  have EK := Lib.hid ek
  clear f ek
  have hr0 := W.digitR_range r
  generalize hx : W.digitR r = x at *
  have HX := Lib.hid hx
  by_cases n2 : x < 0
  · have hF : W.inQ s r (bytes m) = none := by rw [HN.out, if_pos n2]
    rw [hF]
    clear hF HN hx
    go_enter Tryd.func17, Tryd.ntmps17
    go_wp2_with (go_at_call 26; refine (digit_is HX.out _).mono ?_; rintro e w' ⟨rfl, rfl⟩)
    go_ret
    exact ⟨Out.refl _ _ _, rfl⟩
  · have hF : W.inQ s r (bytes m) = some { s with hex := x, at_ := 5 } := by rw [HN.out, if_neg n2]
    rw [hF]
    have n2' : 0 ≤ x := by omega
    clear hF HN hx
    go_enter Tryd.func17, Tryd.ntmps17
    go_wp2_with (go_at_call 26; refine (digit_is HX.out _).mono ?_; rintro e w' ⟨rfl, rfl⟩)
    go_ret
    exact ⟨shout_set (shout_set (Out.refl _ _ _) _ _) _ _, rfl, sh_set (sh_set h 3 _ rfl rfl (fun _ _ => rfl) (s' := { s with hex := x })) 0 _ rfl rfl (fun _ _ => rfl)⟩

theorem inq_five (b B : Nat) (s : W.RS) (r : Int) (m : ByteArray) (w : World) (h : Sh w b B s) (hl : s.word.length < 1000000) (ek : s.at_ = 5) (hh : 0 ≤ s.hex) (hh2 : s.hex ≤ 15) :
    Calls Tryd.prog 17 #[.pointer (some ⟨b, 0, none⟩), .int .i32 r, .string m] w (InPost b B (W.inQ s r (bytes m)) w) := by
  have HN := Lib.hid (inq5 (r := r) (bs := bytes m) ek)
  have c0 := sh_at h ek
  obtain ⟨_, c3, f⟩ := sh_cells h
  have f0 := f 0
  have f1 := f 1
  have EK := Lib.hid ek
  clear f ek
  have hr0 := W.digitR_range r
  by_cases n2 : W.digitR r < 0
  · have hF : W.inQ s r (bytes m) = none := by rw [HN.out, if_pos n2]
    rw [hF]
    generalize hx : W.digitR r = x at *
    have HX := Lib.hid hx
    clear hF HN hx
    go_enter Tryd.func17, Tryd.ntmps17
    go_wp2_with (go_at_call 26; refine (digit_is HX.out _).mono ?_; rintro e w' ⟨rfl, rfl⟩)
    go_ret
    exact ⟨Out.refl _ _ _, rfl⟩
  · have hF : W.inQ s r (bytes m) = some { s.push (W.byteOf (16 * s.hex + W.digitR r)) with at_ := 2 } := by rw [HN.out, if_neg n2]
    rw [hF]
    have n2' : 0 ≤ W.digitR r := by omega
    have HB := Lib.hid (byteOf_val (n := 16 * s.hex + W.digitR r) (by omega) (by omega))
    obtain ⟨i0, hi, hz0, hz1, hz2⟩ := info_parts info5
    obtain ⟨aw, cw, vws, hA, c1⟩ := sh_open h
    have hw := hA.word
    have hle := hA.le
    generalize hx : W.digitR r = x at *
    generalize hy : s.hex = y at *
    have HX := Lib.hid hx
    have HY := Lib.hid hy
    clear hy HN hF n2 hx
    have hq : 16 * y + x ≤ 255 := by omega
    have hq0 : 0 ≤ 16 * y + x := by omega
    go_enter Tryd.func17, Tryd.ntmps17
    go_wp2_with (go_at_call 26; refine (digit_is HX.out _).mono ?_; rintro e w' ⟨rfl, rfl⟩)
    refine wp_canon (by kernel_rfl) (by kernel_rfl) ?_
    go_wp2_with (at_builtin; refine wpList_append_own _ rfl _ _ 33 rfl B 5 i0 (.int .u8 0) 1 1 Tryd.underlying33 hi hz0 hz1 hz2 rfl (by decide) _ _ _ rfl (Own.drew (hw.alloc _)) ⟨w'.heap.size, 0, none⟩ 1 1 [.int .u8 (16 * y + x)] rfl rfl (new_one _ _ _ _ rfl) (one_cell rfl) (max_ok hl) (byt_ok1 hl) (le_drew (le_alloc hle _)) ?_)
    intro v' w1 h1 hg _
    have h1' : w1.ownsRow B 5 1 v' (s.word.length + [W.byteOf (16 * y + x)].length) (bcells s.word ++ bcells [W.byteOf (16 * y + x)]) := by rw [bcells_one, HB.out]; exact h1
    have hA' : ShAt (w'.alloc (.cells #[.int .u8 (16 * y + x)] 5)).drew b B s (.slice aw s.word.length cw) vws := ⟨hA.lt, le_alloc hA.le _, alloc_whole hA.heap, hA.word.alloc _, hA.words.alloc _⟩
    obtain ⟨⟨a1, d1, rfl⟩, ⟨u1, c1'⟩, f', c0', hr, ho, f0'', u0, c0''⟩ := sh_push hA' h1' hg
    have f1' := f' 1
    have f0' := f' 0
    have HR := Lib.hid hr
    have HO := Lib.hid ho
    clear f' c1 c0 c3 f0 f1 hr ho
    go_wp2
    refine ⟨rfl, ?_⟩
    go_wp2
    go_ret
    exact ⟨shout_set (((Out.refl _ _ _).alloc _ hA.le).drew.trans HO.out) _ _, rfl, sh_set HR.out 0 _ rfl rfl (fun _ _ => rfl)⟩

theorem inQ_walk (b B : Nat) (s : W.RS) (r : Int) (m : ByteArray) (w : World) (h : Sh w b B s) (hl : s.word.length + m.size < 1000000) (hl2 : s.words.length < 1000000) (ha : 2 ≤ s.at_) (ha2 : s.at_ ≤ 5) (hx : s.hex ≤ 15) (h5 : s.at_ = 5 → 0 ≤ s.hex) :
    Calls Tryd.prog 17 #[.pointer (some ⟨b, 0, none⟩), .int .i32 r, .string m] w (InPost b B (W.inQ s r (bytes m)) w) := by
  rcases (by omega : s.at_ = 2 ∨ s.at_ = 3 ∨ s.at_ = 4 ∨ s.at_ = 5) with e | e | e | e
  · exact inq_two b B s r m w h hl hl2 e
  · exact inq_three b B s r m w h (by omega) e
  · exact inq_four b B s r m w h e
  · exact inq_five b B s r m w h (by omega) e (h5 e) hx
end Go.Proofs.YtheflheeaiopfaaDoor
