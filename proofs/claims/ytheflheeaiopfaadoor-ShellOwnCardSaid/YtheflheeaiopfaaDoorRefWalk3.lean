/- The reference's reader of words: one byte more ('next'). -/
import Derived.Test.YtheflheeaiopfaaDoorRefWalk2
namespace Go.Proofs.YtheflheeaiopfaaDoor
open Go.RowKit Vl
set_option linter.unusedVariables false

theorem next0 {s : W.RS} (h : s.at_ = 0) (c : UInt8) : s.next c = s.first c := by unfold W.RS.next; rw [if_pos h]
theorem next1 {s : W.RS} (h : s.at_ = 1) (c : UInt8) : s.next c = if W.blank c then { s.ends with at_ := 0 } else s.plain c := by unfold W.RS.next; rw [if_neg (by omega), if_pos h]
theorem next2 {s : W.RS} (h : s.at_ = 2) (c : UInt8) : s.next c = s.inside c := by unfold W.RS.next; rw [if_neg (by omega), if_neg (by omega), if_pos h]
theorem next3 {s : W.RS} (h : s.at_ = 3) (c : UInt8) : s.next c = s.escaped c := by unfold W.RS.next; rw [if_neg (by omega), if_neg (by omega), if_neg (by omega), if_pos h]
theorem next4 {s : W.RS} (h : s.at_ = 4) (c : UInt8) : s.next c = { s with hex := W.hexOf c, at_ := 5, bad := s.bad || decide (W.hexOf c < 0) } := by unfold W.RS.next; rw [if_neg (by omega), if_neg (by omega), if_neg (by omega), if_neg (by omega), if_pos h]
theorem next5 {s : W.RS} (h : s.at_ = 5) (c : UInt8) : s.next c = if W.hexOf c < 0 then { s with bad := true, at_ := 2 } else { s.push (W.byteOf (16 * s.hex + W.hexOf c)) with at_ := 2 } := by
  unfold W.RS.next; rw [if_neg (by omega), if_neg (by omega), if_neg (by omega), if_neg (by omega), if_neg (by omega), if_pos h]
theorem next6 {s : W.RS} (h : s.at_ = 6) (c : UInt8) : s.next c = { s with at_ := 0, bad := s.bad || !W.blank c } := by
  unfold W.RS.next; rw [if_neg (by omega), if_neg (by omega), if_neg (by omega), if_neg (by omega), if_neg (by omega), if_neg (by omega), if_pos h]
theorem next7 {s : W.RS} (h : s.at_ = 7) (c : UInt8) : s.next c = s := by
  unfold W.RS.next; rw [if_neg (by omega), if_neg (by omega), if_neg (by omega), if_neg (by omega), if_neg (by omega), if_neg (by omega), if_neg (by omega)]

theorem blank_eq (c : UInt8) : W.blank c = ((((c.toNat : Int)) == 32) || (((c.toNat : Int)) == 9)) := by
  unfold W.blank; rw [show (32 : UInt8) = UInt8.ofNat 32 from rfl, show (9 : UInt8) = UInt8.ofNat 9 from rfl, u8_eq (by omega), u8_eq (by omega)]; rfl

theorem ref_at {w : World} {b B : Nat} {s : W.RS} (h : Ref w b B s) {k : Nat} (hk : s.at_ = k) : w.cell? ⟨b, 0, none⟩ = some (.int .i64 (k : Int)) := by
  have := (ref_cells h).1; rw [hk] at this; exact this

theorem next_calls (b B : Nat) (s : W.RS) (c : UInt8) (w : World) (h : Ref w b B s) (hl : s.word.length < 1000000) (hl2 : s.words.length < 1000000) :
    (s.at_ = 0 → Calls Tryd.prog 18 #[.pointer (some ⟨b, 0, none⟩), .int .u8 c.toNat] w (RefPost b B (s.next c) w)) ∧
    (s.at_ = 2 → Calls Tryd.prog 18 #[.pointer (some ⟨b, 0, none⟩), .int .u8 c.toNat] w (RefPost b B (s.next c) w)) ∧
    (s.at_ = 3 → Calls Tryd.prog 18 #[.pointer (some ⟨b, 0, none⟩), .int .u8 c.toNat] w (RefPost b B (s.next c) w)) ∧
    (s.at_ = 7 → Calls Tryd.prog 18 #[.pointer (some ⟨b, 0, none⟩), .int .u8 c.toNat] w (RefPost b B (s.next c) w)) := by
  refine ⟨fun ek => ?_, fun ek => ?_, fun ek => ?_, fun ek => ?_⟩
  · rw [next0 ek]
    have c0 := ref_at h ek
    have EK := Lib.hid ek
    clear ek
    go_enter Tryd.func18, Tryd.ntmps18
    go_wp2_with (go_at_call 27; refine (first_walk b B s c _ h hl).mono ?_; rintro e w' ⟨rfl, hr, ho⟩)
    go_end0
    exact ⟨rfl, hr, ho⟩
  · rw [next2 ek]
    have c0 := ref_at h ek
    have EK := Lib.hid ek
    clear ek
    go_enter Tryd.func18, Tryd.ntmps18
    go_wp2_with (go_at_call 29; refine (inside_walk b B s c _ h hl hl2).mono ?_; rintro e w' ⟨rfl, hr, ho⟩)
    go_end0
    exact ⟨rfl, hr, ho⟩
  · rw [next3 ek]
    have c0 := ref_at h ek
    have EK := Lib.hid ek
    clear ek
    go_enter Tryd.func18, Tryd.ntmps18
    go_wp2_with (go_at_call 30; refine (escaped_walk b B s c _ h hl).mono ?_; rintro e w' ⟨rfl, hr, ho⟩)
    go_end0
    exact ⟨rfl, hr, ho⟩
  · rw [next7 ek]
    have c0 := ref_at h ek
    have EK := Lib.hid ek
    clear ek
    go_enter Tryd.func18, Tryd.ntmps18
    go_wp2
    go_end0
    exact ⟨rfl, h, Out.refl _ _ _⟩

theorem next_one (b B : Nat) (s : W.RS) (c : UInt8) (w : World) (h : Ref w b B s) (hl : s.word.length < 1000000) (hl2 : s.words.length < 1000000) (ek : s.at_ = 1) :
    Calls Tryd.prog 18 #[.pointer (some ⟨b, 0, none⟩), .int .u8 c.toNat] w (RefPost b B (s.next c) w) := by
  have HN := Lib.hid (next1 ek c)
  have c0 := ref_at h ek
  rw [blank_eq] at HN
  clear ek
  cases n1 : (((c.toNat : Int)) == 32) with
  | true =>
    have hF : s.next c = { s.ends with at_ := 0 } := by rw [HN.out, n1]; rfl
    rw [hF]
    go_enter Tryd.func18, Tryd.ntmps18
    go_wp2_with fail
    refine (ends_walk b B s _ h hl hl2).mono ?_
    rintro e w' ⟨rfl, hr, ho⟩
    obtain ⟨c0', _, _, f'⟩ := ref_cells hr
    have f0' := f' 0
    clear f' c0
    go_wp2
    go_end0
    exact ⟨rfl, ref_set hr 0 _ rfl rfl (fun _ _ => rfl), out_set ho _ _⟩
  | false =>
  cases n2 : (((c.toNat : Int)) == 9) with
  | true =>
    have hF : s.next c = { s.ends with at_ := 0 } := by rw [HN.out, n1, n2]; rfl
    rw [hF]
    go_enter Tryd.func18, Tryd.ntmps18
    go_wp2_with fail
    refine (ends_walk b B s _ h hl hl2).mono ?_
    rintro e w' ⟨rfl, hr, ho⟩
    obtain ⟨c0', _, _, f'⟩ := ref_cells hr
    have f0' := f' 0
    clear f' c0
    go_wp2
    go_end0
    exact ⟨rfl, ref_set hr 0 _ rfl rfl (fun _ _ => rfl), out_set ho _ _⟩
  | false =>
    have hF : s.next c = s.plain c := by rw [HN.out, n1, n2]; rfl
    rw [hF]
    go_enter Tryd.func18, Tryd.ntmps18
    go_wp2_with (go_at_call 28; refine (plain_walk b B s c _ h hl).mono ?_; rintro e w' ⟨rfl, hr, ho⟩)
    go_end0
    exact ⟨rfl, hr, ho⟩

theorem next_four (b B : Nat) (s : W.RS) (c : UInt8) (w : World) (h : Ref w b B s) (ek : s.at_ = 4) :
    Calls Tryd.prog 18 #[.pointer (some ⟨b, 0, none⟩), .int .u8 c.toNat] w (RefPost b B (s.next c) w) := by
  have HN := Lib.hid (next4 ek c)
  have c0 := ref_at h ek
  obtain ⟨_, c3, c4, f⟩ := ref_cells h
  have f0 := f 0
  have f3 := f 3
  have f4 := f 4
  have hx := W.hexOf_range c
  clear ek f
  by_cases n1 : W.hexOf c < 0
  · have hF : s.next c = { s with hex := W.hexOf c, at_ := 5, bad := true } := by rw [HN.out]; simp [n1]
    rw [hF]
    go_enter Tryd.func18, Tryd.ntmps18
    go_wp2_with (go_at_call 31; refine (hex_walk c _).mono ?_; rintro e w' ⟨rfl, rfl⟩)
    go_end0
    exact ⟨rfl, ref_set (ref_set (ref_set h 3 _ rfl rfl (fun _ _ => rfl) (s' := { s with hex := W.hexOf c })) 0 _ rfl rfl (fun _ _ => rfl) (s' := { s with hex := W.hexOf c, at_ := 5 })) 4 _ rfl rfl (fun _ _ => rfl), out_set (out_set (out_set (Out.refl _ _ _) _ _) _ _) _ _⟩
  · have hF : s.next c = { s with hex := W.hexOf c, at_ := 5 } := by rw [HN.out]; simp [n1]
    rw [hF]
    have n1' : 0 ≤ W.hexOf c := by omega
    go_enter Tryd.func18, Tryd.ntmps18
    go_wp2_with (go_at_call 31; refine (hex_walk c _).mono ?_; rintro e w' ⟨rfl, rfl⟩)
    go_end0
    exact ⟨rfl, ref_set (ref_set h 3 _ rfl rfl (fun _ _ => rfl) (s' := { s with hex := W.hexOf c })) 0 _ rfl rfl (fun _ _ => rfl), out_set (out_set (Out.refl _ _ _) _ _) _ _⟩

theorem next_six (b B : Nat) (s : W.RS) (c : UInt8) (w : World) (h : Ref w b B s) (ek : s.at_ = 6) :
    Calls Tryd.prog 18 #[.pointer (some ⟨b, 0, none⟩), .int .u8 c.toNat] w (RefPost b B (s.next c) w) := by
  have HN := Lib.hid (next6 ek c)
  rw [blank_eq] at HN
  have c0 := ref_at h ek
  obtain ⟨_, c3, c4, f⟩ := ref_cells h
  have f0 := f 0
  have f4 := f 4
  clear ek f
  cases n1 : (((c.toNat : Int)) == 32) with
  | true =>
    have m1 : (((c.toNat : Int)) != 32) = false := by simp at n1 ⊢; omega
    have hF : s.next c = { s with at_ := 0 } := by rw [HN.out, n1]; simp
    rw [hF]
    go_enter Tryd.func18, Tryd.ntmps18
    go_wp2
    go_end0
    exact ⟨rfl, ref_set h 0 _ rfl rfl (fun _ _ => rfl), out_set (Out.refl _ _ _) _ _⟩
  | false =>
  have m1 : (((c.toNat : Int)) != 32) = true := by simp at n1 ⊢; omega
  cases n2 : (((c.toNat : Int)) == 9) with
  | true =>
    have m2 : (((c.toNat : Int)) != 9) = false := by simp at n2 ⊢; omega
    have hF : s.next c = { s with at_ := 0 } := by rw [HN.out, n1, n2]; simp
    rw [hF]
    go_enter Tryd.func18, Tryd.ntmps18
    go_wp2
    go_end0
    exact ⟨rfl, ref_set h 0 _ rfl rfl (fun _ _ => rfl), out_set (Out.refl _ _ _) _ _⟩
  | false =>
    have m2 : (((c.toNat : Int)) != 9) = true := by simp at n2 ⊢; omega
    have hF : s.next c = { s with at_ := 0, bad := true } := by rw [HN.out, n1, n2]; simp
    rw [hF]
    go_enter Tryd.func18, Tryd.ntmps18
    go_wp2
    go_end0
    exact ⟨rfl, ref_set (ref_set h 4 _ rfl rfl (fun _ _ => rfl) (s' := { s with bad := true })) 0 _ rfl rfl (fun _ _ => rfl), out_set (out_set (Out.refl _ _ _) _ _) _ _⟩

theorem byteOf_val {n : Int} (h0 : 0 ≤ n) (h1 : n ≤ 255) : ((W.byteOf n).toNat : Int) = n := by
  unfold W.byteOf
  rw [UInt8.toNat_ofNat']
  omega

theorem hex_is {c : UInt8} {x : Int} (h : W.hexOf c = x) (w : World) : Calls Tryd.prog 31 #[.int .u8 c.toNat] w fun e w' => e = .returned (.int .i64 x) ∧ w' = w := by subst h; exact hex_walk c w

theorem next_five (b B : Nat) (s : W.RS) (c : UInt8) (w : World) (h : Ref w b B s) (hl : s.word.length < 1000000) (ek : s.at_ = 5) (hh : 0 ≤ s.hex) (hh2 : s.hex ≤ 15) :
    Calls Tryd.prog 18 #[.pointer (some ⟨b, 0, none⟩), .int .u8 c.toNat] w (RefPost b B (s.next c) w) := by
  have HN := Lib.hid (next5 ek c)
  have c0 := ref_at h ek
  obtain ⟨_, c3, c4, f⟩ := ref_cells h
  have f0 := f 0
  have f1 := f 1
  have f4 := f 4
  have hx := W.hexOf_range c
  clear ek f
  obtain ⟨i0, hi, hz0, hz1, hz2⟩ := info_parts info5
  by_cases n1 : W.hexOf c < 0
  · have hF : s.next c = { s with bad := true, at_ := 2 } := by rw [HN.out, if_pos n1]
    rw [hF]
    go_enter Tryd.func18, Tryd.ntmps18
    go_wp2_with (go_at_call 31; refine (hex_walk c _).mono ?_; rintro e w' ⟨rfl, rfl⟩)
    go_end0
    exact ⟨rfl, ref_set (ref_set h 4 _ rfl rfl (fun _ _ => rfl) (s' := { s with bad := true })) 0 _ rfl rfl (fun _ _ => rfl), out_set (out_set (Out.refl _ _ _) _ _) _ _⟩
  · have n1' : 0 ≤ W.hexOf c := by omega
    have hF : s.next c = { s.push (W.byteOf (16 * s.hex + W.hexOf c)) with at_ := 2 } := by rw [HN.out, if_neg n1]
    rw [hF]
    have HB := Lib.hid (byteOf_val (n := 16 * s.hex + W.hexOf c) (by omega) (by omega))
    obtain ⟨aw, cw, vws, hA, c1⟩ := ref_open h
    have hw := hA.word
    have hle := hA.le
    generalize hx' : W.hexOf c = x at *
    generalize hy : s.hex = y at *
    have HX := Lib.hid hx'
    have HY := Lib.hid hy
    clear hy HN hF n1 hx'
    have hq : 16 * y + x ≤ 255 := by omega
    have hq0 : 0 ≤ 16 * y + x := by omega
    go_enter Tryd.func18, Tryd.ntmps18
    go_wp2_with (go_at_call 31; refine (hex_is HX.out _).mono ?_; rintro e w' ⟨rfl, rfl⟩)
    refine wp_canon (by kernel_rfl) (by kernel_rfl) ?_
    go_wp2_with (at_builtin; refine wpList_append_own _ rfl _ _ 33 rfl B 5 i0 (.int .u8 0) 1 1 Tryd.underlying33 hi hz0 hz1 hz2 rfl (by decide) _ _ _ rfl (Own.drew (hw.alloc _)) ⟨w'.heap.size, 0, none⟩ 1 1 [.int .u8 (16 * y + x)] rfl rfl (new_one _ _ _ _ rfl) (one_cell rfl) (max_ok hl) (byt_ok1 hl) (le_drew (le_alloc hle _)) ?_)
    intro v' w1 h1 hg _
    have h1' : w1.ownsRow B 5 1 v' (s.word.length + 1) (bcells s.word ++ [.int .u8 (W.byteOf (16 * y + x)).toNat]) := by rw [HB.out]; exact h1
    have hA' : RefAt w'.drew b B s (.slice aw s.word.length cw) vws := ⟨hA.lt, hA.le, hA.heap, hA.word, hA.words⟩
    obtain ⟨⟨a1, d1, rfl⟩, ⟨u1, c1'⟩, f', c0', hr, ho⟩ := ref_push (c := W.byteOf (16 * y + x)) hA' h1' hg
    have f1' := f' 1
    have f0' := f' 0
    clear f' c1 c0 c3 f0 f1 f4
    go_wp2
    refine ⟨rfl, ?_⟩
    go_wp2
    go_end0
    exact ⟨rfl, ref_set hr 0 _ rfl rfl (fun _ _ => rfl), out_set ((Out.refl b B w').drew.trans ho) _ _⟩

theorem next_walk (b B : Nat) (s : W.RS) (c : UInt8) (w : World) (h : Ref w b B s) (hl : s.word.length < 1000000) (hl2 : s.words.length < 1000000) (ha : s.at_ ≤ 7) (hx : s.hex ≤ 15) (h5 : s.at_ = 5 → 0 ≤ s.hex) :
    Calls Tryd.prog 18 #[.pointer (some ⟨b, 0, none⟩), .int .u8 c.toNat] w (RefPost b B (s.next c) w) := by
  obtain ⟨n0, n2, n3, n7⟩ := next_calls b B s c w h hl hl2
  rcases (by omega : s.at_ = 0 ∨ s.at_ = 1 ∨ s.at_ = 2 ∨ s.at_ = 3 ∨ s.at_ = 4 ∨ s.at_ = 5 ∨ s.at_ = 6 ∨ s.at_ = 7) with e | e | e | e | e | e | e | e
  · exact n0 e
  · exact next_one b B s c w h hl hl2 e
  · exact n2 e
  · exact n3 e
  · exact next_four b B s c w h e
  · exact next_five b B s c w h hl e (h5 e) hx
  · exact next_six b B s c w h e
  · exact n7 e
end Go.Proofs.YtheflheeaiopfaaDoor
