/- The reference's reader of words, further: first, inside, escaped, next. -/
import Derived.Test.YtheflheeaiopfaaDoorRefWalk
namespace Go.Proofs.YtheflheeaiopfaaDoor
open Go.RowKit Vl
set_option linter.unusedVariables false

theorem ref_lt {w : World} {b B : Nat} {s : W.RS} (h : Ref w b B s) : b < B := let ⟨_, _, h⟩ := h; h.lt
theorem ref_le {w : World} {b B : Nat} {s : W.RS} (h : Ref w b B s) : B ≤ w.heap.size := let ⟨_, _, h⟩ := h; h.le

/-- One field is set. -/
theorem ref_set {w : World} {b B : Nat} {s s' : W.RS} (h : Ref w b B s) (k : Nat) (v : Value) (hw : s'.word = s.word) (hws : s'.words = s.words)
    (hk : ∀ vw vws, (#[.int .i64 s.at_, vw, vws, .int .i64 s.hex, .bool s.bad] : Array Value).setIfInBounds k v = #[.int .i64 s'.at_, vw, vws, .int .i64 s'.hex, .bool s'.bad]) :
    Ref (w.setCell ⟨b, k, none⟩ v) b B s' := by
  obtain ⟨vw, vws, h1, h2, h3, h4, h5⟩ := h
  exact ⟨vw, vws, h1, le_set h2 _ _, by rw [set_whole h3, hk], by rw [hw]; exact h4.setCell h1, by rw [hws]; exact h5.setCell h1⟩

theorem ref_cells {w : World} {b B : Nat} {s : W.RS} (h : Ref w b B s) :
    w.cell? ⟨b, 0, none⟩ = some (.int .i64 s.at_) ∧ w.cell? ⟨b, 3, none⟩ = some (.int .i64 s.hex) ∧ w.cell? ⟨b, 4, none⟩ = some (.bool s.bad) ∧ ∀ k, w.frozen? ⟨b, k, none⟩ = false := by
  obtain ⟨vw, vws, h1, h2, h3, h4, h5⟩ := h
  exact ⟨cell_whole h3 0, cell_whole h3 3, cell_whole h3 4, fun k => frozen_whole h3 k⟩

theorem out_set {w w' : World} {b B : Nat} (h : Out b B w w') (k : Nat) (v : Value) : Out b B w (w'.setCell ⟨b, k, none⟩ v) := h.setCell _ _ (.inl rfl)

theorem u8_eq {c : UInt8} {k : Nat} (hk : k < 256) : (c == UInt8.ofNat k) = (((c.toNat : Int)) == (k : Int)) := by
  rw [byte_ne hk, Bool.eq_iff_iff]; simp; omega

theorem first_walk (b B : Nat) (s : W.RS) (c : UInt8) (w : World) (h : Ref w b B s) (hl : s.word.length < 1000000) :
    Calls Tryd.prog 27 #[.pointer (some ⟨b, 0, none⟩), .int .u8 c.toNat] w (RefPost b B (s.first c) w) := by
  obtain ⟨c0, c3, c4, f⟩ := ref_cells h
  have f0 := f 0
  clear f
  have e32 : W.blank c = ((((c.toNat : Int)) == 32) || (((c.toNat : Int)) == 9)) := by unfold W.blank; rw [show (32 : UInt8) = UInt8.ofNat 32 from rfl, show (9 : UInt8) = UInt8.ofNat 9 from rfl, u8_eq (by omega), u8_eq (by omega)]; rfl
  have e35 : (c == 35) = (((c.toNat : Int)) == 35) := u8_eq (k := 35) (by omega)
  have e34 : (c == 34) = (((c.toNat : Int)) == 34) := u8_eq (k := 34) (by omega)
  have hfin : s.first c = if W.blank c then { s with at_ := 0 } else if c == 35 then { s with at_ := 7 } else if c == 34 then { s with at_ := 2 } else W.RS.plain { s with at_ := 1 } c := rfl
  rw [e35, e34, e32] at hfin
  have HF := Lib.hid hfin
  clear hfin e32 e35 e34
  cases n1 : (((c.toNat : Int)) == 32) with
  | true =>
    have hF : s.first c = { s with at_ := 0 } := by rw [HF.out, n1]; rfl
    rw [hF]
    go_enter Tryd.func27, Tryd.ntmps27
    go_wp2
    go_end0
    exact ⟨rfl, ref_set h 0 _ rfl rfl (fun _ _ => rfl), out_set (Out.refl _ _ _) _ _⟩
  | false =>
  cases n2 : (((c.toNat : Int)) == 9) with
  | true =>
    have hF : s.first c = { s with at_ := 0 } := by rw [HF.out, n1, n2]; rfl
    rw [hF]
    go_enter Tryd.func27, Tryd.ntmps27
    go_wp2
    go_end0
    exact ⟨rfl, ref_set h 0 _ rfl rfl (fun _ _ => rfl), out_set (Out.refl _ _ _) _ _⟩
  | false =>
  cases n3 : (((c.toNat : Int)) == 35) with
  | true =>
    have hF : s.first c = { s with at_ := 7 } := by rw [HF.out, n1, n2, n3]; rfl
    rw [hF]
    go_enter Tryd.func27, Tryd.ntmps27
    go_wp2
    go_end0
    exact ⟨rfl, ref_set h 0 _ rfl rfl (fun _ _ => rfl), out_set (Out.refl _ _ _) _ _⟩
  | false =>
  cases n4 : (((c.toNat : Int)) == 34) with
  | true =>
    have hF : s.first c = { s with at_ := 2 } := by rw [HF.out, n1, n2, n3, n4]; rfl
    rw [hF]
    go_enter Tryd.func27, Tryd.ntmps27
    go_wp2
    go_end0
    exact ⟨rfl, ref_set h 0 _ rfl rfl (fun _ _ => rfl), out_set (Out.refl _ _ _) _ _⟩
  | false =>
    have hF : s.first c = W.RS.plain { s with at_ := 1 } c := by rw [HF.out, n1, n2, n3, n4]; rfl
    rw [hF]
    have h1 : Ref (w.setCell ⟨b, 0, none⟩ (.int .i64 1)) b B { s with at_ := 1 } := ref_set h 0 _ rfl rfl (fun _ _ => rfl)
    go_enter Tryd.func27, Tryd.ntmps27
    go_wp2_with (go_at_call 28; refine (plain_walk b B { s with at_ := 1 } c _ h1 hl).mono ?_; rintro e w' ⟨rfl, hr, ho⟩)
    go_end0
    exact ⟨rfl, hr, (out_set (Out.refl _ _ _) _ _).trans ho⟩

/-- One byte is appended to the word. -/
theorem ref_push {w w1 : World} {b B : Nat} {s : W.RS} {aw : Option Addr} {cw : Nat} {v' vws : Value} {c : UInt8} (h : RefAt w b B s (.slice aw s.word.length cw) vws) {o : Obj}
    (h1 : w1.ownsRow B 5 1 v' (s.word.length + 1) (bcells s.word ++ [.int .u8 c.toNat])) (hg : (w.alloc o).grownBy w1 (Value.slice aw s.word.length cw).ownBlock) :
    (∃ a d, v' = .slice a (s.word.length + 1) d) ∧ (∃ vw, w1.cell? ⟨b, 1, none⟩ = some vw) ∧ (∀ k, w1.frozen? ⟨b, k, none⟩ = false) ∧ w1.cell? ⟨b, 0, none⟩ = some (.int .i64 s.at_) ∧ Ref (w1.setCell ⟨b, 1, none⟩ v') b B (s.push c) ∧ Out b B w (w1.setCell ⟨b, 1, none⟩ v') := by
  obtain ⟨hlt, hle, hh, hw, hws⟩ := h
  obtain ⟨hh1, hw1, hws1, ho1, hB1, hv⟩ := ref_pushed hlt (le_alloc hle _) (alloc_whole hh) (hw.alloc _) (hws.alloc _) h1 hg
  refine ⟨hv, ⟨_, cell_whole hh1 1⟩, fun k => frozen_whole hh1 k, cell_whole hh1 0, ⟨v', vws, hlt, le_set hB1 _ _, ?_, hw1.setCell hlt, hws1.setCell hlt⟩, out_set (((Out.refl b B w).alloc _ hle).trans ho1) _ _⟩
  rw [set_whole hh1]; rfl

theorem ref_open {w : World} {b B : Nat} {s : W.RS} (h : Ref w b B s) : ∃ aw cw vws, RefAt w b B s (.slice aw s.word.length cw) vws ∧ w.cell? ⟨b, 1, none⟩ = some (.slice aw s.word.length cw) := by
  obtain ⟨vw, vws, h⟩ := h
  obtain ⟨aw, cw, rfl⟩ := h.word.form
  exact ⟨aw, cw, vws, h, cell_whole h.heap 1⟩

theorem inside_walk (b B : Nat) (s : W.RS) (c : UInt8) (w : World) (h : Ref w b B s) (hl : s.word.length < 1000000) (hl2 : s.words.length < 1000000) :
    Calls Tryd.prog 29 #[.pointer (some ⟨b, 0, none⟩), .int .u8 c.toNat] w (RefPost b B (s.inside c) w) := by
  obtain ⟨i0, hi, hz0, hz1, hz2⟩ := info_parts info5
  obtain ⟨c0, c3, c4, f⟩ := ref_cells h
  have f0 := f 0
  have f4 := f 4
  clear f
  have e34 : (c == 34) = (((c.toNat : Int)) == 34) := u8_eq (k := 34) (by omega)
  have e92 : (c == 92) = (((c.toNat : Int)) == 92) := u8_eq (k := 92) (by omega)
  have el : W.low c = (decide ((c.toNat : Int) < 32) || (((c.toNat : Int)) == 127)) := by
    unfold W.low
    rw [show (c == 127) = (((c.toNat : Int)) == 127) from u8_eq (k := 127) (by omega)]
    congr 1
    rw [Bool.eq_iff_iff]; simp; omega
  have hfin : s.inside c = if c == 34 then { s.ends with at_ := 6 } else if c == 92 then { s with at_ := 3 } else if W.low c then { s with bad := true } else s.push c := rfl
  rw [e34, e92, el] at hfin
  have HF := Lib.hid hfin
  clear hfin e34 e92 el
  cases n1 : (((c.toNat : Int)) == 34) with
  | true =>
    have hF : s.inside c = { s.ends with at_ := 6 } := by rw [HF.out, n1]; rfl
    rw [hF]
    go_enter Tryd.func29, Tryd.ntmps29
    go_wp2_with fail
    refine (ends_walk b B s _ h hl hl2).mono ?_
    rintro e w' ⟨rfl, hr, ho⟩
    obtain ⟨c0', _, _, f'⟩ := ref_cells hr
    have f0' := f' 0
    clear f' c0 c3 c4 f0 f4
    go_wp2
    go_end0
    exact ⟨rfl, ref_set hr 0 _ rfl rfl (fun _ _ => rfl), out_set ho _ _⟩
  | false =>
  cases n2 : (((c.toNat : Int)) == 92) with
  | true =>
    have hF : s.inside c = { s with at_ := 3 } := by rw [HF.out, n1, n2]; rfl
    rw [hF]
    go_enter Tryd.func29, Tryd.ntmps29
    go_wp2
    go_end0
    exact ⟨rfl, ref_set h 0 _ rfl rfl (fun _ _ => rfl), out_set (Out.refl _ _ _) _ _⟩
  | false =>
  cases n3 : decide ((c.toNat : Int) < 32) with
  | true =>
    have hF : s.inside c = { s with bad := true } := by rw [HF.out, n1, n2, n3]; rfl
    rw [hF]
    go_enter Tryd.func29, Tryd.ntmps29
    go_wp2
    go_end0
    exact ⟨rfl, ref_set h 4 _ rfl rfl (fun _ _ => rfl), out_set (Out.refl _ _ _) _ _⟩
  | false =>
  cases n4 : (((c.toNat : Int)) == 127) with
  | true =>
    have hF : s.inside c = { s with bad := true } := by rw [HF.out, n1, n2, n3, n4]; rfl
    rw [hF]
    go_enter Tryd.func29, Tryd.ntmps29
    go_wp2
    go_end0
    exact ⟨rfl, ref_set h 4 _ rfl rfl (fun _ _ => rfl), out_set (Out.refl _ _ _) _ _⟩
  | false =>
    have hF : s.inside c = s.push c := by rw [HF.out, n1, n2, n3, n4]; rfl
    rw [hF]
    obtain ⟨aw, cw, vws, hA, c1⟩ := ref_open h
    have hw := hA.word
    have hle := hA.le
    have f1 := frozen_whole hA.heap 1
    go_enter Tryd.func29, Tryd.ntmps29
    go_wp2_with (at_builtin; refine wpList_append_own _ rfl _ _ 33 rfl B 5 i0 (.int .u8 0) 1 1 Tryd.underlying33 hi hz0 hz1 hz2 rfl (by decide) _ _ _ rfl (hw.alloc _) ⟨w.heap.size, 0, none⟩ 1 1 [.int .u8 c.toNat] rfl rfl (new_one _ _ _ _ rfl) (one_cell rfl) (max_ok hl) (byt_ok1 hl) (le_alloc hle _) ?_)
    intro v' w1 h1 hg _
    obtain ⟨⟨a1, d1, rfl⟩, ⟨u1, c1'⟩, f', c0', hr, ho⟩ := ref_push (c := c) hA h1 hg
    have f1' := f' 1
    have f0' := f' 0
    clear f' c1
    go_wp2
    go_end0
    exact ⟨rfl, hr, ho⟩

theorem escaped_walk (b B : Nat) (s : W.RS) (c : UInt8) (w : World) (h : Ref w b B s) (hl : s.word.length < 1000000) :
    Calls Tryd.prog 30 #[.pointer (some ⟨b, 0, none⟩), .int .u8 c.toNat] w (RefPost b B (s.escaped c) w) := by
  obtain ⟨i0, hi, hz0, hz1, hz2⟩ := info_parts info5
  obtain ⟨c0, c3, c4, f⟩ := ref_cells h
  have f0 := f 0
  have f4 := f 4
  have f1 := f 1
  clear f
  have e34 : (c == 34) = (((c.toNat : Int)) == 34) := u8_eq (k := 34) (by omega)
  have e92 : (c == 92) = (((c.toNat : Int)) == 92) := u8_eq (k := 92) (by omega)
  have e110 : (c == 110) = (((c.toNat : Int)) == 110) := u8_eq (k := 110) (by omega)
  have e116 : (c == 116) = (((c.toNat : Int)) == 116) := u8_eq (k := 116) (by omega)
  have e120 : (c == 120) = (((c.toNat : Int)) == 120) := u8_eq (k := 120) (by omega)
  have hfin : s.escaped c = if c == 92 || c == 34 then { s.push c with at_ := 2 } else if c == 110 then { s.push 10 with at_ := 2 } else if c == 116 then { s.push 9 with at_ := 2 } else if c == 120 then { s with at_ := 4 } else { s with at_ := 2, bad := true } := rfl
  rw [e34, e92, e110, e116, e120] at hfin
  have HF := Lib.hid hfin
  clear hfin e34 e92 e110 e116 e120
  have h2 : Ref (w.setCell ⟨b, 0, none⟩ (.int .i64 2)) b B { s with at_ := 2 } := ref_set h 0 _ rfl rfl (fun _ _ => rfl)
  obtain ⟨aw, cw, vws, hA, c1⟩ := ref_open h2
  have hw := hA.word
  have hle := hA.le
  have c1 : w.cell? ⟨b, 1, none⟩ = some (.slice aw s.word.length cw) := by rw [World.cell?_setCell_other _ _ _ _ (by simp)] at c1; exact c1
  cases n1 : (((c.toNat : Int)) == 92) with
  | true =>
    have hF : s.escaped c = { s.push c with at_ := 2 } := by rw [HF.out, n1]; rfl
    rw [hF]
    go_enter Tryd.func30, Tryd.ntmps30
    go_wp2_with (at_builtin; refine wpList_append_own _ rfl _ _ 33 rfl B 5 i0 (.int .u8 0) 1 1 Tryd.underlying33 hi hz0 hz1 hz2 rfl (by decide) _ _ _ rfl (hw.alloc _) ⟨w.heap.size, 0, none⟩ 1 1 [.int .u8 c.toNat] rfl rfl (new_one _ _ _ _ (sz_set _ _ _)) (one_cell rfl) (max_ok hl) (byt_ok1 hl) (le_alloc hle _) ?_)
    intro v' w1 h1 hg _
    obtain ⟨⟨a1, d1, rfl⟩, ⟨u1, c1'⟩, f', c0', hr, ho⟩ := ref_push (c := c) hA h1 hg
    have f1' := f' 1
    have f0' := f' 0
    clear f' c1
    go_wp2
    go_end0
    exact ⟨rfl, hr, (out_set (Out.refl _ _ _) _ _).trans ho⟩
  | false =>
  cases n2 : (((c.toNat : Int)) == 34) with
  | true =>
    have hF : s.escaped c = { s.push c with at_ := 2 } := by rw [HF.out, n1, n2]; rfl
    rw [hF]
    go_enter Tryd.func30, Tryd.ntmps30
    go_wp2_with (at_builtin; refine wpList_append_own _ rfl _ _ 33 rfl B 5 i0 (.int .u8 0) 1 1 Tryd.underlying33 hi hz0 hz1 hz2 rfl (by decide) _ _ _ rfl (hw.alloc _) ⟨w.heap.size, 0, none⟩ 1 1 [.int .u8 c.toNat] rfl rfl (new_one _ _ _ _ (sz_set _ _ _)) (one_cell rfl) (max_ok hl) (byt_ok1 hl) (le_alloc hle _) ?_)
    intro v' w1 h1 hg _
    obtain ⟨⟨a1, d1, rfl⟩, ⟨u1, c1'⟩, f', c0', hr, ho⟩ := ref_push (c := c) hA h1 hg
    have f1' := f' 1
    have f0' := f' 0
    clear f' c1
    go_wp2
    go_end0
    exact ⟨rfl, hr, (out_set (Out.refl _ _ _) _ _).trans ho⟩
  | false =>
  cases n3 : (((c.toNat : Int)) == 110) with
  | true =>
    have hF : s.escaped c = { s.push 10 with at_ := 2 } := by rw [HF.out, n1, n2, n3]; rfl
    rw [hF]
    go_enter Tryd.func30, Tryd.ntmps30
    go_wp2_with (at_builtin; refine wpList_append_own _ rfl _ _ 33 rfl B 5 i0 (.int .u8 0) 1 1 Tryd.underlying33 hi hz0 hz1 hz2 rfl (by decide) _ _ _ rfl (hw.alloc _) ⟨w.heap.size, 0, none⟩ 1 1 [.int .u8 10] rfl rfl (new_one _ _ _ _ (sz_set _ _ _)) (one_cell rfl) (max_ok hl) (byt_ok1 hl) (le_alloc hle _) ?_)
    intro v' w1 h1 hg _
    obtain ⟨⟨a1, d1, rfl⟩, ⟨u1, c1'⟩, f', c0', hr, ho⟩ := ref_push (c := 10) hA h1 hg
    have f1' := f' 1
    have f0' := f' 0
    clear f' c1
    go_wp2
    go_end0
    exact ⟨rfl, hr, (out_set (Out.refl _ _ _) _ _).trans ho⟩
  | false =>
  cases n4 : (((c.toNat : Int)) == 116) with
  | true =>
    have hF : s.escaped c = { s.push 9 with at_ := 2 } := by rw [HF.out, n1, n2, n3, n4]; rfl
    rw [hF]
    go_enter Tryd.func30, Tryd.ntmps30
    go_wp2_with (at_builtin; refine wpList_append_own _ rfl _ _ 33 rfl B 5 i0 (.int .u8 0) 1 1 Tryd.underlying33 hi hz0 hz1 hz2 rfl (by decide) _ _ _ rfl (hw.alloc _) ⟨w.heap.size, 0, none⟩ 1 1 [.int .u8 9] rfl rfl (new_one _ _ _ _ (sz_set _ _ _)) (one_cell rfl) (max_ok hl) (byt_ok1 hl) (le_alloc hle _) ?_)
    intro v' w1 h1 hg _
    obtain ⟨⟨a1, d1, rfl⟩, ⟨u1, c1'⟩, f', c0', hr, ho⟩ := ref_push (c := 9) hA h1 hg
    have f1' := f' 1
    have f0' := f' 0
    clear f' c1
    go_wp2
    go_end0
    exact ⟨rfl, hr, (out_set (Out.refl _ _ _) _ _).trans ho⟩
  | false =>
  cases n5 : (((c.toNat : Int)) == 120) with
  | true =>
    have hF : s.escaped c = { s with at_ := 4 } := by rw [HF.out, n1, n2, n3, n4, n5]; rfl
    rw [hF]
    go_enter Tryd.func30, Tryd.ntmps30
    go_wp2
    go_end0
    exact ⟨rfl, ref_set h2 0 _ rfl rfl (fun _ _ => rfl), out_set (out_set (Out.refl _ _ _) _ _) _ _⟩
  | false =>
    have hF : s.escaped c = { s with at_ := 2, bad := true } := by rw [HF.out, n1, n2, n3, n4, n5]; rfl
    rw [hF]
    go_enter Tryd.func30, Tryd.ntmps30
    go_wp2
    go_end0
    exact ⟨rfl, ref_set h2 4 _ rfl rfl (fun _ _ => rfl), out_set (out_set (Out.refl _ _ _) _ _) _ _⟩

end Go.Proofs.YtheflheeaiopfaaDoor
