/- The reference's reader of words (vellumref16.Reader): each method does to the struct in memory what the plain machine does. -/
import Derived.Test.YtheflheeaiopfaaDoorRows
import Derived.WalkKit
import Derived.ProofKit
import Derived.Test.YtheflheeaiopfaaDoorCanon
import Derived.Test.YtheflheeaiopfaaDoorMem
import Derived.Test.YtheflheeaiopfaaDoorWSpec
import Derived.Laws.BytesArg
import Derived.Outline
namespace Go.Proofs.YtheflheeaiopfaaDoor
open Go.RowKit Vl
set_option linter.unusedVariables false

theorem info5 : (Tryd.prog.info? 5).map (fun i => (i.zero, i.size, i.bytes)) = some (some (.int .u8 0), 1, 1) := by kernel_rfl
theorem info9 : (Tryd.prog.info? 9).map (fun i => (i.zero, i.size, i.bytes)) = some (some (.string ByteArray.empty), 1, 16) := by kernel_rfl

/-- A struct of the reference's reader in block b; its lists lie from block B on. -/
structure RefAt (w : World) (b B : Nat) (s : W.RS) (vw vws : Value) : Prop where
  lt : b < B
  le : B ≤ w.heap.size
  heap : w.heap[b]? = some (.cells #[.int .i64 s.at_, vw, vws, .int .i64 s.hex, .bool s.bad] 48 (0, 0))
  word : Own w B 5 vw s.word.length (bcells s.word)
  words : Own w B 9 vws s.words.length (scells s.words)

def Ref (w : World) (b B : Nat) (s : W.RS) : Prop := ∃ vw vws, RefAt w b B s vw vws

def RefPost (b B : Nat) (s : W.RS) (w : World) (e : Ending) (w' : World) : Prop := e = .returned (.tuple #[]) ∧ Ref w' b B s ∧ Out b B w w'

theorem ret_i64 {a b : Int} (h : b = a) : Ending.returned (.int .i64 a) = .returned (.int .i64 b) := by rw [h]

theorem hex_a {c : UInt8} (h1 : 48 ≤ c.toNat) (h2 : c.toNat ≤ 57) : W.hexOf c = (c.toNat : Int) - 48 := by unfold W.hexOf; rw [if_pos ⟨h1, h2⟩]
theorem hex_b {c : UInt8} (h1 : 97 ≤ c.toNat) (h2 : c.toNat ≤ 102) : W.hexOf c = (c.toNat : Int) - 97 + 10 := by unfold W.hexOf; rw [if_neg (by omega), if_pos ⟨h1, h2⟩]; omega
theorem hex_c {c : UInt8} (h1 : 65 ≤ c.toNat) (h2 : c.toNat ≤ 70) : W.hexOf c = (c.toNat : Int) - 65 + 10 := by unfold W.hexOf; rw [if_neg (by omega), if_neg (by omega), if_pos ⟨h1, h2⟩]; omega
theorem hex_d {c : UInt8} (h1 : ¬ (48 ≤ c.toNat ∧ c.toNat ≤ 57)) (h2 : ¬ (97 ≤ c.toNat ∧ c.toNat ≤ 102)) (h3 : ¬ (65 ≤ c.toNat ∧ c.toNat ≤ 70)) : W.hexOf c = -1 := by
  unfold W.hexOf; rw [if_neg h1, if_neg h2, if_neg h3]

theorem hex_walk (c : UInt8) (w : World) : Calls Tryd.prog 31 #[.int .u8 c.toNat] w fun e w' => e = .returned (.int .i64 (W.hexOf c)) ∧ w' = w := by
  have hc : c.toNat < 256 := c.toNat_lt
  by_cases h1 : 48 ≤ c.toNat
  · by_cases h2 : c.toNat ≤ 57
    · have H := Lib.hid (hex_a h1 h2)
      generalize W.hexOf c = r at *
      generalize c.toNat = n at *
      go_enter Tryd.func31, Tryd.ntmps31
      go_wp2
      go_ret
      exact ⟨ret_i64 H.out, rfl⟩
    · by_cases h3 : 97 ≤ c.toNat
      · by_cases h4 : c.toNat ≤ 102
        · have H := Lib.hid (hex_b h3 h4)
          generalize W.hexOf c = r at *
          generalize c.toNat = n at *
          go_enter Tryd.func31, Tryd.ntmps31
          go_wp2
          go_ret
          exact ⟨ret_i64 H.out, rfl⟩
        · have H := Lib.hid (hex_d (c := c) (by omega) (by omega) (by omega))
          generalize W.hexOf c = r at *
          generalize c.toNat = n at *
          go_enter Tryd.func31, Tryd.ntmps31
          go_wp2
          go_ret
          exact ⟨ret_i64 H.out, rfl⟩
      · by_cases h5 : 65 ≤ c.toNat
        · by_cases h6 : c.toNat ≤ 70
          · have H := Lib.hid (hex_c h5 h6)
            generalize W.hexOf c = r at *
            generalize c.toNat = n at *
            go_enter Tryd.func31, Tryd.ntmps31
            go_wp2
            go_ret
            exact ⟨ret_i64 H.out, rfl⟩
          · have H := Lib.hid (hex_d (c := c) (by omega) (by omega) (by omega))
            generalize W.hexOf c = r at *
            generalize c.toNat = n at *
            go_enter Tryd.func31, Tryd.ntmps31
            go_wp2
            go_ret
            exact ⟨ret_i64 H.out, rfl⟩
        · have H := Lib.hid (hex_d (c := c) (by omega) (by omega) (by omega))
          generalize W.hexOf c = r at *
          generalize c.toNat = n at *
          go_enter Tryd.func31, Tryd.ntmps31
          go_wp2
          go_ret
          exact ⟨ret_i64 H.out, rfl⟩
  · have H := Lib.hid (hex_d (c := c) (by omega) (by omega) (by omega))
    generalize W.hexOf c = r at *
    generalize c.toNat = n at *
    go_enter Tryd.func31, Tryd.ntmps31
    go_wp2
    go_ret
    exact ⟨ret_i64 H.out, rfl⟩

theorem byte_ne {c : UInt8} {k : Nat} (hk : k < 256) : (c == UInt8.ofNat k) = decide (c.toNat = k) := by
  rw [Bool.eq_iff_iff, beq_iff_eq, decide_eq_true_iff]
  constructor
  · rintro rfl; simp; omega
  · intro h; rw [← h]; simp

theorem badPlain_eq (c : UInt8) : W.badPlain c = (decide (c.toNat < 32) || decide (c.toNat = 127) || decide (c.toNat = 34) || decide (c.toNat = 92)) := by
  unfold W.badPlain W.low
  rw [show (127 : UInt8) = UInt8.ofNat 127 from rfl, show (34 : UInt8) = UInt8.ofNat 34 from rfl, show (92 : UInt8) = UInt8.ofNat 92 from rfl, byte_ne (by omega), byte_ne (by omega), byte_ne (by omega)]

/-- Behind the append of one byte to the word. -/
theorem ref_pushed {w w1 : World} {b B : Nat} {l : List UInt8} {ws : List Value} {aw : Option Addr} {cw nws : Nat} {v' vws : Value} {o : Obj} {c : UInt8} (hlt : b < B) (hle : B ≤ w.heap.size)
    (hh : w.heap[b]? = some o) (hw : Own w B 5 (.slice aw l.length cw) l.length (bcells l)) (hws : Own w B 9 vws nws ws)
    (h1 : w1.ownsRow B 5 1 v' (l.length + 1) (bcells l ++ [.int .u8 c.toNat])) (hg : w.grownBy w1 (Value.slice aw l.length cw).ownBlock) :
    w1.heap[b]? = some o ∧ Own w1 B 5 v' (l ++ [c]).length (bcells (l ++ [c])) ∧ Own w1 B 9 vws nws ws ∧ Out b B w w1 ∧ B ≤ w1.heap.size ∧ ∃ a d, v' = .slice a (l.length + 1) d := by
  have hb : ∀ k, (Value.slice aw l.length cw).ownBlock = some k → B ≤ k := fun k hk => (hw.block hk).1
  have ho : Own w1 B 5 v' (l ++ [c]).length (bcells (l ++ [c])) := by
    rw [bcells_append, bcells_one, List.length_append]
    exact h1
  refine ⟨grown_whole hg hh ?_, ho, ?_, (Out.refl b B w).grown hg hle hb, Nat.le_trans hle hg.size, ?_⟩
  · intro e; have := hb _ e; omega
  · refine hws.keep fun k hk => hg.block k (hws.block hk).2.1 ?_
    intro e
    obtain ⟨_, _, cur, hcur⟩ := hw.block e.symm
    obtain ⟨_, _, cur', hcur'⟩ := hws.block hk
    rw [hcur] at hcur'
    cases hcur'
  · obtain ⟨a, d, e⟩ := ho.form
    exact ⟨a, d, by rw [e]; simp⟩

theorem ref_ended {w w1 : World} {b B : Nat} {l : List (List UInt8)} {aw : Option Addr} {cw : Nat} {v' : Value} {o : Obj} {c : List UInt8} (hlt : b < B) (hle : B ≤ w.heap.size)
    (hh : w.heap[b]? = some o) (hw : Own w B 9 (.slice aw l.length cw) l.length (scells l))
    (h1 : w1.ownsRow B 9 1 v' (l.length + 1) (scells l ++ [.string (strOf c)])) (hg : w.grownBy w1 (Value.slice aw l.length cw).ownBlock) :
    w1.heap[b]? = some o ∧ Own w1 B 9 v' (l ++ [c]).length (scells (l ++ [c])) ∧ Out b B w w1 ∧ B ≤ w1.heap.size ∧ ∃ a d, v' = .slice a (l.length + 1) d := by
  have hb : ∀ k, (Value.slice aw l.length cw).ownBlock = some k → B ≤ k := fun k hk => (hw.block hk).1
  have ho : Own w1 B 9 v' (l ++ [c]).length (scells (l ++ [c])) := by
    rw [scells_append, scells_one, List.length_append]
    exact h1
  refine ⟨grown_whole hg hh ?_, ho, (Out.refl b B w).grown hg hle hb, Nat.le_trans hle hg.size, ?_⟩
  · intro e; have := hb _ e; omega
  · obtain ⟨a, d, e⟩ := ho.form
    exact ⟨a, d, by rw [e]; simp⟩

/-- The bytes of a slice as a string. -/
theorem conv_bytes {w : World} {B : Nat} {a : Option Addr} {n c : Nat} {l : List UInt8} (h : Own w B 5 (.slice a n c) n (bcells l)) (hn : n = l.length) :
    ∀ w', (∀ k, k < w.heap.size → w'.heap[k]? = w.heap[k]?) → (convert 33 9 (.slice a n c)).run Tryd.prog w' = .ok (.string (strOf l)) w' := by
  intro w' he
  cases a with
  | none =>
    obtain ⟨h0, _, _⟩ := h.nil_of_none rfl
    have hl : l = [] := by simpa [bcells] using h0
    subst hl
    rw [run_convert_bytes_nil w' 33 5 Tryd.underlying33 Tryd.underlying5 n c 9 Tryd.underlying9]
    rfl
  | some ad =>
    obtain ⟨g, off, sp⟩ := ad
    obtain ⟨rfl, rfl, _, hc⟩ := h.cells rfl
    have hg : g < w.heap.size := (h.block rfl).2.1
    have := run_convert_bytes_arg (P := Tryd.prog) w' 33 5 Tryd.underlying33 Tryd.underlying5 g 0 n c (l.map fun c => (c.toNat : Int)) (by simp [hn]) (fun i hi => by
      rw [World.cell?_of_block (w := w) (he g hg)]
      rw [Nat.zero_add, hc i (by omega)]
      simp [bcells, List.getElem?_eq_getElem (show i < l.length by omega)]) 9 Tryd.underlying9
    rw [this]
    congr 2
    unfold strOfNums strOf
    congr 2
    rw [List.map_map]
    conv => rhs; rw [← List.map_id l]
    apply List.map_congr_left
    intro x _
    simp

theorem plain_walk (b B : Nat) (s : W.RS) (c : UInt8) (w : World) (h : Ref w b B s) (hl : s.word.length < 1000000) :
    Calls Tryd.prog 28 #[.pointer (some ⟨b, 0, none⟩), .int .u8 c.toNat] w (RefPost b B (s.plain c) w) := by
  obtain ⟨vw, vws, hlt, hle, hh, hw, hws⟩ := h
  obtain ⟨i0, hi, hz0, hz1, hz2⟩ := info_parts info5
  obtain ⟨aw, cw, rfl⟩ := hw.form
  have hc : c.toNat < 256 := c.toNat_lt
  have c1 := cell_whole hh 1
  have f1 := frozen_whole hh 1
  have f4 := frozen_whole hh 4
  have c4 := cell_whole hh 4
  simp only [List.getElem?_toArray, List.getElem?_cons_succ, List.getElem?_cons_zero] at c1 c4
  have hbp := badPlain_eq c
  have HH := Lib.hid hh
  clear hh
  by_cases hbad : W.badPlain c = true
  · have HB := Lib.hid hbad
    have hcases : decide ((c.toNat : Int) < 32) = true ∨ (decide ((c.toNat : Int) < 32) = false ∧ ((((c.toNat : Int)) == 127) = true ∨ ((((c.toNat : Int)) == 127) = false ∧ ((((c.toNat : Int)) == 34) = true ∨ ((((c.toNat : Int)) == 34) = false ∧ (((c.toNat : Int)) == 92) = true))))) := by
      rw [hbp] at hbad
      simp at hbad ⊢
      omega
    clear hbad hbp
    rcases hcases with n1 | ⟨n1, n2 | ⟨n2, n3 | ⟨n3, n4⟩⟩⟩
    all_goals
      go_enter Tryd.func28, Tryd.ntmps28
      go_wp2_with (at_builtin; refine wpList_append_own _ rfl _ _ 33 rfl B 5 i0 (.int .u8 0) 1 1 Tryd.underlying33 hi hz0 hz1 hz2 rfl (by decide) _ _ _ rfl ((hw.setCell hlt).alloc _) ⟨w.heap.size, 0, none⟩ 1 1 [.int .u8 c.toNat] rfl rfl ?c1 ?c2 ?c3 ?c4 ?c5 ?_)
      case c1 => exact new_one _ _ _ _ (by first | rfl | simp only [size_set])
      case c2 => exact one_cell rfl
      case c3 => unfold maxLen; omega
      case c4 => omega
      case c5 => repeat (first | assumption | refine le_alloc ?_ _ | refine le_set ?_ _ _ | refine le_drew ?_)
      intro v' w1 h1 hg _
      obtain ⟨hh1, hw1, hws1, ho1, hB1, a1, d1, rfl⟩ := ref_pushed hlt (by repeat (first | assumption | refine le_alloc ?_ _ | refine le_set ?_ _ _ | refine le_drew ?_)) (alloc_whole (set_whole (i := 4) HH.out (.bool true))) ((hw.setCell hlt).alloc _) ((hws.setCell hlt).alloc _) h1 hg
      have c1' := cell_whole hh1 1
      have f1' := frozen_whole hh1 1
      simp only [List.setIfInBounds_toArray, List.getElem?_toArray, List.getElem?_cons_succ, List.getElem?_cons_zero, List.set_cons_succ, List.set_cons_zero] at c1'
      have HH1 := Lib.hid hh1
      have HO := Lib.hid ho1
      clear hh1 c1 c4 f1 f4 ho1
      go_wp2
      go_end0
      refine ⟨rfl, ⟨_, _, hlt, by rw [size_set]; exact hB1, ?_, hw1.setCell hlt, hws1.setCell hlt⟩, (((((Out.refl b B w).setCell _ _ (.inl rfl)).alloc _ (by repeat (first | assumption | refine le_alloc ?_ _ | refine le_set ?_ _ _ | refine le_drew ?_))).trans HO.out).setCell _ _ (.inl rfl))⟩
      rw [set_whole (i := 1) HH1.out]
      simp [W.RS.plain, HB.out]
  · have n1 : ¬ (c.toNat < 32) := by intro e; rw [hbp] at hbad; simp [e] at hbad
    have n2 : (((c.toNat : Int)) == 127) = false := by rw [hbp] at hbad; simp at hbad ⊢; omega
    have n3 : (((c.toNat : Int)) == 34) = false := by rw [hbp] at hbad; simp at hbad ⊢; omega
    have n4 : (((c.toNat : Int)) == 92) = false := by rw [hbp] at hbad; simp at hbad ⊢; omega
    have n1' : decide ((c.toNat : Int) < 32) = false := by simp; omega
    have HB := Lib.hid hbad
    clear hbad hbp
    go_enter Tryd.func28, Tryd.ntmps28
    go_wp2_with (at_builtin; refine wpList_append_own _ rfl _ _ 33 rfl B 5 i0 (.int .u8 0) 1 1 Tryd.underlying33 hi hz0 hz1 hz2 rfl (by decide) _ _ _ rfl (hw.alloc _) ⟨w.heap.size, 0, none⟩ 1 1 [.int .u8 c.toNat] rfl rfl ?c1 ?c2 ?c3 ?c4 ?c5 ?_)
    case c1 => exact new_one _ _ _ _ (by first | rfl | simp only [size_set])
    case c2 => exact one_cell rfl
    case c3 => unfold maxLen; omega
    case c4 => omega
    case c5 => repeat (first | assumption | refine le_alloc ?_ _ | refine le_set ?_ _ _ | refine le_drew ?_)
    intro v' w1 h1 hg _
    obtain ⟨hh1, hw1, hws1, ho1, hB1, a1, d1, rfl⟩ := ref_pushed hlt (by rw [size_alloc]; omega) (alloc_whole HH.out) (hw.alloc _) (hws.alloc _) h1 hg
    have c1' := cell_whole hh1 1
    have f1' := frozen_whole hh1 1
    simp only [List.getElem?_toArray, List.getElem?_cons_succ, List.getElem?_cons_zero] at c1'
    have HH1 := Lib.hid hh1
    have HO := Lib.hid ho1
    clear hh1 c1 c4 f1 f4 ho1
    go_wp2
    go_end0
    refine ⟨rfl, ⟨_, _, hlt, by rw [size_set]; exact hB1, ?_, hw1.setCell hlt, hws1.setCell hlt⟩, (((Out.refl b B w).alloc _ hle).trans HO.out).setCell _ _ (.inl rfl)⟩
    rw [set_whole (i := 1) HH1.out]
    simp [W.RS.plain, HB.out]

theorem ends_walk (b B : Nat) (s : W.RS) (w : World) (h : Ref w b B s) (hl : s.word.length < 1000000) (hl2 : s.words.length < 1000000) :
    Calls Tryd.prog 19 #[.pointer (some ⟨b, 0, none⟩)] w (RefPost b B s.ends w) := by
  obtain ⟨vw, vws, hlt, hle, hh, hw, hws⟩ := h
  obtain ⟨i0, hi, hz0, hz1, hz2⟩ := info_parts info9
  obtain ⟨aw, cw, rfl⟩ := hw.form
  obtain ⟨aws, cws, rfl⟩ := hws.form
  have c1 := cell_whole hh 1
  have c2 := cell_whole hh 2
  have f1 := frozen_whole hh 1
  have f2 := frozen_whole hh 2
  simp only [List.getElem?_toArray, List.getElem?_cons_succ, List.getElem?_cons_zero] at c1 c2
  have hcv := conv_bytes hw rfl w.drew (fun _ _ => rfl)
  have HH := Lib.hid hh
  clear hh
  go_enter Tryd.func19, Tryd.ntmps19
  go_wp2
  refine wp_canon (by kernel_rfl) (by kernel_rfl) ?_
  go_wp2_with (at_builtin; refine wpList_append_own _ rfl _ _ 22 rfl B 9 i0 (.string ByteArray.empty) 1 16 Tryd.underlying22 hi hz0 hz1 hz2 rfl (by decide) _ _ _ rfl (Own.drew (hws.alloc _)) ⟨w.heap.size, 0, none⟩ 1 1 [.string (strOf s.word)] rfl rfl ?c1 ?c2 ?c3 ?c4 ?c5 ?_)
  case c1 => exact new_one _ _ _ _ rfl
  case c2 => exact one_cell rfl
  case c3 => unfold maxLen; omega
  case c4 => omega
  case c5 => exact le_drew (le_alloc hle _)
  intro v' w1 h1 hg _
  obtain ⟨hh1, hws1, ho1, hB1, a1, d1, rfl⟩ := ref_ended hlt (le_drew (le_alloc hle _)) (alloc_whole HH.out) (Own.drew (hws.alloc _)) h1 hg
  have hw1 : Own w1 B 5 (.slice aw s.word.length cw) s.word.length (bcells s.word) := by
    refine (hw.alloc (.cells #[.string (strOf s.word)] 9)).keep fun k hk => hg.block k ?_ ?_
    · have := (hw.block hk).2.1; rw [size_drew, size_alloc]; omega
    · intro e
      obtain ⟨_, _, cur, hcur⟩ := hws.block e.symm
      obtain ⟨_, _, cur', hcur'⟩ := hw.block hk
      rw [hcur] at hcur'
      cases hcur'
  have c2' := cell_whole hh1 2
  have f2' := frozen_whole hh1 2
  have c1' := cell_whole hh1 1
  have f1' := frozen_whole hh1 1
  simp only [List.getElem?_toArray, List.getElem?_cons_succ, List.getElem?_cons_zero] at c1' c2'
  have HH1 := Lib.hid hh1
  have HO := Lib.hid ho1
  clear hh1 c1 c2 f1 f2 ho1 hcv
  go_wp2
  refine ⟨rfl, ?_⟩
  go_wp2
  go_end0
  refine ⟨rfl, ⟨_, _, hlt, le_set (le_set hB1 _ _) _ _, ?_, Own.nil _ _ _, (hws1.setCell hlt).setCell hlt⟩, (((((Out.refl b B w).alloc _ hle).drew.trans HO.out).setCell _ _ (.inl rfl)).setCell _ _ (.inl rfl))⟩
  rw [set_whole (i := 1) (set_whole (i := 2) HH1.out _)]
  simp [W.RS.ends]

end Go.Proofs.YtheflheeaiopfaaDoor
