/- The shelf's contracts over lists of bytes. -/
import Derived.Test.YtikfphojehgpjaaGreatDoorM01
import Derived.Test.YtikfphojehgpjaaGreatDoorM11
import Derived.Test.YtikfphojehgpjaaGreatDoorM06
import Derived.ArgAppend
import Derived.Recover
set_option linter.unusedSimpArgs false
set_option linter.unusedVariables false
namespace Go.Proofs.YtikfphojehgpjaaGreatDoor
open Go.RowKit Vl
set_option linter.unusedVariables false

def ints (l : List UInt8) : List Int := l.map fun c => (c.toNat : Int)
theorem ints_length (l : List UInt8) : (ints l).length = l.length := by simp [ints]
theorem ints_getD (l : List UInt8) {i : Nat} (h : i < l.length) : (ints l).getD i 0 = (l[i].toNat : Int) := by simp [ints, h]
theorem bytesOf_ints (l : List UInt8) : Lib.bytesOf (ints l) = l := by
  unfold Lib.bytesOf ints
  rw [List.map_map]
  conv => rhs; rw [← List.map_id l]
  apply List.map_congr_left
  intro x _
  simp
theorem BytesAt.in {w : World} {a : Option Addr} {l : List UInt8} (h : BytesAt w a l) : Lib.BytesIn w a l.length (ints l) := by
  intro hn
  obtain ⟨g, off, rfl, _⟩ := h 0 hn
  refine ⟨g, off, rfl, fun i hi => ?_⟩
  obtain ⟨g', off', e, _, hc⟩ := h i hi
  injection e with e2
  injection e2 with e3 e4 _
  subst e3; subst e4
  rw [ints_getD l hi]
  exact hc
theorem equal_walk (a b : Option Addr) (l m : List UInt8) (c d : Nat) (w : World) (hl : BytesAt w a l) (hm : BytesAt w b m) :
    Calls Tryz.prog 93 #[.slice a l.length c, .slice b m.length d] w fun e w' => e = .returned (.bool (l == m)) ∧ w' = w := by
  have := Tryz.bytes_Equal_all a b l.length c m.length d (ints l) (ints m) w (ints_length l) (ints_length m) hl.in hm.in
  rw [bytesOf_ints, bytesOf_ints] at this
  exact this
def ClonePost (l : List UInt8) (w : World) (e : Ending) (w' : World) : Prop := ∃ v, e = .returned v ∧ Own w' w.heap.size 5 v l.length (bcells l) ∧ Kept [] w w'
theorem clone_walk (a : Option Addr) (l : List UInt8) (c : Nat) (w : World) (hl : BytesAt w a l) (h0 : 0 < l.length) (hb : l.length ≤ 140737488355328) :
    Calls Tryz.prog 100 #[.slice a l.length c] w (ClonePost l w) := by
  obtain ⟨g, off, rfl, _⟩ := hl 0 h0
  refine (Tryz.bytes_Clone_at ⟨g, off, none⟩ l.length c (ints l) w (ints_length l) hb (fun i hi => ?_)).mono ?_
  · obtain ⟨g', off', e, _, hc⟩ := hl i hi
    injection e with e2
    injection e2 with e3 e4 _
    subst e3; subst e4
    rw [ints_getD l hi, Addr.add_lit]
    exact hc
  · rintro e w' ⟨v, rfl, hO, _, hb⟩
    refine ⟨v, rfl, ?_, Kept.of_below hb⟩
    have e1 : (ints l).map (Value.int .u8) = bcells l := by unfold ints bcells; rw [List.map_map]; rfl
    rw [e1] at hO
    exact hO

/-! Pieces of rows that were laid over. -/
theorem over_ahead {l m : List UInt8} {a b n : Nat} (ha : a ≤ l.length) (hb : b + n ≤ a) : ((over l a m).drop b).take n = (l.drop b).take n := by
  unfold over
  rw [List.append_assoc, List.drop_append_of_le_length (by rw [List.length_take]; omega), List.take_append_of_le_length (by rw [List.length_drop, List.length_take]; omega), List.drop_take, List.take_take, Nat.min_eq_left (by omega)]
theorem over_here {l m : List UInt8} {a : Nat} (ha : a ≤ l.length) : ((over l a m).drop a).take m.length = m := by
  unfold over
  rw [List.append_assoc, List.drop_append_of_le_length (by rw [List.length_take]; omega), List.drop_eq_nil_of_le (by rw [List.length_take]; omega), List.nil_append, List.take_left]
theorem super_S (S L N : Nat) : ((superB S L N).drop 8).take 4 = leB S 4 := by
  have l1 := stage_length S L N 1
  have l2 := stage_length S L N 2
  have l3 := stage_length S L N 3
  unfold superB sealedB
  rw [over_ahead (by omega) (by omega)]
  show ((over (stage S L N 2) 16 (leB N 4)).drop 8).take 4 = _
  rw [over_ahead (by omega) (by omega)]
  show ((over (stage S L N 1) 12 (leB L 4)).drop 8).take 4 = _
  rw [over_ahead (by omega) (by omega)]
  have := over_here (l := stage S L N 0) (m := leB S 4) (a := 8) (by rw [stage_length]; omega)
  rw [leB_length] at this
  exact this
theorem super_L (S L N : Nat) : ((superB S L N).drop 12).take 4 = leB L 4 := by
  have l2 := stage_length S L N 2
  have l3 := stage_length S L N 3
  unfold superB sealedB
  rw [over_ahead (by omega) (by omega)]
  show ((over (stage S L N 2) 16 (leB N 4)).drop 12).take 4 = _
  rw [over_ahead (by omega) (by omega)]
  have := over_here (l := stage S L N 1) (m := leB L 4) (a := 12) (by rw [stage_length]; omega)
  rw [leB_length] at this
  exact this
theorem super_N (S L N : Nat) : ((superB S L N).drop 16).take 4 = leB N 4 := by
  have l3 := stage_length S L N 3
  unfold superB sealedB
  rw [over_ahead (by omega) (by omega)]
  have := over_here (l := stage S L N 2) (m := leB N 4) (a := 16) (by rw [stage_length]; omega)
  rw [leB_length] at this
  exact this
end Go.Proofs.YtikfphojehgpjaaGreatDoor
/- DecodeSuper, of a superblock. -/
namespace Go.Proofs.YtikfphojehgpjaaGreatDoor
open Go.RowKit Vl
set_option linter.unusedVariables false

theorem i4 : ((4 : Nat) : Int) = 4 := by omega
theorem i8 : ((8 : Nat) : Int) = 8 := by omega
theorem i256 : ((256 : Nat) : Int) = 256 := by omega
theorem i512 : ((512 : Nat) : Int) = 512 := by omega
theorem i1024 : ((1024 : Nat) : Int) = 1024 := by omega
theorem i2048 : ((2048 : Nat) : Int) = 2048 := by omega
theorem cell_kept {F : List Nat} {w w' : World} (h : Kept F w w') {g i : Nat} (hg : g < w.heap.size) (hF : g ∉ F) : w'.cell? ⟨g, i, none⟩ = w.cell? ⟨g, i, none⟩ := by
  unfold World.cell?
  rw [h.block g hg hF]
/-- The closure that decodes: the sector's variable at bs, the superblock's at ss. -/
def Dec1Post (ss : Nat) (S L N : Nat) (w : World) (e : Ending) (w' : World) : Prop :=
  e = .returned (.tuple #[]) ∧ w'.heap[ss]? = some (.cells #[.int .i64 S, .int .i64 L, .int .i64 N] 53 (0, 0)) ∧ Kept [ss] w w'

set_option maxRecDepth 100000 in
set_option maxHeartbeats 2000000 in
theorem dec1_walk (bs ss g off c : Nat) (S L N : Nat) (w : World) (hb : w.heap[bs]? = some (.cells #[.slice (some ⟨g, off, none⟩) 512 c] 22 (0, 0)))
    (hs : w.heap[ss]? = some (.cells #[.int .i64 0, .int .i64 0, .int .i64 0] 53 (0, 0))) (hB : BytesAt w (some ⟨g, off, none⟩) (superB S L N)) (hc : 512 ≤ c) (hc2 : c ≤ 1000000000) (hg : geoOk S L N = true)
    (hne : bs ≠ ss) (hgs : g ≠ ss) :
    Calls Tryz.prog 89 #[.pointer (some ⟨bs, 0, none⟩), .pointer (some ⟨ss, 0, none⟩)] w (Dec1Post ss S L N w) := by
  have c0 := cell_whole hb 0
  simp only [List.getElem?_toArray, List.getElem?_cons_zero] at c0
  have hlb := lt_whole hb
  have hls := lt_whole hs
  have hlen := superB_length S L N
  have hgl : g < w.heap.size := by
    obtain ⟨g', o', e1, h1, _⟩ := hB 0 (by omega)
    injection e1 with e2; injection e2 with e3 _ _
    subst e3; exact h1
  have hbd : 18 ≤ L ∧ L ≤ 256 ∧ 4 ≤ N ∧ N ≤ 1024 ∧ S ≤ 2048 := by
    unfold geoOk at hg
    simp only [Bool.and_eq_true, decide_eq_true_eq] at hg
    omega
  have hx := heap_alloc_new w (.cells #[.slice (some ⟨g, off, none⟩) 512 c, .int .i64 0] 177)
  have HK1 := Lib.hid ((Kept.refl [] w).alloc (.cells #[.slice (some ⟨g, off, none⟩) 512 c, .int .i64 0] 177))
  have HR := Lib.hid (show RdAt (w.alloc (.cells #[.slice (some ⟨g, off, none⟩) 512 c, .int .i64 0] 177)) w.heap.size g off (superB S L N) c 0 from ⟨by rw [hx, hlen]; rfl, hB.below HK1.out.below, by omega, by omega⟩)
  have HB := Lib.hid hb
  have HS := Lib.hid hs
  have HG := Lib.hid hg
  have HBY := Lib.hid hB
  clear hb hs hB hg hx
  go_enter Tryz.func89, Tryz.ntmps89
  go_upto_region 1 with fail
  generalize hp : w.heap.size = p at *
  have HP := Lib.hid (show w.heap.size ≤ p by omega)
  clear hp
  generalize w.alloc (.cells #[.slice (some ⟨g, off, none⟩) 512 c, .int .i64 0] 177) = w1 at *
  have HT := Lib.hid (rtake_walk p g off (superB S L N) c 0 8 w1 HR.out (by omega) (by omega) hc2)
  rw [i8] at HT
  go_wp2_with fail
  refine HT.out.mono ?_
  rintro e w2 ⟨rfl, hr2, hk2⟩
  have HR2 := Lib.hid hr2
  have HK2 := Lib.hid (HK1.out.trans hk2 (by simp; exact HP.out))
  have HN1 := Lib.hid (rnum_walk p g off (superB S L N) c 8 4 2048 S w2 hr2 (by omega) (by omega) (by omega) hc2 (super_S S L N) (by show S < 4294967296; omega) (by omega) (by omega))
  clear hr2 hk2
  rw [i4, i2048] at HN1
  go_wp2_with fail
  refine HN1.out.mono ?_
  rintro e w3 ⟨rfl, hr3, hk3⟩
  have HK3 := Lib.hid (HK2.out.trans hk3 (by simp; exact HP.out))
  have HN2 := Lib.hid (rnum_walk p g off (superB S L N) c 12 4 256 L w3 hr3 (by omega) (by omega) (by omega) hc2 (super_L S L N) (by show L < 4294967296; omega) (by omega) (by omega))
  rw [i4, i256] at HN2
  clear hr3 hk3 HN1 HT
  go_wp2_with fail
  refine HN2.out.mono ?_
  rintro e w4 ⟨rfl, hr4, hk4⟩
  have HK4 := Lib.hid (HK3.out.trans hk4 (by simp; exact HP.out))
  have HN3 := Lib.hid (rnum_walk p g off (superB S L N) c 16 4 1024 N w4 hr4 (by omega) (by omega) (by omega) hc2 (super_N S L N) (by show N < 4294967296; omega) (by omega) (by omega))
  rw [i4, i1024] at HN3
  clear hr4 hk4 HN2
  go_wp2_with fail
  refine HN3.out.mono ?_
  rintro e w5 ⟨rfl, hr5, hk5⟩
  have HK5 := Lib.hid (HK4.out.trans hk5 (by simp; exact HP.out))
  have HB5 := Lib.hid (HK5.out.keep HB.out (by simp))
  have HS5 := Lib.hid (HK5.out.keep HS.out (by simp))
  clear hr5 hk5 HN3
  have hl5 := lt_whole HS5.out
  have s0 := cell_whole HS5.out 0
  have s1 := cell_whole HS5.out 1
  have s2 := cell_whole HS5.out 2
  have f0 := frozen_whole HS5.out 0
  have f1 := frozen_whole HS5.out 1
  have f2 := frozen_whole HS5.out 2
  simp only [List.getElem?_toArray, List.getElem?_cons_zero, List.getElem?_cons_succ] at s0 s1 s2
  go_upto_region 3 with fail
  have hs6 := set_whole (i := 2) (set_whole (i := 1) (set_whole (i := 0) HS5.out (.int .i64 S)) (.int .i64 L)) (.int .i64 N)
  have HS6 := Lib.hid (show (((w5.setCell ⟨ss, 0, none⟩ (.int .i64 S)).setCell ⟨ss, 1, none⟩ (.int .i64 L)).setCell ⟨ss, 2, none⟩ (.int .i64 N)).heap[ss]? = some (.cells #[.int .i64 S, .int .i64 L, .int .i64 N] 53 (0, 0)) from hs6)
  have HK6 := Lib.hid ((((HK5.out.mono (G := [ss]) (by simp)).setCell ⟨ss, 0, none⟩ (.int .i64 S) (.inl (by simp))).setCell ⟨ss, 1, none⟩ (.int .i64 L) (.inl (by simp))).setCell ⟨ss, 2, none⟩ (.int .i64 N) (.inl (by simp)))
  clear hs6 f0 f1 f2 s0 s1 s2 hl5
  generalize ((w5.setCell ⟨ss, 0, none⟩ (.int .i64 S)).setCell ⟨ss, 1, none⟩ (.int .i64 L)).setCell ⟨ss, 2, none⟩ (.int .i64 N) = w6 at *
  have s0 := cell_whole HS6.out 0
  have s1 := cell_whole HS6.out 1
  have s2 := cell_whole HS6.out 2
  simp only [List.getElem?_toArray, List.getElem?_cons_zero, List.getElem?_cons_succ] at s0 s1 s2
  have HE := Lib.hid (encodeSuper_walk S L N w6 HG.out)
  go_wp2_with fail
  refine HE.out.mono ?_
  rintro e w7 ⟨hk7, ga, hga, rfl, hba⟩
  have HK7 := Lib.hid (HK6.out.trans hk7 (by simp))
  have HS7 := Lib.hid (hk7.keep HS6.out (by simp))
  have HB7 := Lib.hid (HK7.out.keep HB.out (by simp; exact hne))
  have hbs := cell_whole HB7.out 0
  simp only [List.getElem?_toArray, List.getElem?_cons_zero] at hbs
  have heq := equal_walk (some ⟨ga, 0, none⟩) (some ⟨g, off, none⟩) (superB S L N) (superB S L N) 512 c w7 hba.at (fun i hi => by
    obtain ⟨g', o', e1, h1, h2⟩ := HBY.out i hi
    injection e1 with e2; injection e2 with e3 e4 _
    subst e3; subst e4
    exact ⟨g, off, rfl, Nat.lt_of_lt_of_le h1 HK7.out.size, by rw [cell_kept HK7.out h1 (by simp; exact hgs)]; exact h2⟩)
  rw [superB_length, beq_self_eq_true] at heq
  have HEQ := Lib.hid heq
  have HF := Lib.hid (fits_walk w7)
  clear hk7 hba heq s0 s1 s2 hga
  go_wp2_with fail
  refine HEQ.out.mono ?_
  rintro e w8 ⟨rfl, rfl⟩
  go_wp2_with fail
  refine HF.out.mono ?_
  rintro e w9 ⟨rfl, rfl⟩
  go_wp2
  go_end0
  exact ⟨rfl, HS7.out, HK7.out⟩
end Go.Proofs.YtikfphojehgpjaaGreatDoor
/- seal: turn, lay. -/
namespace Go.Proofs.YtikfphojehgpjaaGreatDoor
open Go.RowKit Vl
set_option linter.unusedVariables false

theorem turnOf_is (a b : UInt8) (k : Nat) (hk : k < 3) (h : ∀ j, j < k → j = a.toNat ∨ j = b.toNat) (ha : k ≠ a.toNat) (hb : k ≠ b.toNat) : ((turnOf a b).toNat : Int) = k := by
  unfold turnOf
  rcases (show k = 0 ∨ k = 1 ∨ k = 2 by omega) with rfl | rfl | rfl
  · rw [if_pos ⟨fun e => ha e.symm, fun e => hb e.symm⟩]; rfl
  · rw [if_neg (by have := h 0 (by omega); omega), if_pos ⟨fun e => ha e.symm, fun e => hb e.symm⟩]; rfl
  · rw [if_neg (by have := h 0 (by omega); omega), if_neg (by have := h 1 (by omega); omega)]; rfl

set_option maxRecDepth 100000 in
set_option maxHeartbeats 1000000 in
theorem turn_walk (a b : UInt8) (w : World) : Calls Tryz.prog 203 #[.int .u8 a.toNat, .int .u8 b.toNat] w fun e w' => e = .returned (.int .u8 (turnOf a b).toNat) ∧ w' = w := by
  have HT := Lib.hid (turnOf_is a b)
  have ha := a.toNat_lt
  have hb := b.toNat_lt
  generalize a.toNat = x at *
  generalize b.toNat = y at *
  generalize (turnOf a b).toNat = z at *
  go_enter Tryz.func203, Tryz.ntmps203
  go_wp2
  go_loopw [5, 6] (fun v5 v6 wr => ∃ k : Nat, k ≤ 2 ∧ v6 = .int .u8 k ∧ (∀ j, j < k → j = x ∨ j = y) ∧ wr = w) (fun _ v6 _ => 3 - (intOf v6).toNat)
  case atStart => exact ⟨0, by omega, rfl, by omega, rfl⟩
  case round =>
    obtain ⟨k, hk, rfl, hj, rfl⟩ := hrel
    have HJ := Lib.hid hj
    clear hj
    by_cases h1 : k = x
    · have t1 : ((k : Int) == x) = true := beq_iff_eq.2 (by omega)
      have t2 : ((k : Int) != x) = false := by rw [bne_eq_false_iff_eq]; omega
      have H1 := Lib.hid h1
      clear h1
      go_wp2
      refine ⟨⟨k + 1, ?_, by go_num, fun j hj => ?_, trivial⟩, by simp [intOf]; omega⟩
      · have h0 := HJ.out 0
        have h1 := HJ.out 1
        have := H1.out
        omega
      · by_cases e : j = k
        · exact .inl (e.trans H1.out)
        · exact HJ.out j (by omega)
    · have t2 : ((k : Int) != x) = true := by rw [bne_iff_ne]; omega
      have H1 := Lib.hid h1
      clear h1
      by_cases h2 : k = y
      · have t4 : ((k : Int) != y) = false := by rw [bne_eq_false_iff_eq]; omega
        have H2 := Lib.hid h2
        clear h2
        go_wp2
        refine ⟨⟨k + 1, ?_, by go_num, fun j hj => ?_, trivial⟩, by simp [intOf]; omega⟩
        · have h0 := HJ.out 0
          have h1 := HJ.out 1
          have := H2.out
          omega
        · by_cases e : j = k
          · exact .inr (e.trans H2.out)
          · exact HJ.out j (by omega)
      · have t4 : ((k : Int) != y) = true := by rw [bne_iff_ne]; omega
        have H2 := Lib.hid h2
        clear h2
        go_wp2
        go_ret
        exact ⟨by rw [HT.out k (by omega) HJ.out H1.out H2.out]; rfl, rfl⟩

/-- A row of bytes in an array of type t. -/
def BytesT (w : World) (g : Nat) (t : TypeId) (l : List UInt8) : Prop := w.heap[g]? = some (.cells (bcells l).toArray t (0, 0))
theorem BytesT.cell {w : World} {g t : Nat} {l : List UInt8} (h : BytesT w g t l) {i : Nat} (hi : i < l.length) : w.cell? ⟨g, i, none⟩ = some (.int .u8 l[i].toNat) := by
  rw [cell_whole h i]
  unfold bcells
  simp [hi]
theorem BytesT.set {w : World} {g t : Nat} {l : List UInt8} (h : BytesT w g t l) (i : Nat) (c : UInt8) (v : Int) (hv : (c.toNat : Int) = v) : BytesT (w.setCell ⟨g, i, none⟩ (.int .u8 v)) g t (l.set i c) := by
  subst hv
  unfold BytesT
  rw [set_whole h]
  congr 2
  unfold bcells
  simp [List.map_set]
theorem BytesT.kept {w w' : World} {F : List Nat} {g t : Nat} {l : List UInt8} (h : BytesT w g t l) (hk : Kept F w w') (hg : g ∉ F) : BytesT w' g t l := hk.keep h hg
/-- A part of it, as it can be read. -/
theorem BytesT.part {w : World} {g t : Nat} {l : List UInt8} (h : BytesT w g t l) (o n : Nat) (hn : o + n ≤ l.length) : BytesAt w (some ⟨g, o, none⟩) ((l.drop o).take n) := by
  intro i hi
  rw [List.length_take, List.length_drop] at hi
  refine ⟨g, o, rfl, lt_whole h, ?_⟩
  rw [h.cell (show o + i < l.length by omega)]
  simp
theorem BytesAt.cells {w : World} {g o : Nat} {l : List UInt8} (h : BytesAt w (some ⟨g, o, none⟩) l) {j : Nat} {u : Value} (hj : (bcells l)[j]? = some u) : w.cell? ((⟨g, o, none⟩ : Addr).add j) = some u := by
  obtain ⟨hj1, hj2⟩ := List.getElem?_eq_some_iff.1 hj
  rw [bcells_length] at hj1
  obtain ⟨g3, off3, e3, _, hc⟩ := h j hj1
  injection e3 with e4
  injection e4 with e5 e6 _
  subst e5; subst e6
  rw [Addr.add_lit, hc, ← hj2]
  simp [bcells]
/-- Bytes that are copied into an array. -/
theorem copy_into (w : World) (g o dLen dCap : Nat) (t : TypeId) (l m : List UInt8) (ga oa sCap : Nat) (hB : BytesT w g t l) (hm : BytesAt w (some ⟨ga, oa, none⟩) m) (hd : m.length ≤ dLen) (hfit : o + m.length ≤ l.length) (ty : TypeId) :
    ∃ w', (Builtin.copy_ #[22, 22] ty #[.slice (some ⟨g, o, none⟩) dLen dCap, .slice (some ⟨ga, oa, none⟩) m.length sCap]).run Tryz.prog w = .ok (.int .i64 m.length) w' ∧ BytesT w' g t (over l o m) ∧ Kept [g] w w' := by
  have hr := run_copy_row (P := Tryz.prog) w 22 22 ty 5 g o dLen dCap ⟨ga, oa, none⟩ m.length sCap (bcells l).toArray t (bcells m) Tryz.underlying22 (by
    have hi := info5
    cases hq : Tryz.prog.info? 5 with
    | none => rw [hq] at hi; simp at hi
    | some i => rw [hq] at hi; simp at hi; simp [hi]) hB (by rw [bcells_length]; exact (Nat.min_eq_left hd).symm) (fun j v hj => by
      obtain ⟨hj1, hj2⟩ := List.getElem?_eq_some_iff.1 hj
      rw [bcells_length] at hj1
      obtain ⟨g3, off3, e3, _, hc⟩ := hm j hj1
      injection e3 with e4
      injection e4 with e5 e6 _
      subst e5; subst e6
      rw [Addr.add_lit, hc, ← hj2]
      simp [bcells]) (by simp; omega) (bcells_oneCell m)
  refine ⟨_, by rw [hr, bcells_length]; rfl, ?_, ?_⟩
  · unfold BytesT
    rw [setRow_heap w g _ _ t (0, 0) hB]
    have e1 : ((bcells l).toArray.toList.take o ++ bcells m ++ (bcells l).toArray.toList.drop (o + m.length)) = bcells (over l o m) := by
      unfold over
      simp [bcells, List.map_take, List.map_drop]
    rw [e1]
  · refine ⟨rfl, rfl, rfl, ?_, fun k hk hg => ?_⟩
    · show w.heap.size ≤ (w.heap.modify g _).size; simp
    · show (w.heap.modify g _)[k]? = w.heap[k]?
      rw [Array.getElem?_modify, if_neg (fun e => hg (by simp [e]))]
/-- A whole row is stored. -/
theorem wpList_store_row {P : Program} {w : World} {ops : Array Oper} {rest : List Oper} {o : Oper} {a : Act} {Q : Exit → Act → World → Prop} (hgd : o.guard = none) (ty : TypeId) (x y : Operand) (hop : o.op = .store ty x y)
    (g : Nat) (cells : Array Value) (hx : a.eval x = .pointer (some ⟨g, 0, none⟩)) (hy : a.eval y = .agg cells) (t : TypeId) (old : Array Value) (hg : w.heap[g]? = some (.cells old t (0, 0))) (hi : (P.info? ty).map (·.size) = some cells.size)
    (ho : old.size = cells.size) (h1 : cells.all (·.oneCell') = true) (h : wpList P ops Q rest (a.put o.dst undef) (w.setRow g cells)) : wpList P ops Q (o :: rest) a w := by
  refine wpList_plain hgd fun K hK => ?_
  unfold Oper.wp execOp
  simp only [hop, hx, hy, Instr.storeAt, Instr.sureAddr, Sem.run_bind, Sem.run_pure, Result.andThen_ok, run_storeVar_row w g t ty old cells hg hi ho h1]
  exact hK _ _ h
theorem setRow_whole {w : World} {g : Nat} {t : TypeId} {old cells : Array Value} (hg : w.heap[g]? = some (.cells old t (0, 0))) : (w.setRow g cells).heap[g]? = some (.cells cells t (0, 0)) := setRow_heap w g _ _ t (0, 0) hg
theorem Kept.setRow {F : List Nat} {a w : World} (h : Kept F a w) (g : Nat) (cells : Array Value) (hp : g ∈ F ∨ a.heap.size ≤ g) : Kept F a (w.setRow g cells) :=
  ⟨h.os, h.tape, h.output, by show a.heap.size ≤ (w.heap.modify g _).size; simpa using h.size, fun k hk hF => by
    show (w.heap.modify g _)[k]? = a.heap[k]?
    rw [Array.getElem?_modify, if_neg (fun e => by
      subst e
      rcases hp with h1 | h1
      · exact hF h1
      · omega)]
    exact h.block k hk hF⟩
theorem bcells_all (l : List UInt8) : (bcells l).toArray.all (·.oneCell') = true := Array.all_eq_true_iff_forall_mem.2 (fun v hv => bcells_oneCell l v (by simpa using hv))
theorem size299 : (Tryz.prog.info? 299).map (·.size) = some 512 := by kernel_rfl
theorem zero299 : Tryz.zeroCells299 = (bcells zsec).toArray := by kernel_rfl

def LayPost (t : UInt8) (body : List UInt8) (w : World) (e : Ending) (w' : World) : Prop := e = .returned (.agg (bcells (sealSec t body)).toArray) ∧ Kept [] w w'
set_option maxRecDepth 100000 in
set_option maxHeartbeats 1000000 in
theorem lay_walk (t : UInt8) (body : List UInt8) (ga oa : Nat) (c : Nat) (w : World) (h : BytesAt w (some ⟨ga, oa, none⟩) body) (hl : body.length ≤ 504) :
    Calls Tryz.prog 188 #[.int .u8 t.toNat, .slice (some ⟨ga, oa, none⟩) body.length c] w (LayPost t body w) := by
  have H := Lib.hid h
  have ht := t.toNat_lt
  clear h
  go_enter Tryz.func188, Tryz.ntmps188
  go_upto_region 2 with fail
  rw [zero299]
  obtain ⟨b, hb⟩ : ∃ b, b = w.heap.size := ⟨_, rfl⟩
  have hB : BytesT ((w.alloc (.cells (bcells zsec).toArray 299)).alloc (.cells (bcells zsec).toArray 299)) (b + 1) 299 zsec := by
    rw [hb, ← size_alloc w (.cells (bcells zsec).toArray 299)]; exact heap_alloc_new _ _
  have hR : BytesT ((w.alloc (.cells (bcells zsec).toArray 299)).alloc (.cells (bcells zsec).toArray 299)) b 299 zsec := by
    rw [hb]; exact alloc_whole (heap_alloc_new _ _)
  have hk := ((Kept.refl [] w).alloc (.cells (bcells zsec).toArray 299)).alloc (.cells (bcells zsec).toArray 299)
  rw [← hb]
  generalize ((w.alloc (.cells (bcells zsec).toArray 299)).alloc (.cells (bcells zsec).toArray 299)) = w1 at *
  have HB := Lib.hid hB
  have HR := Lib.hid hR
  have HK := Lib.hid hk
  have HBW := Lib.hid hb
  have c0 := hB.cell (i := 0) (by rw [zsec_length]; omega)
  have c1 := hB.cell (i := 1) (by rw [zsec_length]; omega)
  have c2 := hB.cell (i := 2) (by rw [zsec_length]; omega)
  have c3 := hB.cell (i := 511) (by rw [zsec_length]; omega)
  have f0 := frozen_whole hB 0
  have f1 := frozen_whole hB 1
  have f2 := frozen_whole hB 2
  have f3 := frozen_whole hB 511
  have hlt := lt_whole hB
  clear hB hR hk hb
  obtain ⟨x, hx⟩ : ∃ x, x = t.toNat := ⟨_, rfl⟩
  obtain ⟨n, hn⟩ : ∃ n, n = body.length := ⟨_, rfl⟩
  rw [← hx] at ht ⊢
  rw [← hn] at hl ⊢
  have HX := Lib.hid hx
  have HN := Lib.hid hn
  clear hx hn
  go_upto_region 4 with fail
  have hn2 : (UInt8.ofNat (n % 256)).toNat = n % 256 ∧ (UInt8.ofNat (n / 256 % 256)).toNat = n / 256 := ⟨by rw [UInt8.toNat_ofNat']; omega, by rw [UInt8.toNat_ofNat']; omega⟩
  have hB4 := (((HB.out.set 0 t x (by rw [HX.out])).set 511 t x (by rw [HX.out])).set 1 (UInt8.ofNat (n % 256)) ((n : Int) % 256) (by rw [hn2.1]; omega)).set 2 (UInt8.ofNat (n / 256 % 256)) ((n : Int) / 256) (by rw [hn2.2]; omega)
  have hK4 := (((HK.out.setCell ⟨b + 1, 0, none⟩ (.int .u8 x) (.inr (by show _ ≤ b + 1; have := HBW.out; omega))).setCell ⟨b + 1, 511, none⟩ (.int .u8 x) (.inr (by show _ ≤ b + 1; have := HBW.out; omega))).setCell ⟨b + 1, 1, none⟩ (.int .u8 ((n : Int) % 256)) (.inr (by show _ ≤ b + 1; have := HBW.out; omega))).setCell ⟨b + 1, 2, none⟩ (.int .u8 ((n : Int) / 256)) (.inr (by show _ ≤ b + 1; have := HBW.out; omega))
  have hR4 : BytesT ((((w1.setCell ⟨b + 1, 0, none⟩ (.int .u8 x)).setCell ⟨b + 1, 511, none⟩ (.int .u8 x)).setCell ⟨b + 1, 1, none⟩ (.int .u8 ((n : Int) % 256))).setCell ⟨b + 1, 2, none⟩ (.int .u8 ((n : Int) / 256))) b 299 zsec := set_other (set_other (set_other (set_other HR.out (by show b + 1 ≠ b; omega)) (by show b + 1 ≠ b; omega)) (by show b + 1 ≠ b; omega)) (by show b + 1 ≠ b; omega)
  have hL2 : (((((zsec.set 0 t).set 511 t).set 1 (UInt8.ofNat (n % 256))).set 2 (UInt8.ofNat (n / 256 % 256)))).length = 512 := by simp only [List.length_set]; exact zsec_length
  have hpre := pre_eq t (UInt8.ofNat (n % 256)) (UInt8.ofNat (n / 256 % 256)) body (by rw [← HN.out]; exact hl) (by rw [← HN.out]; rfl)
  clear c0 c1 c2 c3 f0 f1 f2 f3 hlt hn2
  generalize ((((zsec.set 0 t).set 511 t).set 1 (UInt8.ofNat (n % 256))).set 2 (UInt8.ofNat (n / 256 % 256))) = L2 at *
  generalize (((w1.setCell ⟨b + 1, 0, none⟩ (.int .u8 x)).setCell ⟨b + 1, 511, none⟩ (.int .u8 x)).setCell ⟨b + 1, 1, none⟩ (.int .u8 ((n : Int) % 256))).setCell ⟨b + 1, 2, none⟩ (.int .u8 ((n : Int) / 256)) = w4 at *
  obtain ⟨w5, hcp, hb5, hk5⟩ := copy_into w4 (b + 1) 7 504 505 299 L2 body ga oa c hB4 (H.out.below hK4.below) (by rw [← HN.out]; exact hl) (by rw [hL2, ← HN.out]; omega) 3
  rw [hpre] at hb5
  rw [← HN.out] at hcp
  have hR5 := hR4.kept hk5 (by simp)
  have hK5 := hK4.trans hk5 (by simp; have := HBW.out; omega)
  have hml := mid_length (body := body) (by rw [← HN.out]; exact hl)
  have hseal := form_seal t body
  have hfl := form_length (t := t) (e := t) (b := [0, 0, 0, 0]) (leB_length body.length 2) rfl hml
  have hsum := form_sum (t := t) (e := t) (m := body ++ List.replicate (504 - body.length) 0) (leB_length body.length 2) (b := [0, 0, 0, 0]) rfl (leB_length (crcOf (sealText body)) 4)
  have hh := form_head (t := t) (e := t) (b := [0, 0, 0, 0]) (leB_length body.length 2) rfl hml
  have htx : leB body.length 2 ++ (body ++ List.replicate (504 - body.length) 0) = sealText body := rfl
  rw [hseal] at hsum
  generalize form t (leB body.length 2) [0, 0, 0, 0] (body ++ List.replicate (504 - body.length) 0) t = L3 at *
  have hp1 := hb5.part 1 2 (by omega)
  have hp2 := hb5.part 7 504 (by omega)
  rw [hh.1] at hp1
  rw [hh.2] at hp2
  have hi := info5
  cases hq : Tryz.prog.info? 5 with
  | none => rw [hq] at hi; simp at hi
  | some i5 =>
  rw [hq] at hi
  simp only [Option.map_some, Option.some.injEq, Prod.mk.injEq] at hi
  obtain ⟨v6, w6, hap, ho6, hg6⟩ := run_append_arg_grows (P := Tryz.prog) (w := w5.drew) 22 22 5 i5 (.int .u8 0) 1 1 Tryz.underlying22 hq hi.1 hi.2.1 hi.2.2 rfl (by decide) ⟨b + 1, 1, none⟩ 2 2 (bcells (leB body.length 2)) (by rw [bcells_length, leB_length])
    (fun j u hj => hp1.cells hj) ⟨b + 1, 7, none⟩ 504 505 (bcells (body ++ List.replicate (504 - body.length) 0)) (by rw [bcells_length, hml]) (fun j u hj => hp2.cells hj) (by omega) (by unfold maxLen; omega) (by omega)
  rw [← bcells_append, htx] at ho6
  have ho6 : Own w6 w5.drew.heap.size 5 v6 506 (bcells (sealText body)) := ho6
  have hst := sealText_length (body := body) (by rw [← HN.out]; exact hl)
  have hb6 := hb5.kept ((Kept.refl [] w5).drew.grown hg6 (fun k hk => by cases hk)) (by simp)
  have hr6 := hR5.kept ((Kept.refl [] w5).drew.grown hg6 (fun k hk => by cases hk)) (by simp)
  have hk6 := hK5.drew.grown hg6 (fun k hk => by cases hk)
  have hsl := codecSum_walk (sealText body)
  rw [hst] at hsl
  obtain ⟨va, vc, rfl⟩ := ho6.form
  have HBA := Lib.hid (BytesAt.of_own (hst ▸ ho6 : Own w6 w5.drew.heap.size 5 (.slice va (sealText body).length vc) (sealText body).length (bcells (sealText body)))).2
  have HSL := Lib.hid (hsl va vc w6 HBA.out (by omega))
  have hv32 := crcOf_lt (sealText body)
  have HSUM := Lib.hid hsum
  have HB6 := Lib.hid hb6
  have HR6 := Lib.hid hr6
  have HK6 := Lib.hid hk6
  have HAP := Lib.hid hap
  have HFL := Lib.hid hfl
  have HLT := Lib.hid (lt_whole hb6)
  have hw5 := lt_whole hb5
  clear hsl ho6 hsum hb6 hr6 hk6 hap hfl hg6 hst hp1 hp2 hh hb5 hR5 hR4 hB4 hK4 hK5 hk5 hml hseal htx hpre hi hL2 HB HR HK H
  generalize crcOf (sealText body) = V at *
  go_wp2_with fail
  refine wp_canon (by kernel_rfl) (by kernel_rfl) ?_
  go_wp2_with (at_builtin; refine wpList_append_eq rfl _ _ 22 22 rfl rfl rfl HAP.out ?_)
  refine HSL.out.mono ?_
  rintro e w7 ⟨rfl, hbl⟩
  have HB7 := Lib.hid (HB6.out.kept (Kept.of_below (F := []) hbl) (by simp))
  have HR7 := Lib.hid (HR6.out.kept (Kept.of_below (F := []) hbl) (by simp))
  have HK7 := Lib.hid (HK6.out.trans (Kept.of_below (F := []) hbl) (by simp))
  clear hbl HSL HAP
  go_wp2
  refine ⟨rfl, ?_⟩
  go_wp2_with fail
  go_loopw [7, 28] (fun _ v28 wr => ∃ j : Nat, j ≤ 4 ∧ v28 = .int .i64 j ∧ BytesT wr (b + 1) 299 (over L3 3 (leB V j)) ∧ BytesT wr b 299 zsec ∧ Kept [] w wr) (fun _ v28 _ => 4 - (intOf v28).toNat)
  case atStart => exact ⟨0, by omega, rfl, by rw [leB, over_nil]; exact HB7.out, HR7.out, HK7.out⟩
  case round =>
    obtain ⟨j, hj, rfl, hwb, hwr, hwk⟩ := hrel
    have HWB := Lib.hid hwb
    have HWR := Lib.hid hwr
    have HWK := Lib.hid hwk
    clear hwb hwr hwk
    by_cases hj4 : j < 4
    · have hol : (over L3 3 (leB V j)).length = 512 := by rw [over_length (by rw [leB_length, HFL.out]; omega), HFL.out]
      obtain ⟨cv, cz⟩ : ∃ cv, wr.cell? ⟨b + 1, 3 + j, none⟩ = some cv := ⟨_, HWB.out.cell (i := 3 + j) (by omega)⟩
      have fz := frozen_whole HWB.out (3 + j)
      have hlz := lt_whole HWB.out
      have HSN := Lib.hid (show (over L3 3 (leB V j)).set (3 + j) (UInt8.ofNat (V / 256 ^ j % 256)) = over L3 3 (leB V (j + 1)) by
        rw [leB_snoc]
        have := over_snoc (l := L3) (m := leB V j) (at_ := 3) (UInt8.ofNat (V / 256 ^ j % 256)) (by rw [leB_length, HFL.out]; omega)
        rwa [leB_length] at this)
      have HB2 := Lib.hid (HWB.out.set (3 + j) (UInt8.ofNat (V / 256 ^ j % 256)) ((V : Int) / 2 ^ (8 * j) % 256) (byte_shr V j))
      have HR2 := Lib.hid (show BytesT (wr.setCell ⟨b + 1, 3 + j, none⟩ (.int .u8 ((V : Int) / 2 ^ (8 * j) % 256))) b 299 zsec from set_other HWR.out (by show b + 1 ≠ b; omega))
      have HK2 := Lib.hid (HWK.out.setCell ⟨b + 1, 3 + j, none⟩ (.int .u8 ((V : Int) / 2 ^ (8 * j) % 256)) (.inr (by show _ ≤ b + 1; have := HBW.out; omega)))
      clear hol
      go_wp2
      go_roundw
      case rel => exact ⟨j + 1, by omega, by go_num, by rw [← HSN.out]; exact HB2.out, HR2.out, HK2.out⟩
      case measure => simp [intOf]; omega
    · obtain rfl : j = 4 := by omega
      clear hj4
      have HB4 := HWB
      rw [HSUM.out] at HB4
      have hsl := sealSec_length t (body := body) (by rw [← HN.out]; exact hl)
      generalize hSS : sealSec t body = S at *
      have HSS := Lib.hid hSS
      clear hSS
      have h512 : (Tryz.prog.info? 299).map (·.size) = some (bcells S).toArray.size := by rw [size299]; simp [hsl]
      have hz512 : (bcells zsec).toArray.size = (bcells S).toArray.size := by simp [hsl, zsec_length]
      have HEND := Lib.hid (results_cell_row (P := Tryz.prog) (fn := Tryz.f188) (p := 4) (ty := 299) rfl)
      have H512 := Lib.hid h512
      have HZ512 := Lib.hid hz512
      clear h512 hz512 hsl
      go_wp2_with (first | (refine wpList_load_row rfl 299 _ rfl (b + 1) rfl 299 _ (0, 0) _ HB4.out Tryz.underlying299 rfl H512.out ?_) | (refine wpList_store_row rfl 299 _ _ rfl b _ rfl rfl 299 _ HWR.out H512.out HZ512.out (bcells_all S) ?_))
      refine bodyPost_ret (HEND.out _ _ b 299 _ (0, 0) _ rfl (setRow_whole HWR.out) Tryz.underlying299 rfl H512.out) rfl ?_
      exact ⟨by rw [HSS.out], HWK.out.setRow b _ (.inr (by have := HBW.out; omega))⟩
end Go.Proofs.YtikfphojehgpjaaGreatDoor
/- The codec's 'guarded', where nothing is thrown; DecodeSuper of a superblock. -/
namespace Go.Proofs.YtikfphojehgpjaaGreatDoor
open Go.RowKit Vl
set_option linter.unusedVariables false

set_option maxRecDepth 100000 in
set_option maxHeartbeats 1000000 in
theorem cguard_idle (r : Nat) (w : World) :
    CallsD Tryz.prog 145 #[.pointer (some ⟨r, 0, none⟩)] .returning w fun e u' w' => e = .returned (.tuple #[]) ∧ u' = .returning ∧ w' = w := by
  refine callsD_of_wpS Tryz.func145 rfl fun c₀ cs hu => ?_
  apply wpS_seq
  apply wpS_region
  simp [wpOpsS, go_sem, recoverD, hu, Tryz.ntmps145, Exit.thenS]
  refine wpS_of_wp ?_
  go_wp2
  cases c₀
  simp_all [bodyPostS, results, Tryz.results145]

theorem res88 (tmps : Array Value) (w : World) (b : Nat) (v : Value) (h0 : tmps.getD 2 undef = .pointer (some ⟨b, 0, none⟩))
    (c0 : w.cell? ⟨b, 0, none⟩ = some v) : (results Tryz.f88 tmps).run Tryz.prog w = .ok v w := by
  have h0' : tmps[2]?.getD undef = .pointer (some ⟨b, 0, none⟩) := by simpa using h0
  simp [results, Tryz.results88, h0', asAddr, loadVar, c0, go_sem]
theorem cdoor_idle {tmps : Array Value} {R : Ending → World → Prop} {w : World} {b : Nat} {v : Value} (t0 : tmps.getD 2 undef = .pointer (some ⟨b, 0, none⟩))
    (h0 : w.heap[b]? = some (.cells #[v] 24 (0, 0))) (hR : R (.returned v) w) :
    Leaves Tryz.prog Tryz.f88 tmps R [{ target := .fn (.func 145) #[.pointer (some ⟨b, 0, none⟩)], args := #[] }] .returning w := by
  refine leaves_cons (f := 145) (args := #[.pointer (some ⟨b, 0, none⟩)]) (by simp) (by simp [go_sem]) ?_
  refine (cguard_idle b w).mono ?_
  rintro e u' w'' ⟨rfl, rfl, rfl⟩
  exact ⟨_, res88 tmps w'' b _ t0 (cell_whole h0 0), hR⟩

/-- 'guarded' over a closure that throws nothing. -/
def CGuardPost (Q : World → Prop) (w : World) (e : Ending) (w' : World) : Prop := e = .returned (.int .i64 0) ∧ ∃ w1, Q w1 ∧ w' = w1.setCell ⟨w.heap.size, 0, none⟩ (.int .i64 0)
set_option maxRecDepth 100000 in
set_option maxHeartbeats 1000000 in
theorem cguarded_walk (caps : Array Value) (w : World) (Q : World → Prop)
    (h : Calls Tryz.prog 89 caps (w.alloc (.cells #[.int .i64 0] 24)) fun e w' => e = .returned (.tuple #[]) ∧ Q w' ∧ w'.heap[w.heap.size]? = some (.cells #[.int .i64 0] 24 (0, 0))) :
    Calls Tryz.prog 88 #[.func (.func 89) #[] caps] w (CGuardPost Q w) := by
  have hmf : ∀ (fn : Fn) (first cap : Array Value) (w : World), (Instr.makeFunc fn first cap).run Tryz.prog w = .ok (.func fn first cap) w := fun _ _ _ _ => rfl
  have H := Lib.hid h
  clear h
  go_enter_defers Tryz.func88, Tryz.ntmps88
  go_wp2_with fail
  refine H.out.mono ?_
  rintro e w1 ⟨rfl, hq, hr⟩
  have c0 := cell_whole hr 0
  have f0 := frozen_whole hr 0
  simp only [List.getElem?_toArray, List.getElem?_cons_zero] at c0
  have hs := set_whole (i := 0) hr (.int .i64 0)
  have HQ := Lib.hid hq
  have HS := Lib.hid hs
  clear hq hr hs
  go_wp2
  exact cdoor_idle rfl HS.out ⟨rfl, _, HQ.out, rfl⟩

def DecPost (S L N : Nat) (w : World) (e : Ending) (w' : World) : Prop := e = .returned (.tuple #[.agg #[.int .i64 S, .int .i64 L, .int .i64 N], .int .i64 0]) ∧ Kept [] w w'
set_option maxRecDepth 100000 in
set_option maxHeartbeats 2000000 in
theorem decodeSuper_walk (g off c : Nat) (S L N : Nat) (w : World) (hB : BytesAt w (some ⟨g, off, none⟩) (superB S L N)) (hc : 512 ≤ c) (hc2 : c ≤ 1000000000) (hg : geoOk S L N = true) :
    Calls Tryz.prog 42 #[.slice (some ⟨g, off, none⟩) 512 c] w (DecPost S L N w) := by
  have hmf : ∀ (fn : Fn) (first cap : Array Value) (w : World), (Instr.makeFunc fn first cap).run Tryz.prog w = .ok (.func fn first cap) w := fun _ _ _ _ => rfl
  have HB := Lib.hid hB
  have HG := Lib.hid hg
  clear hB hg
  go_enter Tryz.func42, Tryz.ntmps42
  go_upto_region 4 with fail
  obtain ⟨b, hb⟩ : ∃ b, b = w.heap.size := ⟨_, rfl⟩
  have h0 : (((w.alloc (.cells #[.slice (some ⟨g, off, none⟩) 512 c] 22)).alloc (.cells #[.int .i64 0, .int .i64 0, .int .i64 0] 53)).alloc (.cells #[.int .i64 0, .int .i64 0, .int .i64 0] 53)).heap[b]? = some (.cells #[.slice (some ⟨g, off, none⟩) 512 c] 22 (0, 0)) := by
    rw [hb]; exact alloc_whole (alloc_whole (heap_alloc_new w _))
  have h1 : (((w.alloc (.cells #[.slice (some ⟨g, off, none⟩) 512 c] 22)).alloc (.cells #[.int .i64 0, .int .i64 0, .int .i64 0] 53)).alloc (.cells #[.int .i64 0, .int .i64 0, .int .i64 0] 53)).heap[b + 1]? = some (.cells #[.int .i64 0, .int .i64 0, .int .i64 0] 53 (0, 0)) := by
    refine alloc_whole ?_
    rw [hb, ← size_alloc w (.cells #[.slice (some ⟨g, off, none⟩) 512 c] 22)]; exact heap_alloc_new _ _
  have h2 : (((w.alloc (.cells #[.slice (some ⟨g, off, none⟩) 512 c] 22)).alloc (.cells #[.int .i64 0, .int .i64 0, .int .i64 0] 53)).alloc (.cells #[.int .i64 0, .int .i64 0, .int .i64 0] 53)).heap[b + 1 + 1]? = some (.cells #[.int .i64 0, .int .i64 0, .int .i64 0] 53 (0, 0)) := by
    rw [hb, ← size_alloc w (.cells #[.slice (some ⟨g, off, none⟩) 512 c] 22), ← size_alloc (w.alloc (.cells #[.slice (some ⟨g, off, none⟩) 512 c] 22)) (.cells #[.int .i64 0, .int .i64 0, .int .i64 0] 53)]; exact heap_alloc_new _ _
  have hsz : (((w.alloc (.cells #[.slice (some ⟨g, off, none⟩) 512 c] 22)).alloc (.cells #[.int .i64 0, .int .i64 0, .int .i64 0] 53)).alloc (.cells #[.int .i64 0, .int .i64 0, .int .i64 0] 53)).heap.size = b + 3 := by rw [size_alloc, size_alloc, size_alloc, hb]
  have hk := (((Kept.refl [] w).alloc (.cells #[.slice (some ⟨g, off, none⟩) 512 c] 22)).alloc (.cells #[.int .i64 0, .int .i64 0, .int .i64 0] 53)).alloc (.cells #[.int .i64 0, .int .i64 0, .int .i64 0] 53)
  rw [← hb]
  generalize (((w.alloc (.cells #[.slice (some ⟨g, off, none⟩) 512 c] 22)).alloc (.cells #[.int .i64 0, .int .i64 0, .int .i64 0] 53)).alloc (.cells #[.int .i64 0, .int .i64 0, .int .i64 0] 53)) = w3 at *
  have hgw : g < b := by
    obtain ⟨g', o', e1, h1, _⟩ := HB.out 0 (by rw [superB_length]; omega)
    injection e1 with e2; injection e2 with e3 _ _
    subst e3; rw [hb]; exact h1
  have HK3 := Lib.hid hk
  have HH1 := Lib.hid h1
  have HD := Lib.hid (cguarded_walk #[.pointer (some ⟨b, 0, none⟩), .pointer (some ⟨b + 1 + 1, 0, none⟩)] w3 (fun w' => w'.heap[b + 1 + 1]? = some (.cells #[.int .i64 S, .int .i64 L, .int .i64 N] 53 (0, 0)) ∧ Kept [b + 1 + 1] w3 w') ((dec1_walk b (b + 1 + 1) g off c S L N (w3.alloc (.cells #[.int .i64 0] 24)) (alloc_whole h0) (alloc_whole h2) (HB.out.below (HK3.out.below.alloc (by omega) _)) hc hc2 HG.out (by omega) (by omega)).mono (by
    rintro e w' ⟨rfl, h5, h6⟩
    refine ⟨rfl, ⟨h5, (((Kept.refl [] w3).alloc _).mono (by simp)).trans h6 (by simp)⟩, ?_⟩
    exact h6.keep (heap_alloc_new w3 _) (by simp; omega))))
  have hlt3 : b + 3 = w3.heap.size := hsz.symm
  have HB3 := Lib.hid hb
  clear h0 h1 h2 hk hsz hb
  go_wp2_with fail
  refine HD.out.mono ?_
  rintro e w4 ⟨rfl, w5, ⟨h5, h6⟩, rfl⟩
  have hw6 : (w5.setCell ⟨w3.heap.size, 0, none⟩ (.int .i64 0)).heap[b + 1 + 1]? = some (.cells #[.int .i64 S, .int .i64 L, .int .i64 N] 53 (0, 0)) := set_other h5 (by show w3.heap.size ≠ _; omega)
  have hr6 : (w5.setCell ⟨w3.heap.size, 0, none⟩ (.int .i64 0)).heap[b + 1]? = some (.cells #[.int .i64 0, .int .i64 0, .int .i64 0] 53 (0, 0)) := set_other (h6.keep HH1.out (by simp)) (by show w3.heap.size ≠ _; omega)
  have HK6 := Lib.hid ((HK3.out.trans h6 (by simp; have := HB3.out; omega)).setCell ⟨w3.heap.size, 0, none⟩ (.int .i64 0) (.inr (by show w.heap.size ≤ w3.heap.size; have := HB3.out; omega)))
  clear h5 h6 HD
  generalize w5.setCell ⟨w3.heap.size, 0, none⟩ (.int .i64 0) = w6 at *
  have HR6 := Lib.hid hr6
  have s0 := cell_whole hw6 0
  have s1 := cell_whole hw6 1
  have s2 := cell_whole hw6 2
  have f0 := frozen_whole hr6 0
  have f1 := frozen_whole hr6 1
  have f2 := frozen_whole hr6 2
  have r0 := cell_whole hr6 0
  have r1 := cell_whole hr6 1
  have r2 := cell_whole hr6 2
  have hl6 := lt_whole hr6
  simp only [List.getElem?_toArray, List.getElem?_cons_zero, List.getElem?_cons_succ] at s0 s1 s2 r0 r1 r2
  clear hw6 hr6
  go_wp2
  have hs6 := set_whole (i := 2) (set_whole (i := 1) (set_whole (i := 0) HR6.out (.int .i64 S)) (.int .i64 L)) (.int .i64 N)
  refine bodyPost_ret (results_row_tmp (P := Tryz.prog) (p := 2) (u := 3) (ty := 53) rfl _ _ (b + 1) 53 _ (0, 0) _ rfl hs6 Tryz.underlying53 rfl (by kernel_rfl)) rfl ?_
  refine ⟨rfl, ?_⟩
  have hb := HB3.out
  exact (((HK6.out.setCell ⟨b + 1, 0, none⟩ _ (.inr (by show w.heap.size ≤ b + 1; omega))).setCell ⟨b + 1, 1, none⟩ _ (.inr (by show w.heap.size ≤ b + 1; omega))).setCell ⟨b + 1, 2, none⟩ _ (.inr (by show w.heap.size ≤ b + 1; omega)))
end Go.Proofs.YtikfphojehgpjaaGreatDoor
