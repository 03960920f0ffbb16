/- strings.Builder, made by the call itself in block b, its bytes laid from block B on: copyCheck, WriteByte, WriteString. -/
import Derived.Test.YtheflheeaiopfaaDoorRefWords
import Derived.Lib.Builder
import Derived.Test.YtheflheeaiopfaaDoorShelf
namespace Go.Proofs.YtheflheeaiopfaaDoor
open Go.RowKit Vl
set_option linter.unusedVariables false

structure BldAt (w : World) (b B : Nat) (p v : Value) (l : List UInt8) : Prop where
  lt : b < B
  le : B ≤ w.heap.size
  heap : w.heap[b]? = some (.cells #[p, v] 52 (0, 0))
  buf : Own w B 5 v l.length (bcells l)

def Bld (w : World) (b B : Nat) (l : List UInt8) : Prop := ∃ p v, (p = .pointer none ∨ p = .pointer (some ⟨b, 0, none⟩)) ∧ BldAt w b B p v l
def BldUsed (w : World) (b B : Nat) (l : List UInt8) : Prop := ∃ v, BldAt w b B (.pointer (some ⟨b, 0, none⟩)) v l

theorem BldUsed.bld {w : World} {b B : Nat} {l : List UInt8} (h : BldUsed w b B l) : Bld w b B l := let ⟨v, h⟩ := h; ⟨_, v, .inr rfl, h⟩

theorem info52 : (Tryd.prog.info? 52).map (fun j => j.size) = some 2 := by kernel_rfl
theorem lies52 : liesAt Tryd.prog Tryd.prog.depth 52 (2 / Tryd.prog.cellsOf 52) 0 52 1 = true := by kernel_rfl
theorem und50 : Tryd.prog.underlying 50 = some (.pointer 52) := by kernel_rfl
theorem und69 : Tryd.prog.underlying 69 = some .unsafePointer := by kernel_rfl

theorem copyCheck_walk (b B : Nat) (l : List UInt8) (w : World) (h : Bld w b B l) :
    Calls Tryd.prog 32 #[.pointer (some ⟨b, 0, none⟩)] w fun e w' => e = .returned (.tuple #[]) ∧ BldUsed w' b B l ∧ Out b B w w' := by
  obtain ⟨j, hj, hjs⟩ := Option.map_eq_some_iff.1 info52
  obtain ⟨p, v, hp, h⟩ := h
  have c0 := cell_whole h.heap 0
  have f0 := frozen_whole h.heap 0
  have hsh : w.shape? b = some (52, 2) := by simp [World.shape?, h.heap]
  simp only [List.getElem?_toArray, List.getElem?_cons_zero] at c0
  rcases hp with rfl | rfl
  · have H := Lib.hid h
    clear h
    go_enter Tryd.func32, Tryd.ntmps32
    go_wp2
    rw [Lib.run_to_unsafe w ⟨b, 0, none⟩ und50 und69 hj (by rw [hjs]; decide) hsh (Nat.zero_lt_succ 1)]
    simp only [Result.andThen]
    rw [Oper.upon_value]
    go_wp2
    rw [run_callFunc_extern Tryd.func33 (by kernel_rfl) (by kernel_rfl) (by kernel_rfl) (e := Extern.AbiNoEscape.same) (by kernel_rfl)]
    rw [Lib.run_noEscape]
    simp only [Result.andThen]
    rw [Oper.upon_value]
    go_wp2
    rw [Lib.run_from_unsafe w ⟨b, 0, none⟩ und69 und50 hj hsh lies52]
    simp only [Result.andThen]
    rw [Oper.upon_value]
    go_wp2
    go_end0
    refine ⟨rfl, ⟨v, H.out.lt, le_set H.out.le _ _, ?_, H.out.buf.setCell H.out.lt⟩, (Out.refl _ _ _).setCell _ _ (.inl rfl)⟩
    rw [set_whole (i := 0) H.out.heap]; rfl
  · have H := Lib.hid h
    clear h
    go_enter Tryd.func32, Tryd.ntmps32
    go_wp2
    rw [Lib.run_neq_ptr_same w _ und50 hj]
    go_wp2
    go_end0
    exact ⟨rfl, ⟨v, H.out⟩, Out.refl _ _ _⟩

/-- Behind an append to the bytes. -/
theorem bld_push {w w1 : World} {b B : Nat} {l m : List UInt8} {a : Option Addr} {c : Nat} {v' : Value} (hA : BldAt w b B (.pointer (some ⟨b, 0, none⟩)) (.slice a l.length c) l)
    (h1 : w1.ownsRow B 5 1 v' (l.length + m.length) (bcells l ++ bcells m)) (hg : w.grownBy w1 (Value.slice a l.length c).ownBlock) :
    (∃ a d, v' = .slice a (l.length + m.length) d) ∧ (∃ u, w1.cell? ⟨b, 1, none⟩ = some u) ∧ w1.frozen? ⟨b, 1, none⟩ = false ∧
    BldUsed (w1.setCell ⟨b, 1, none⟩ v') b B (l ++ m) ∧ Out b B w (w1.setCell ⟨b, 1, none⟩ v') := by
  have hb : ∀ k, (Value.slice a l.length c).ownBlock = some k → B ≤ k := fun k hk => (hA.buf.block hk).1
  have ho : Own w1 B 5 v' (l ++ m).length (bcells (l ++ m)) := by
    rw [bcells_append, List.length_append]; exact h1
  have hh1 : w1.heap[b]? = some _ := grown_whole hg hA.heap (by intro e; have := hb _ e; have := hA.lt; omega)
  have hB1 := Nat.le_trans hA.le hg.size
  refine ⟨?_, ⟨_, cell_whole hh1 1⟩, frozen_whole hh1 1, ⟨v', hA.lt, le_set hB1 _ _, ?_, ho.setCell hA.lt⟩, ((Out.refl b B w).grown hg hA.le hb).setCell _ _ (.inl rfl)⟩
  · obtain ⟨a', d, e⟩ := ho.form
    exact ⟨a', d, by rw [e]; simp⟩
  · rw [set_whole (i := 1) hh1]; rfl

theorem writeByte_walk (b B : Nat) (l : List UInt8) (x : UInt8) (w : World) (h : Bld w b B l) (hl : l.length < 1000000) :
    Calls Tryd.prog 20 #[.pointer (some ⟨b, 0, none⟩), .int .u8 x.toNat] w fun e w' => e = .returned .nilIface ∧ Bld w' b B (l ++ [x]) ∧ Out b B w w' := by
  obtain ⟨i0, hi, hz0, hz1, hz2⟩ := info_parts info5
  have HC := Lib.hid (copyCheck_walk b B l w h)
  clear h
  go_enter Tryd.func20, Tryd.ntmps20
  go_wp2_with fail
  refine HC.out.mono ?_
  rintro e w1 ⟨rfl, ⟨v, hA⟩, ho⟩
  obtain ⟨a, c, rfl⟩ := hA.buf.form
  have c1 := cell_whole hA.heap 1
  simp only [List.getElem?_toArray, List.getElem?_cons_succ, List.getElem?_cons_zero] at c1
  have HA := Lib.hid hA
  have HO := Lib.hid ho
  clear hA ho
  go_wp2_with (at_builtin; refine wpList_append_own _ rfl _ _ 33 rfl B 5 i0 (.int .u8 0) 1 1 Tryd.underlying33 hi hz0 hz1 hz2 rfl (by decide) _ _ _ rfl (HA.out.buf.alloc _) ⟨w1.heap.size, 0, none⟩ 1 1 [.int .u8 x.toNat] rfl rfl (new_one _ _ _ _ rfl) (one_cell rfl) (max_ok hl) (byt_ok1 hl) (le_alloc HA.out.le _) ?_)
  intro v' w2 h1 hg _
  have hA' : BldAt (w1.alloc (.cells #[.int .u8 x.toNat] 5)) b B (.pointer (some ⟨b, 0, none⟩)) (.slice a l.length c) l := ⟨HA.out.lt, le_alloc HA.out.le _, alloc_whole HA.out.heap, HA.out.buf.alloc _⟩
  obtain ⟨⟨a1, d1, rfl⟩, ⟨u1, c1'⟩, f1', hr, ho⟩ := bld_push (m := [x]) hA' h1 hg
  have HR := Lib.hid hr
  have HO2 := Lib.hid ho
  clear hr ho c1
  go_wp2
  go_ret
  exact ⟨rfl, HR.out.bld, HO.out.trans (((Out.refl _ _ _).alloc _ HA.out.le).trans HO2.out)⟩

theorem writeString_walk (b B : Nat) (l : List UInt8) (s : ByteArray) (w : World) (h : Bld w b B l) (hl : l.length + s.size < 1000000) :
    Calls Tryd.prog 22 #[.pointer (some ⟨b, 0, none⟩), .string s] w fun e w' => e = .returned (.tuple #[.int .i64 s.size, .nilIface]) ∧ Bld w' b B (l ++ bytes s) ∧ Out b B w w' := by
  obtain ⟨i0, hi, hz0, hz1, hz2⟩ := info_parts info5
  have HC := Lib.hid (copyCheck_walk b B l w h)
  clear h
  go_enter Tryd.func22, Tryd.ntmps22
  go_wp2_with fail
  refine HC.out.mono ?_
  rintro e w1 ⟨rfl, ⟨v, hA⟩, ho⟩
  obtain ⟨a, c, rfl⟩ := hA.buf.form
  have c1 := cell_whole hA.heap 1
  simp only [List.getElem?_toArray, List.getElem?_cons_succ, List.getElem?_cons_zero] at c1
  have HA := Lib.hid hA
  have HO := Lib.hid ho
  clear hA ho
  go_wp2_with (at_builtin; refine Lib.wpList_append_own_string _ rfl _ _ 33 9 rfl B 5 i0 Tryd.underlying33 Tryd.underlying9 hi hz0 hz1 hz2 _ l.length _ rfl HA.out.buf s rfl (by unfold maxLen; omega) (by omega) HA.out.le ?_)
  intro v' w2 h1 hg _
  rw [strCells_eq] at h1
  have h1' : w2.ownsRow B 5 1 v' (l.length + (bytes s).length) (bcells l ++ bcells (bytes s)) := by rw [bytes_len]; exact h1
  obtain ⟨⟨a1, d1, rfl⟩, ⟨u1, c1'⟩, f1', hr, ho⟩ := bld_push (m := bytes s) HA.out h1' hg
  have HR := Lib.hid hr
  have HO2 := Lib.hid ho
  clear hr ho c1
  go_wp2
  go_ret2
  exact ⟨rfl, HR.out.bld, HO.out.trans HO2.out⟩

theorem Bld.isBuilder {w : World} {b B : Nat} {l : List UInt8} (h : Bld w b B l) : Lib.IsBuilder 52 5 b b (Lib.byteCells l) w := by
  obtain ⟨p, v, hp, h⟩ := h
  have hown : w.ownsRow b 5 1 v (Lib.byteCells l).length (Lib.byteCells l) := by
    rw [Lib.byteCells_length]
    exact Own.down h.buf (by have := h.lt; omega)
  have hne : v.ownBlock ≠ some b := fun e => by
    have := (h.buf.block e).1
    have := h.lt
    omega
  rcases hp with rfl | rfl
  · exact .inl ⟨Nat.le_refl _, v, h.heap, hown, hne⟩
  · exact .inr ⟨Nat.le_refl _, v, h.heap, hown, hne⟩

theorem string_walk (b B : Nat) (l : List UInt8) (w : World) (h : Bld w b B l) :
    Calls Tryd.prog 23 #[.pointer (some ⟨b, 0, none⟩)] w fun e w' => e = .returned (.string (strOf l)) ∧ Below b w w' := by
  have hbw : b ≤ w.heap.size := by obtain ⟨p, v, _, h⟩ := h; have := h.lt; have := h.le; omega
  exact Tryd.Builder_String_any b b l w h.isBuilder hbw
end Go.Proofs.YtheflheeaiopfaaDoor
