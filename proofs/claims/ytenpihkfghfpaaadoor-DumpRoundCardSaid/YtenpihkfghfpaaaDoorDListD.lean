/- dump's List. -/
import Derived.Test.YtenpihkfghfpaaaDoorDParseW
namespace Go.Proofs.YtenpihkfghfpaaaDoor
open Go.RowKit Vl Go.Maps
set_option linter.unusedVariables false

theorem loopD_size (N : Nat) (F : Nat) (acc : List Itm) (l : List UInt8) (hN : N ≤ 4194304) (hl : l.length ≤ N) (ha : ∀ x ∈ acc, SizeItm x) {L : List Itm} {m : List UInt8} (h : loopD F acc l = some (L, m)) :
    L.length ≤ acc.length + l.length ∧ ∀ x ∈ L, SizeItm x := by
  induction F generalizing acc l with
  | zero => rw [loopD] at h; cases h
  | succ F ih =>
    rw [loopD] at h
    cases h1 : numB 1 l with
    | none => rw [h1] at h; cases h
    | some x1 =>
      obtain ⟨k, l1⟩ := x1
      have g1 := numB_len h1
      rw [h1] at h
      simp only at h
      split at h
      · cases h
        exact ⟨by omega, ha⟩
      · cases h2 : itemD k l1 with
        | none => rw [h2] at h; cases h
        | some x2 =>
          obtain ⟨x, l2⟩ := x2
          obtain ⟨q0, q1, q2, q3, q4, q5, q6, q7⟩ := itemD_size h2
          rw [h2] at h
          simp only at h
          have hx : SizeItm x := by
            refine ⟨?_, q6, by unfold maxLen; omega, by unfold maxLen; omega, by omega, by omega, fun r hr => ?_⟩
            · rw [q1]; unfold I64; omega
            · have := q7 r hr; unfold I64; omega
          obtain ⟨i1, i2⟩ := ih _ _ (by omega) (fun y hy => by
            rcases List.mem_append.1 hy with hy | hy
            · exact ha y hy
            · simp at hy; subst hy; exact hx) h
          rw [List.length_append] at i1
          simp only [List.length_cons, List.length_nil] at i1
          exact ⟨by omega, i2⟩
theorem parseD_size {a : List UInt8} {L : List Itm} (h : parseD a = some L) (ha : a.length ≤ 4194304) : SizeAll L := by
  unfold parseD at h
  cases h1 : takeB 8 a with
  | none => rw [h1] at h; cases h
  | some x1 =>
    obtain ⟨m, l1⟩ := x1
    have g1 := takeB_len h1
    rw [h1] at h
    simp only at h
    split at h
    · cases h2 : loopD (l1.length + 1) [] l1 with
      | none => rw [h2] at h; cases h
      | some x2 =>
        obtain ⟨K, l2⟩ := x2
        rw [h2] at h
        simp only at h
        have g2 := loopD_size 4194304 _ _ _ (Nat.le_refl _) (by omega) (by simp) h2
        cases h3 : takeB 8 l2 with
        | none => rw [h3] at h; cases h
        | some x3 =>
          rw [h3] at h
          simp only at h
          split at h
          · cases h
            exact ⟨by have := g2.1; simp only [List.length_nil] at this; omega, g2.2⟩
          · cases h
    · cases h

theorem nums_str (x : List UInt8) : strOfNums (x.map fun c => (c.toNat : Int)) = strOf x := by
  have e : Lib.bytesOf (x.map fun c => (c.toNat : Int)) = x := by
    unfold Lib.bytesOf
    rw [List.map_map]
    conv => rhs; rw [← List.map_id x]
    apply List.map_congr_left
    intro c _
    simp
  have h := Lib.strOfNums_toList (x.map fun c => (c.toNat : Int))
  rw [e, ByteArray.toList_eq] at h
  conv => rhs; rw [← h]
  rfl
theorem eq_walk (x y : List UInt8) (a1 a2 : Option Addr) (c d : Nat) (w : World) (h1 : BytesAt w a1 x) (h2 : BytesAt w a2 y) : Calls Tryd.prog 30 #[.slice a1 x.length c, .slice a2 y.length d] w fun e w' => e = .returned (.bool (x == y)) ∧ w' = w := by
  have e : ∀ x : List UInt8, Lib.bytesOf (x.map fun c => (c.toNat : Int)) = x := fun x => by
    unfold Lib.bytesOf
    rw [List.map_map]
    conv => rhs; rw [← List.map_id x]
    apply List.map_congr_left
    intro c _
    simp
  have := Tryd.bytes_Equal (.slice a1 x.length c) (.slice a2 y.length d) (x.map fun c => (c.toNat : Int)) (y.map fun c => (c.toNat : Int)) w (by rw [nums_str]; exact bytes_conv h1 c) (by rw [nums_str]; exact bytes_conv h2 d)
  rwa [e, e] at this

/-- What List hands back. -/
def ListPost (r : List Itm × Nat) (w : World) (e : Ending) (w' : World) : Prop :=
  ∃ v, e = .returned (.tuple #[v, .int .i64 r.2]) ∧ Below w.heap.size w w' ∧ ∃ ds, ItemsO w' w.heap.size v r.1 ds
theorem list_bad {r : List Itm × Nat} {n : Nat} (h : r = ([], n)) {w w' : World} (hb : Below w.heap.size w w') : ListPost r w (.returned (.tuple #[.slice none 0 0, .int .i64 n])) w' := by
  subst h
  exact ⟨_, rfl, hb, [], ItemsO.nil _ _⟩

set_option maxRecDepth 100000 in
set_option maxHeartbeats 4000000 in
theorem list_walk (l : List UInt8) (a : Option Addr) (c : Nat) (w : World) (h : BytesAt w a l) (hc : l.length ≤ c) (hl : l.length ≤ 140737488351232) (hM : MaxAt w) : Calls Tryd.prog 15 #[.slice a l.length c] w (ListPost (listOf (parseD l) l) w) := by
  by_cases hlong : 4194304 < l.length
  · have HP := Lib.hid (show listOf (parseD l) l = ([], 7) by unfold listOf; rw [if_pos hlong])
    have b1 : decide ((4194304 : Int) < (l.length : Int)) = true := decide_eq_true (by omega)
    clear hlong
    go_enter Tryd.func15, Tryd.ntmps15
    go_wp2
    go_ret2
    exact list_bad HP.out (Below.refl _ _)
  · have b1 : decide ((4194304 : Int) < (l.length : Int)) = false := decide_eq_false (by omega)
    have hl2 : l.length ≤ 4194304 := by omega
    have HN := Lib.hid (parse_walk l a c w h hl2 hc)
    have H := Lib.hid h
    have HM := Lib.hid hM
    have HLG := Lib.hid hlong
    clear h hM hlong
    cases hp : parseD l with
    | none =>
      have HP := Lib.hid (show listOf none l = ([], 150) by unfold listOf; rw [if_neg HLG.out])
      have HPN := Lib.hid hp
      clear hp
      go_enter Tryd.func15, Tryd.ntmps15
      go_wp2_with fail
      refine HN.out.mono ?_
      rintro e w1 ⟨v, rfl, hb1, _⟩
      rw [HPN.out]
      have HB1 := Lib.hid hb1
      clear hb1
      go_wp2
      go_ret2
      exact list_bad HP.out HB1.out
    | some L =>
      have HPL := Lib.hid hp
      have HSZ := Lib.hid (parseD_size hp hl2)
      have hLn := HSZ.out.1
      clear hp
      go_enter Tryd.func15, Tryd.ntmps15
      go_wp2_with fail
      refine HN.out.mono ?_
      rintro e w1 ⟨v, rfl, hb1, hit⟩
      obtain ⟨ds, hio⟩ := hit L HPL.out
      rw [HPL.out]
      obtain ⟨ia, ic, rfl⟩ := row_form hio.row
      have HB1 := Lib.hid hb1
      have HIO := Lib.hid hio
      have HPK := Lib.hid (pack_walk L ia ic w1 (hio.at).2 HSZ.out (HM.out.below hb1))
      clear hb1 hit hio HN
      go_wp2_with fail
      refine HPK.out.mono ?_
      rintro e w2 ⟨pv, rfl, hown, hb2⟩
      obtain ⟨pa, pc, rfl⟩ := hown.form
      have HO := Lib.hid hown
      have HB2 := Lib.hid (HB1.out.trans (hb2.mono HB1.out.size))
      have HIO2 := Lib.hid (HIO.out.below hb2)
      clear hown hb2 HPK
      have HBY := Lib.hid (BytesAt.of_own HO.out).2
      have HBL := Lib.hid (H.out.below HB2.out)
      cases hs : packSpec L with
      | mk pb pe =>
        rw [hs] at HO HBY
        simp only at HO HBY ⊢
        by_cases he : pe = 0
        · subst he
          have HEQ := Lib.hid (eq_walk pb l pa a pc c w2 HBY.out HBL.out)
          by_cases hx : pb = l
          · have HP := Lib.hid (show listOf (some L) l = (L, 0) by unfold listOf; rw [if_neg HLG.out]; simp only; rw [if_pos (by rw [hs, hx])])
            rw [show (pb == l) = true from beq_iff_eq.2 hx] at HEQ
            clear hs hx
            go_wp2_with fail
            refine HEQ.out.mono ?_
            rintro e w3 ⟨rfl, rfl⟩
            go_wp2
            go_ret2
            exact ⟨_, by rw [HP.out]; rfl, HB2.out, ds, by rw [HP.out]; exact HIO2.out⟩
          · have HP := Lib.hid (show listOf (some L) l = ([], 150) by unfold listOf; rw [if_neg HLG.out]; simp only; rw [if_neg (fun e => hx (by rw [hs] at e; cases e; rfl))])
            rw [beq_eq_false_iff_ne.2 hx] at HEQ
            clear hs hx
            go_wp2_with fail
            refine HEQ.out.mono ?_
            rintro e w3 ⟨rfl, rfl⟩
            go_wp2
            go_ret2
            exact list_bad HP.out HB2.out
        · have q1 : ((pe : Int) != 0) = true := by rw [bne_iff_ne]; omega
          have HP := Lib.hid (show listOf (some L) l = ([], 150) by unfold listOf; rw [if_neg HLG.out]; simp only; rw [if_neg (fun e => he (by rw [hs] at e; cases e; rfl))])
          clear he hs
          go_wp2
          go_ret2
          exact list_bad HP.out HB2.out
end Go.Proofs.YtenpihkfghfpaaaDoor
