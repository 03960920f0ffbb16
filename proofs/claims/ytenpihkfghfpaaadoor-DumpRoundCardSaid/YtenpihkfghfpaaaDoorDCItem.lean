/- The reference's cursor: item. -/
import Derived.Test.YtenpihkfghfpaaaDoorDCur
import Derived.Test.YtenpihkfghfpaaaDoorDListD
import Derived.Deep.CutRange
namespace Go.Proofs.YtenpihkfghfpaaaDoor
open Go.RowKit Vl Go.Maps
set_option linter.unusedVariables false

theorem CurAt.alloc {W0 w : World} {p : Nat} {l : List UInt8} {ok : Bool} (h : CurAt W0 w p l ok) (hB : W0.heap.size ≤ w.heap.size) (o : Obj) : CurAt W0 (w.alloc o) p l ok :=
  h.keep (Below.heap_alloc w o p h.lt) (h.low.alloc hB _)
theorem CurAt.drew {W0 w : World} {p : Nat} {l : List UInt8} {ok : Bool} (h : CurAt W0 w p l ok) : CurAt W0 w.drew p l ok := h.keep rfl h.low.drew
theorem CurAt.setCell {W0 w : World} {p b i : Nat} {l : List UInt8} {ok : Bool} (h : CurAt W0 w p l ok) (hb : b ≠ p) (hB : W0.heap.size ≤ b) (v : Value) : CurAt W0 (w.setCell ⟨b, i, none⟩ v) p l ok :=
  h.keep (Below.heap_setCell _ _ _ _ (Ne.symm hb)) (h.low.setCell hB _)
theorem CurAt.grown {W0 w w' : World} {p B s n t : Nat} {v : Value} {l : List UInt8} {ok : Bool} {xs : List Value} (h : CurAt W0 w p l ok) (hg : w.grownBy w' v.ownBlock) (ho : w.ownsRow B t s v n xs) (ht : t ≠ 79) (hB : W0.heap.size ≤ B) (hB2 : W0.heap.size ≤ w.heap.size) : CurAt W0 w' p l ok := by
  obtain ⟨x, y, hx⟩ := h.blk
  exact h.keep (hg.block p h.lt (fun e => row_ne ho hx ht e.symm)) (h.low.grown hg hB2 (fun k hk => Nat.le_trans hB (row_blk ho hk).1))
theorem row_cur {W0 w w' : World} {p B e s n : Nat} {l : List UInt8} {ok : Bool} {v : Value} {xs : List Value} (h : w.ownsRow B e s v n xs) (hT : CurAt W0 w p l ok) (he : e ≠ 79) (ho : Out p w.heap.size w w') : w'.ownsRow B e s v n xs :=
  row_keep h fun k cs hk _ => ho.block k (lt_whole hk) (fun e' => by
    obtain ⟨a, c, h1⟩ := hT.blk
    rw [e', h1] at hk
    simp at hk
    exact he hk.2.symm)

theorem runsS_step {n i : Nat} {all : Int} {rs : List (Int × Int)} {l l6 l7 : List UInt8} {f t : Nat} {ok6 ok7 : Bool} (h : i < n) (h1 : numS 4 l true = (f, l6, ok6)) (h2 : numS 4 l6 ok6 = (t, l7, ok7)) :
    runsS (n - i) all rs l true = runsS (n - (i + 1)) (if f < t then all + t - f else all) (rs ++ [((f : Int), (t : Int))]) l7 ok7 := by
  rw [show n - i = (n - (i + 1)) + 1 by omega, runsS]
  simp only [h1, h2, if_true]
theorem runsS_end {n i : Nat} {all : Int} {rs : List (Int × Int)} {l : List UInt8} {ok : Bool} (h : i = n ∨ ok = false) : runsS (n - i) all rs l ok = (all, rs, l, ok) := by
  rcases h with rfl | rfl
  · rw [Nat.sub_self, runsS]
  · exact runsS_false _ _ _ _

theorem cnum_is {W0 w : World} {p n : Nat} {l l' : List UInt8} {ok ok' : Bool} {v : Nat} (N : Int) (hN : N = (n : Int)) (hn1 : 1 ≤ n) (hn : n ≤ 8) (h : CurAt W0 w p l ok) (hs : numS n l ok = (v, l', ok')) :
    Calls Tryd.prog 44 #[.pointer (some ⟨p, 0, none⟩), .int .i64 N] w fun e w' => e = .returned (.int .i64 v) ∧ CurAt W0 w' p l' ok' ∧ Out p w.heap.size w w' := by
  subst hN
  have := cnum_walk W0 p l ok n hn1 hn w h
  rwa [hs] at this
theorem ctake_is {W0 w : World} {p n : Nat} {l l' d : List UInt8} {ok ok' : Bool} (N : Int) (hN : N = (n : Int)) (hn : n < 4611686018427388160) (h : CurAt W0 w p l ok) (hs : takeS n l ok = (d, l', ok')) :
    Calls Tryd.prog 43 #[.pointer (some ⟨p, 0, none⟩), .int .i64 N] w fun e w' => ∃ v, e = .returned v ∧ Own w' w.heap.size 5 v d.length (bcells d) ∧ CurAt W0 w' p l' ok' ∧ Out p w.heap.size w w' := by
  subst hN
  have := ctake_walk W0 p l ok n hn w h
  rwa [hs] at this
theorem numS_at {n : Nat} {l l' : List UInt8} {ok ok' : Bool} {v : Nat} (h : numS n l ok = (v, l', ok')) : l'.length ≤ l.length ∧ v < 4611686018427388160 ∧ v < 256 ^ n ∧ (ok' = true → l'.length + n = l.length ∧ ok = true) := by
  have h1 := numS_len n l ok
  have h2 := @numS_true n l ok
  rw [h] at h1 h2
  exact ⟨h1.1, h1.2.1, h1.2.2, h2⟩
theorem takeS_at {n : Nat} {l l' d : List UInt8} {ok ok' : Bool} (h : takeS n l ok = (d, l', ok')) : l'.length ≤ l.length ∧ d.length ≤ l.length := by
  have h1 := takeS_len n l ok
  rw [h] at h1
  exact h1

def sixW (w : World) (b : Nat) (v0 v1 v2 v3 v4 v5 : Value) : World := (((((w.setCell ⟨b, 0, none⟩ v0).setCell ⟨b, 1, none⟩ v1).setCell ⟨b, 2, none⟩ v2).setCell ⟨b, 3, none⟩ v3).setCell ⟨b, 4, none⟩ v4).setCell ⟨b, 5, none⟩ v5
theorem citem_end {W0 w w1 wz : World} {p b : Nat} {y : Itm} {m : List UInt8} {o : Bool} {rv dv : Value} {cs : Array Value} {fr : Nat × Nat} (HO1 : Out p w.heap.size w w1) (HIO : ItemO wz b y rv dv) (HT : CurAt W0 wz p m o) (HO : Out p b w1 wz)
    (hR : wz.heap[w.heap.size]? = some (.cells cs 47 fr)) (hwp : w.heap.size ≠ p) (hW0 : W0.heap.size ≤ w.heap.size) (hb : w.heap.size ≤ b) (v0 v1 v2 v3 v4 v5 : Value) :
    ItemO (sixW wz w.heap.size v0 v1 v2 v3 v4 v5) w.heap.size y rv dv ∧ CurAt W0 (sixW wz w.heap.size v0 v1 v2 v3 v4 v5) p m o ∧ Out p w.heap.size w (sixW wz w.heap.size v0 v1 v2 v3 v4 v5) := by
  unfold sixW
  refine ⟨?_, ?_, ?_⟩
  · refine (HIO.mono hb).keep fun k cs t hk hB ht => ?_
    have hne : k ≠ w.heap.size := fun e => by
      rw [e, hR] at hk
      simp at hk
      rcases ht with rfl | rfl <;> simp at hk
    rw [Below.heap_setCell _ _ _ _ hne, Below.heap_setCell _ _ _ _ hne, Below.heap_setCell _ _ _ _ hne, Below.heap_setCell _ _ _ _ hne, Below.heap_setCell _ _ _ _ hne, Below.heap_setCell _ _ _ _ hne]
  · exact (((((HT.setCell hwp hW0 _).setCell hwp hW0 _).setCell hwp hW0 _).setCell hwp hW0 _).setCell hwp hW0 _).setCell hwp hW0 _
  · exact ((((((HO1.trans (HO.mono hb)).setCell _ _ (.inr (Nat.le_refl _))).setCell _ _ (.inr (Nat.le_refl _))).setCell _ _ (.inr (Nat.le_refl _))).setCell _ _ (.inr (Nat.le_refl _))).setCell _ _ (.inr (Nat.le_refl _))).setCell _ _ (.inr (Nat.le_refl _))

set_option maxRecDepth 100000 in
set_option maxHeartbeats 4000000 in
theorem citem_walk (W0 : World) (k p : Nat) (l : List UInt8) (ok : Bool) (w : World) (h : CurAt W0 w p l ok) (hk : k ≤ 4) : Calls Tryd.prog 45 #[.pointer (some ⟨p, 0, none⟩), .int .i64 k] w fun e w' =>
    ∃ d, e = .returned (.agg (icell (itemS k l ok).1 d).toArray) ∧ ItemO w' w.heap.size (itemS k l ok).1 d.1 d.2 ∧ CurAt W0 w' p (itemS k l ok).2.1 (itemS k l ok).2.2 ∧ Out p w.heap.size w w' := by
  have hl := h.len
  have hp : p < w.heap.size := h.lt
  have hW0 : W0.heap.size ≤ w.heap.size := h.low.size
  have hWp : W0.heap.size ≤ p := h.base
  have hsz1 : (w.alloc (.cells #[.int .i64 0, .string ⟨#[]⟩, .string ⟨#[]⟩, .int .i64 0, .slice none 0 0, .slice none 0 0] 47)).heap.size = w.heap.size + 1 := size_alloc _ _
  have HR1 := Lib.hid (heap_alloc_new w (.cells #[.int .i64 0, .string ⟨#[]⟩, .string ⟨#[]⟩, .int .i64 0, .slice none 0 0, .slice none 0 0] 47))
  have HO1 : Hid (Out p w.heap.size w (w.alloc (.cells #[.int .i64 0, .string ⟨#[]⟩, .string ⟨#[]⟩, .int .i64 0, .slice none 0 0, .slice none 0 0] 47))) := Lib.hid ((Out.refl _ _ _).alloc _ (Nat.le_refl _))
  have HT1 := Lib.hid (h.alloc hW0 (.cells #[.int .i64 0, .string ⟨#[]⟩, .string ⟨#[]⟩, .int .i64 0, .slice none 0 0, .slice none 0 0] 47))
  clear h
  rcases s1 : numS 2 l ok with ⟨n1, l1, ok1⟩
  rcases s2 : takeS n1 l1 ok1 with ⟨path, l2, ok2⟩
  have q1 := numS_at s1
  have q2 := takeS_at s2
  have HIT := Lib.hid (show itemS k l ok = (if k = 1 then fileS { kind := k, path := path, target := [], size := 0, runs := [], data := [] } l2 ok2 else if k = 3 ∨ k = 4 then textS { kind := k, path := path, target := [], size := 0, runs := [], data := [] } l2 ok2 else ({ kind := k, path := path, target := [], size := 0, runs := [], data := [] }, l2, ok2)) by
    unfold itemS; simp only [s1, s2])
  have hpl : path.length ≤ 4194304 := by omega
  have hl2 : l2.length ≤ 4194304 := by omega
  have hn1 : n1 < 4611686018427388160 := q1.2.1
  have hl1 : l1.length ≤ 4194304 := by omega
  clear q1 q2
  go_enter Tryd.func45, Tryd.ntmps45
  go_upto_region 2 with fail
  have hbb0 := heap_alloc_new (w.alloc (.cells #[.int .i64 0, .string ⟨#[]⟩, .string ⟨#[]⟩, .int .i64 0, .slice none 0 0, .slice none 0 0] 47)) (.cells #[.int .i64 k, .string ⟨#[]⟩, .string ⟨#[]⟩, .int .i64 0, .slice none 0 0, .slice none 0 0] 47)
  have hob0 : Out p (w.heap.size + 1) (w.alloc (.cells #[.int .i64 0, .string ⟨#[]⟩, .string ⟨#[]⟩, .int .i64 0, .slice none 0 0, .slice none 0 0] 47)) ((w.alloc (.cells #[.int .i64 0, .string ⟨#[]⟩, .string ⟨#[]⟩, .int .i64 0, .slice none 0 0, .slice none 0 0] 47)).alloc (.cells #[.int .i64 k, .string ⟨#[]⟩, .string ⟨#[]⟩, .int .i64 0, .slice none 0 0, .slice none 0 0] 47)) := (Out.refl _ _ _).alloc _ (by omega)
  have htb0 := HT1.out.alloc (by omega) (.cells #[.int .i64 k, .string ⟨#[]⟩, .string ⟨#[]⟩, .int .i64 0, .slice none 0 0, .slice none 0 0] 47)
  have hszb : ((w.alloc (.cells #[.int .i64 0, .string ⟨#[]⟩, .string ⟨#[]⟩, .int .i64 0, .slice none 0 0, .slice none 0 0] 47)).alloc (.cells #[.int .i64 k, .string ⟨#[]⟩, .string ⟨#[]⟩, .int .i64 0, .slice none 0 0, .slice none 0 0] 47)).heap.size = (w.alloc (.cells #[.int .i64 0, .string ⟨#[]⟩, .string ⟨#[]⟩, .int .i64 0, .slice none 0 0, .slice none 0 0] 47)).heap.size + 1 := size_alloc _ _
  rw [hsz1] at hbb0 hszb
  generalize (w.alloc (.cells #[.int .i64 0, .string ⟨#[]⟩, .string ⟨#[]⟩, .int .i64 0, .slice none 0 0, .slice none 0 0] 47)).alloc (.cells #[.int .i64 k, .string ⟨#[]⟩, .string ⟨#[]⟩, .int .i64 0, .slice none 0 0, .slice none 0 0] 47) = wb at *
  generalize w.alloc (.cells #[.int .i64 0, .string ⟨#[]⟩, .string ⟨#[]⟩, .int .i64 0, .slice none 0 0, .slice none 0 0] 47) = w1 at *
  obtain ⟨b, hb⟩ : ∃ b, b = w.heap.size + 1 := ⟨_, rfl⟩
  rw [← hb] at hbb0 hob0 hszb hsz1 ⊢
  have HB := Lib.hid hb
  have HSZ := Lib.hid hsz1
  have HBB := Lib.hid hbb0
  have HOb := Lib.hid hob0
  have HTb := Lib.hid htb0
  have hb1 : b + 1 ≤ wb.heap.size := by omega
  have hbp : b ≠ p := by omega
  have hbW : W0.heap.size ≤ b := by omega
  clear hb hsz1 hbb0 hob0 htb0 hszb HT1
  have HN := Lib.hid (cnum_is (n := 2) 2 rfl (by omega) (by omega) HTb.out s1)
  go_wp2_with fail
  refine HN.out.mono ?_
  rintro e w2 ⟨rfl, ht2, ho2⟩
  have HT2 := Lib.hid ht2
  have HO2 := Lib.hid (HOb.out.trans (ho2.mono (by omega)))
  have HBB2 := Lib.hid ((ho2.block b (by omega) hbp).trans HBB.out)
  have hs2 : wb.heap.size ≤ w2.heap.size := ho2.size
  clear ht2 ho2 HN
  have HN := Lib.hid (ctake_is (n := n1) n1 rfl hn1 HT2.out s2)
  go_wp2_with fail
  refine HN.out.mono ?_
  rintro e w3 ⟨pv, rfl, hpo, ht3, ho3⟩
  obtain ⟨pa, pc, rfl⟩ := hpo.form
  have HT3 := Lib.hid ht3
  have HO3 := Lib.hid (HO2.out.trans (ho3.mono (by omega)))
  have HBB3 := Lib.hid ((ho3.block b (by omega) hbp).trans HBB2.out)
  have hs3 : w2.heap.size ≤ w3.heap.size := ho3.size
  have hcv := bytes_conv (BytesAt.of_own hpo).2 pc
  have c1 := cell_whole HBB3.out 1
  have f1 := frozen_whole HBB3.out 1
  simp only [List.getElem?_toArray, List.getElem?_cons_succ, List.getElem?_cons_zero] at c1
  clear ht3 ho3 HN hpo s1 s2
  go_upto_if 23 with fail
  have HT4 := Lib.hid (HT3.out.setCell (i := 1) hbp hbW (.string (strOf path)))
  have HO4 := Lib.hid (HO3.out.setCell ⟨b, 1, none⟩ (.string (strOf path)) (.inr (Nat.le_refl _)))
  have HBB4 := Lib.hid (show (w3.setCell ⟨b, 1, none⟩ (.string (strOf path))).heap[b]? = some (.cells #[.int .i64 k, .string (strOf path), .string ⟨#[]⟩, .int .i64 0, .slice none 0 0, .slice none 0 0] 47 (0, 0)) by rw [set_whole (i := 1) HBB3.out]; rfl)
  have hs4 : wb.heap.size ≤ (w3.setCell ⟨b, 1, none⟩ (.string (strOf path))).heap.size := le_set (by omega) _ _
  clear c1 f1 HT3 HO3 HBB3 hs3 hcv HT2 HO2 HBB2 hs2
  generalize w3.setCell ⟨b, 1, none⟩ (.string (strOf path)) = w4 at *
  go_cut [7, 8, 9, 10, 11] from 24 to 68 (fun _ _ _ _ _ wx => ∃ x m o d, itemS k l ok = (if k = 3 ∨ k = 4 then textS x m o else (x, m, o)) ∧ m.length ≤ 4194304 ∧ x.kind = k ∧ x.path = path ∧ x.target = [] ∧ wx.heap[b]? = some (.cells (icell x d).toArray 47 (0, 0)) ∧ ItemO wx b x d.1 d.2 ∧ CurAt W0 wx p m o ∧ Out p b w1 wx)
  case first =>
    by_cases k1 : k = 1
    · subst k1
      rcases s3 : numS 8 l2 ok2 with ⟨sz, l3, ok3⟩
      rcases s4 : numS 4 l3 ok3 with ⟨n, l4, ok4⟩
      have q3 := numS_at s3
      have q4 := numS_at s4
      have HF := Lib.hid (show itemS 1 l ok = dataS { kind := (1 : Nat), path := path, target := [], size := sz, runs := [], data := [] } (runsS n 0 [] l4 ok4) by
        rw [HIT.out, if_pos rfl]; unfold fileS; simp only [s3, s4])
      have hsz : sz < 4611686018427388160 := q3.2.1
      have hn4 : n < 4294967296 := by have := q4.2.2.1; omega
      have hl3 : l3.length ≤ 4194304 := by omega
      have hl4 : l4.length ≤ 4194304 := by omega
      clear q3 q4 HIT
      have HN := Lib.hid (cnum_is (n := 8) 8 rfl (by omega) (by omega) HT4.out s3)
      go_wp2_with fail
      refine HN.out.mono ?_
      rintro e w5 ⟨rfl, ht5, ho5⟩
      have HO5 := Lib.hid (HO4.out.trans (ho5.mono (by omega)))
      have HBB5 := Lib.hid ((ho5.block b (by omega) hbp).trans HBB4.out)
      have hs5 : wb.heap.size ≤ w5.heap.size := Nat.le_trans hs4 ho5.size
      have HT5 := Lib.hid ht5
      have b3 := cell_whole HBB5.out 3
      have g3 := frozen_whole HBB5.out 3
      simp only [List.getElem?_toArray, List.getElem?_cons_succ, List.getElem?_cons_zero] at b3
      clear ht5 ho5 HN HT4 HO4 HBB4 hs4
      go_upto_region 6 with fail
      have HT6 := Lib.hid (HT5.out.setCell (i := 3) hbp (by omega) (.int .i64 sz))
      have HO6 := Lib.hid (HO5.out.setCell ⟨b, 3, none⟩ (.int .i64 sz) (.inr (Nat.le_refl _)))
      have HBB6 := Lib.hid (show (w5.setCell ⟨b, 3, none⟩ (.int .i64 sz)).heap[b]? = some (.cells #[.int .i64 (1 : Nat), .string (strOf path), .string ⟨#[]⟩, .int .i64 sz, .slice none 0 0, .slice none 0 0] 47 (0, 0)) by rw [set_whole (i := 3) HBB5.out]; rfl)
      have hs6 : wb.heap.size ≤ (w5.setCell ⟨b, 3, none⟩ (.int .i64 sz)).heap.size := le_set hs5 _ _
      clear b3 g3 HT5 HO5 HBB5 hs5
      generalize w5.setCell ⟨b, 3, none⟩ (.int .i64 sz) = w6 at *
      have HN := Lib.hid (cnum_is (n := 4) 4 rfl (by omega) (by omega) HT6.out s4)
      clear s3 s4
      go_wp2_with fail
      refine HN.out.mono ?_
      rintro e w7 ⟨rfl, ht7, ho7⟩
      have HT7 := Lib.hid ht7
      have HO7 := Lib.hid (HO6.out.trans (ho7.mono (by omega)))
      have HBB7 := Lib.hid ((ho7.block b (by omega) hbp).trans HBB6.out)
      clear ht7 ho7 HN HT6 HO6 HBB6
      go_wp2_with fail
      go_loopw [8, 9] (fun v8 v9 wr => ∃ (i A : Nat) (rs : List (Int × Int)) (l' : List UInt8) (o' : Bool) (rv : Value), i ≤ n ∧ v9 = .int .i64 i ∧ v8 = .int .i64 A ∧ A ≤ 4294967296 * i ∧ i ≤ 524289 ∧ l'.length ≤ 4194304 ∧ (o' = true → l'.length + 8 * i ≤ l4.length) ∧ runsS (n - i) A rs l' o' = runsS n 0 [] l4 ok4 ∧ wr.heap[b]? = some (.cells #[.int .i64 (1 : Nat), .string (strOf path), .string ⟨#[]⟩, .int .i64 sz, rv, .slice none 0 0] 47 (0, 0)) ∧ rs.length = i ∧ wr.ownsRow b 49 2 rv i (rcells rs) ∧ CurAt W0 wr p l' o' ∧ Out p b w1 wr) (fun _ v9 _ => n - (intOf v9).toNat)
      case atStart => exact ⟨0, 0, [], l4, ok4, .slice none 0 0, Nat.zero_le _, rfl, rfl, by omega, by omega, hl4, fun _ => by omega, rfl, HBB7.out, rfl, World.ownsRow_nil _ _ _ _, HT7.out, HO7.out⟩
      case round =>
        obtain ⟨i, A, rs, l', o', rv, hi, rfl, rfl, ha1, hi19, hl', hcons, hrun, hbb, hrl, hrow, htk, hout⟩ := hrel
        have HRUN := Lib.hid hrun
        have HBBr := Lib.hid hbb
        have HRL := Lib.hid hrl
        have HROW := Lib.hid hrow
        have HTr := Lib.hid htk
        have HOr := Lib.hid hout
        obtain ⟨p0, p1, hpb⟩ := htk.blk
        have c2 := cell_whole hpb 2
        simp only [List.getElem?_toArray, List.getElem?_cons_succ, List.getElem?_cons_zero] at c2
        clear hrun hbb hrow htk hout hrl hpb
        have hbr : b < wr.heap.size := lt_whole HBBr.out
        by_cases hlt : i < n
        · cases o' with
          | false =>
            have HEND := Lib.hid (show itemS 1 l ok = ({ kind := (1 : Nat), path := path, target := [], size := sz, runs := rs, data := [] }, l', false) by
              rw [HF.out, ← HRUN.out, runsS_end (.inr rfl)]; rfl)
            go_wp2
            go_meet
            exact ⟨({ kind := (1 : Nat), path := path, target := [], size := sz, runs := rs, data := [] } : Itm), l', false, (rv, .slice none 0 0), by rw [HEND.out]; rfl, hl', rfl, rfl, rfl, HBBr.out, ⟨by rw [show ({ kind := (1 : Nat), path := path, target := [], size := sz, runs := rs, data := [] } : Itm).runs.length = i from HRL.out]; exact HROW.out, Own.nil _ _ _⟩, HTr.out, HOr.out⟩
          | true =>
            have hcons2 := hcons rfl
            rcases s6 : numS 4 l' true with ⟨f, l6, ok6⟩
            rcases s7 : numS 4 l6 ok6 with ⟨tt, l7, ok7⟩
            have q6 := numS_at s6
            have q7 := numS_at s7
            have HNX := Lib.hid (runsS_step (all := A) (rs := rs) hlt s6 s7)
            have hf : f < 4294967296 := by have := q6.2.2.1; omega
            have htt : tt < 4294967296 := by have := q7.2.2.1; omega
            have hl7 : l7.length ≤ 4194304 := by omega
            have hl6 : l6.length ≤ 4194304 := by omega
            have hcon7 : Hid (ok7 = true → l7.length + 8 * (i + 1) ≤ l4.length) := Lib.hid fun h7 => by
              obtain ⟨e1, e2⟩ := q7.2.2.2 h7
              have e3 := (q6.2.2.2 e2).1
              omega
            clear q6 q7 hcons
            have HN := Lib.hid (cnum_is (n := 4) 4 rfl (by omega) (by omega) HTr.out s6)
            go_wp2_with fail
            refine HN.out.mono ?_
            rintro e w8 ⟨rfl, ht8, ho8⟩
            have HT8 := Lib.hid ht8
            have HO8 := Lib.hid (HOr.out.trans (ho8.mono (by omega)))
            have HBB8 := Lib.hid ((ho8.block b (by omega) hbp).trans HBBr.out)
            have HROW8 := Lib.hid (row_cur HROW.out HTr.out (by decide) ho8)
            have hs8 : wr.heap.size ≤ w8.heap.size := ho8.size
            clear ht8 ho8 HTr HBBr HROW HN
            have HN := Lib.hid (cnum_is (n := 4) 4 rfl (by omega) (by omega) HT8.out s7)
            clear s6 s7
            go_wp2_with fail
            refine HN.out.mono ?_
            rintro e w9 ⟨rfl, ht9, ho9⟩
            have HT9 := Lib.hid ht9
            have HO9 := Lib.hid (HO8.out.trans (ho9.mono (by omega)))
            have HBB9 := Lib.hid ((ho9.block b (by omega) hbp).trans HBB8.out)
            have HROW9 := Lib.hid (row_cur HROW8.out HT8.out (by decide) ho9)
            have hs9 : w8.heap.size ≤ w9.heap.size := ho9.size
            clear ht9 ho9 HT8 HBB8 HROW8 HN
            obtain ⟨i9, hi9, hz0, hz1, hz2⟩ := info_parts info49
            have c4 := cell_whole HBB9.out 4
            simp only [List.getElem?_toArray, List.getElem?_cons_succ, List.getElem?_cons_zero] at c4
            have hb9 : b < w9.heap.size := by omega
            have hB9 : b ≤ w9.heap.size := by omega
            go_wp2_with (at_builtin; refine wpList_append_own _ rfl _ _ 45 rfl b 49 i9 (.agg #[.int .i64 0, .int .i64 0]) 2 16 Tryd.underlying45 hi9 hz0 hz1 hz2 rfl (by decide) _ i _ rfl (World.ownsRow.alloc HROW9.out _) ⟨w9.heap.size, 0, none⟩ 1 1 [.int .i64 f, .int .i64 tt] rfl rfl (new_cells _ _ _ _ rfl) (two_cell rfl rfl) (by unfold maxLen; omega) (by omega) (le_alloc hB9 _) ?_)
            intro v10 w10 h10 hg10 _
            obtain ⟨a10, d10, rfl⟩ := row_form h10
            have hrow9 := World.ownsRow.alloc HROW9.out (.cells #[.int .i64 f, .int .i64 tt] 49)
            have hbb9 := alloc_whole (o' := .cells #[.int .i64 f, .int .i64 tt] 49) HBB9.out
            have hbb10 : w10.heap[b]? = some _ := (hg10.block b (lt_whole hbb9) (fun e => row_ne hrow9 hbb9 (by decide) e.symm)).trans hbb9
            have HBB10 := Lib.hid hbb10
            have HT10 := Lib.hid (((HT9.out.alloc (by omega) _).grown hg10 hrow9 (by decide) hbW (le_alloc (by omega) _)).setCell (i := 4) hbp hbW (.slice a10 (i + 1) d10))
            have HO10 := Lib.hid (((HO9.out.alloc _ hB9).grown hg10 (le_alloc hB9 _) (fun k hk => (row_blk hrow9 hk).1)).setCell ⟨b, 4, none⟩ (.slice a10 (i + 1) d10) (.inr (Nat.le_refl _)))
            have HROW10 := Lib.hid (row_setCell (b := b) (i := 4) (u := .slice a10 (i + 1) d10) h10 hbb10 (by decide))
            have g4 := frozen_whole hbb10 4
            have g4' := cell_whole hbb10 4
            simp only [List.getElem?_toArray, List.getElem?_cons_succ, List.getElem?_cons_zero] at g4'
            clear h10 hg10 hrow9 hbb9 hbb10
            by_cases hft : f < tt
            · have t1 : decide (f < tt) = true := decide_eq_true hft
              rw [if_pos hft] at HNX
              have HNY := Lib.hid (show runsS (n - (i + 1)) ((A + tt - f : Nat) : Int) (rs ++ [((f : Int), (tt : Int))]) l7 ok7 = runsS n 0 [] l4 ok4 by
                rw [← HRUN.out, HNX.out, show ((A + tt - f : Nat) : Int) = (A : Int) + tt - f by omega])
              go_wp2
              go_roundw
              case rel => exact ⟨i + 1, A + tt - f, rs ++ [((f : Int), (tt : Int))], l7, ok7, _, by omega, by go_num, by go_num, by omega, by omega, hl7, hcon7.out, HNY.out, (by rw [set_whole (i := 4) HBB10.out]; rfl), by rw [List.length_append, HRL.out]; rfl, by rw [rcells_snoc]; exact HROW10.out, HT10.out, HO10.out⟩
              case measure => simp [intOf]; omega
            · have t1 : decide (f < tt) = false := decide_eq_false hft
              rw [if_neg hft] at HNX
              go_wp2
              go_roundw
              case rel => exact ⟨i + 1, A, rs ++ [((f : Int), (tt : Int))], l7, ok7, _, by omega, by go_num, rfl, by omega, by omega, hl7, hcon7.out, by rw [← HRUN.out, HNX.out], (by rw [set_whole (i := 4) HBB10.out]; rfl), by rw [List.length_append, HRL.out]; rfl, by rw [rcells_snoc]; exact HROW10.out, HT10.out, HO10.out⟩
              case measure => simp [intOf]; omega
        · obtain rfl : i = n := by omega
          cases o' with
          | false =>
            have HEND := Lib.hid (show itemS 1 l ok = ({ kind := (1 : Nat), path := path, target := [], size := sz, runs := rs, data := [] }, l', false) by
              rw [HF.out, ← HRUN.out, runsS_end (.inr rfl)]; rfl)
            go_wp2
            go_meet
            exact ⟨({ kind := (1 : Nat), path := path, target := [], size := sz, runs := rs, data := [] } : Itm), l', false, (rv, .slice none 0 0), by rw [HEND.out]; rfl, hl', rfl, rfl, rfl, HBBr.out, ⟨by rw [show ({ kind := (1 : Nat), path := path, target := [], size := sz, runs := rs, data := [] } : Itm).runs.length = i from HRL.out]; exact HROW.out, Own.nil _ _ _⟩, HTr.out, HOr.out⟩
          | true =>
            have hcons2 := hcons rfl
            rcases s5 : takeS (512 * A) l' true with ⟨dt, l7, ok7⟩
            have q5 := takeS_at s5
            have hl7 : l7.length ≤ 4194304 := by omega
            have HEND := Lib.hid (show itemS 1 l ok = ({ kind := (1 : Nat), path := path, target := [], size := sz, runs := rs, data := dt }, l7, ok7) by
              rw [HF.out, ← HRUN.out, runsS_end (.inl rfl)]
              unfold dataS
              simp only [if_true, show (512 * (A : Int)).toNat = 512 * A by omega, s5])
            have HN := Lib.hid (ctake_is (n := 512 * A) ((512 : Int) * (A : Int)) (by push_cast; rfl) (by omega) HTr.out s5)
            clear s5 q5 hcons
            go_wp2_with fail
            refine HN.out.mono ?_
            rintro e w8 ⟨dv, rfl, hdo, ht8, ho8⟩
            obtain ⟨da, dc, rfl⟩ := hdo.form
            have HT8 := Lib.hid (ht8.setCell (i := 5) hbp hbW (.slice da dt.length dc))
            have HO8 := Lib.hid ((HOr.out.trans (ho8.mono (by omega))).setCell ⟨b, 5, none⟩ (.slice da dt.length dc) (.inr (Nat.le_refl _)))
            have hbb8 := (ho8.block b (by omega) hbp).trans HBBr.out
            have HBB8 := Lib.hid hbb8
            have HROW8 := Lib.hid (row_setCell (b := b) (i := 5) (u := .slice da dt.length dc) (row_cur HROW.out HTr.out (by decide) ho8) hbb8 (by decide))
            have HD8 := Lib.hid (row_setCell (b := b) (i := 5) (u := .slice da dt.length dc) (World.ownsRow.mono hdo (by omega : b ≤ _)) hbb8 (by decide))
            have g5 := frozen_whole hbb8 5
            have g5' := cell_whole hbb8 5
            simp only [List.getElem?_toArray, List.getElem?_cons_succ, List.getElem?_cons_zero] at g5'
            clear ht8 ho8 hdo hbb8 HN
            go_wp2
            go_meet
            exact ⟨({ kind := (1 : Nat), path := path, target := [], size := sz, runs := rs, data := dt } : Itm), l7, ok7, (rv, .slice da dt.length dc), by rw [HEND.out]; rfl, hl7, rfl, rfl, rfl, (by rw [set_whole (i := 5) HBB8.out]; rfl), ⟨by rw [show ({ kind := (1 : Nat), path := path, target := [], size := sz, runs := rs, data := dt } : Itm).runs.length = i from HRL.out]; exact HROW8.out, HD8.out⟩, HT8.out, HO8.out⟩
    · have d1 : ((k : Int) == 1) = false := by rw [beq_eq_false_iff_ne]; omega
      have HIT2 := Lib.hid (show itemS k l ok = (if k = 3 ∨ k = 4 then textS { kind := k, path := path, target := [], size := 0, runs := [], data := [] } l2 ok2 else ({ kind := k, path := path, target := [], size := 0, runs := [], data := [] }, l2, ok2)) by rw [HIT.out, if_neg k1])
      clear k1
      go_wp2
      go_meet
      exact ⟨_, _, _, (.slice none 0 0, .slice none 0 0), HIT2.out, hl2, rfl, rfl, rfl, HBB4.out, ⟨World.ownsRow_nil _ _ _ _, World.ownsRow_nil _ _ _ _⟩, HT4.out, HO4.out⟩
  case rest =>
    obtain ⟨x, m, o, ⟨rv, dv⟩, hit, hm, hxk, hxp, hxt, hbc, hio, htk, hout⟩ := hcut
    have HBB5 := Lib.hid hbc
    have HIO5 := Lib.hid hio
    have HT5 := Lib.hid htk
    have HO5 := Lib.hid hout
    have HIT5 := Lib.hid hit
    have HXK := Lib.hid hxk
    have HXT := Lib.hid hxt
    clear hit hbc hio htk hout HIT HT4 HO4 HBB4 hxk hxp hxt
    have hs5 : w1.heap.size ≤ wc.heap.size := HO5.out.size
    have hbc5 : b < wc.heap.size := lt_whole HBB5.out
    by_cases k34 : k = 3 ∨ k = 4
    · have dd : ((k : Int) == 3) = true ∨ (((k : Int) == 3) = false ∧ ((k : Int) == 4) = true) := by
        rcases k34 with h | h
        · exact .inl (by rw [h]; rfl)
        · exact .inr ⟨by rw [h]; rfl, by rw [h]; rfl⟩
      rcases s2 : numS 2 m o with ⟨tn, m1, o1⟩
      rcases s3 : takeS tn m1 o1 with ⟨tg, m2, o2⟩
      have q2 := numS_at s2
      have q3 := takeS_at s3
      have htn : tn < 4611686018427388160 := q2.2.1
      have htl : tg.length ≤ 4194304 := by omega
      have HX := Lib.hid (show itemS k l ok = ({ x with target := tg }, m2, o2) by
        rw [HIT5.out, if_pos k34]; unfold textS; simp only [s2, s3])
      clear k34 q2 q3
      have HN := Lib.hid (cnum_is (n := 2) 2 rfl (by omega) (by omega) HT5.out s2)
      have HTK := Lib.hid (show ∀ w', CurAt W0 w' p m1 o1 → _ from fun w' h => ctake_is (W0 := W0) (w := w') (n := tn) tn rfl htn h s3)
      clear s2 s3
      rcases dd with dd | ⟨dd, dd2⟩
      all_goals
        go_wp2_with fail
        refine HN.out.mono ?_
        rintro e w6 ⟨rfl, ht6, ho6⟩
        have HT6 := Lib.hid ht6
        have HO6 := Lib.hid (HO5.out.trans (ho6.mono (by have := HB.out; have := HSZ.out; omega)))
        have HBB6 := Lib.hid ((ho6.block b hbc5 hbp).trans HBB5.out)
        have HIO6 := Lib.hid (show ItemO w6 b x rv dv from ⟨row_cur HIO5.out.runs HT5.out (by decide) ho6, row_cur HIO5.out.data HT5.out (by decide) ho6⟩)
        have hs6 : wc.heap.size ≤ w6.heap.size := ho6.size
        clear ht6 ho6
        go_wp2_with fail
        refine (HTK.out _ HT6.out).mono ?_
        rintro e w7 ⟨tv, rfl, hto, ht7, ho7⟩
        obtain ⟨ta, tc, rfl⟩ := hto.form
        have HT7 := Lib.hid ht7
        have HO7 := Lib.hid (HO6.out.trans (ho7.mono (by have := HB.out; have := HSZ.out; omega)))
        have hbb7 := (ho7.block b (by omega) hbp).trans HBB6.out
        have HBB7 := Lib.hid hbb7
        have HIO7 := Lib.hid (show ItemO w7 b x rv dv from ⟨row_cur HIO6.out.runs HT6.out (by decide) ho7, row_cur HIO6.out.data HT6.out (by decide) ho7⟩)
        have hcv := bytes_conv (BytesAt.of_own hto).2 tc
        have g2 := cell_whole hbb7 2
        have g2f := frozen_whole hbb7 2
        simp only [icell, List.getElem?_toArray, List.getElem?_cons_succ, List.getElem?_cons_zero] at g2
        clear hto ht7 ho7 hbb7
        go_upto_region 21 with fail
        have HT8 := Lib.hid (HT7.out.setCell (i := 2) hbp hbW (.string (strOf tg)))
        have HO8 := Lib.hid (HO7.out.setCell ⟨b, 2, none⟩ (.string (strOf tg)) (.inr (Nat.le_refl _)))
        have HBB8 := Lib.hid (show (w7.setCell ⟨b, 2, none⟩ (.string (strOf tg))).heap[b]? = some (.cells (icell ({ x with target := tg } : Itm) (rv, dv)).toArray 47 (0, 0)) by rw [set_whole (i := 2) HBB7.out]; rfl)
        have HIO8 := Lib.hid (show ItemO (w7.setCell ⟨b, 2, none⟩ (.string (strOf tg))) b ({ x with target := tg } : Itm) rv dv from ⟨row_setCell HIO7.out.runs HBB7.out (by decide), row_setCell HIO7.out.data HBB7.out (by decide)⟩)
        clear g2 g2f hcv HT7 HO7 HIO7 HBB7
        generalize w7.setCell ⟨b, 2, none⟩ (.string (strOf tg)) = w8 at *

        have hRz : w8.heap[w.heap.size]? = some (.cells #[.int .i64 0, .string ⟨#[]⟩, .string ⟨#[]⟩, .int .i64 0, .slice none 0 0, .slice none 0 0] 47 (0, 0)) := (HO8.out.block w.heap.size (by have := HB.out; omega) (by have := HB.out; omega)).trans HR1.out
        have HRES := Lib.hid hRz
        obtain ⟨ra, rc, e4⟩ := row_form HIO8.out.runs
        obtain ⟨da, dc, e5⟩ := row_form HIO8.out.data
        subst e4
        subst e5
        have HEN := Lib.hid (citem_end HO1.out HIO8.out HT8.out HO8.out HRES.out (by omega) hW0 (by have := HB.out; omega))
        have c0 := cell_whole HBB8.out 0
        have c1 := cell_whole HBB8.out 1
        have c2 := cell_whole HBB8.out 2
        have c3 := cell_whole HBB8.out 3
        have c4 := cell_whole HBB8.out 4
        have c5 := cell_whole HBB8.out 5
        simp only [icell, List.getElem?_toArray, List.getElem?_cons_succ, List.getElem?_cons_zero] at c0 c1 c2 c3 c4 c5
        have r0 := cell_whole hRz 0
        have r1 := cell_whole hRz 1
        have r2 := cell_whole hRz 2
        have r3 := cell_whole hRz 3
        have r4 := cell_whole hRz 4
        have r5 := cell_whole hRz 5
        simp only [List.getElem?_toArray, List.getElem?_cons_succ, List.getElem?_cons_zero] at r0 r1 r2 r3 r4 r5
        have f0 := frozen_whole hRz 0
        have f1 := frozen_whole hRz 1
        have f2 := frozen_whole hRz 2
        have f3 := frozen_whole hRz 3
        have f4 := frozen_whole hRz 4
        have f5 := frozen_whole hRz 5
        clear hRz
        go_wp2
        refine bodyPost_ret (results_cell_row (P := Tryd.prog) (p := 4) (ty := 47) rfl _ _ w.heap.size 47 _ (0, 0) _ rfl (set_six HRES.out) Tryd.underlying47 rfl (by kernel_rfl)) rfl ?_
        rw [HX.out]
        exact ⟨.slice ra _ rc, .slice da _ dc, rfl, HEN.out _ _ _ _ _ _⟩
    · have d3 : ((k : Int) == 3) = false := by rw [beq_eq_false_iff_ne]; omega
      have d4 : ((k : Int) == 4) = false := by rw [beq_eq_false_iff_ne]; omega
      have HX := Lib.hid (show itemS k l ok = (x, m, o) by rw [HIT5.out, if_neg k34])
      clear k34

      have hRz : wc.heap[w.heap.size]? = some (.cells #[.int .i64 0, .string ⟨#[]⟩, .string ⟨#[]⟩, .int .i64 0, .slice none 0 0, .slice none 0 0] 47 (0, 0)) := (HO5.out.block w.heap.size (by have := HB.out; omega) (by have := HB.out; omega)).trans HR1.out
      have HRES := Lib.hid hRz
      obtain ⟨ra, rc, e4⟩ := row_form HIO5.out.runs
      obtain ⟨da, dc, e5⟩ := row_form HIO5.out.data
      subst e4
      subst e5
      have HEN := Lib.hid (citem_end HO1.out HIO5.out HT5.out HO5.out HRES.out (by omega) hW0 (by have := HB.out; omega))
      have c0 := cell_whole HBB5.out 0
      have c1 := cell_whole HBB5.out 1
      have c2 := cell_whole HBB5.out 2
      have c3 := cell_whole HBB5.out 3
      have c4 := cell_whole HBB5.out 4
      have c5 := cell_whole HBB5.out 5
      simp only [icell, List.getElem?_toArray, List.getElem?_cons_succ, List.getElem?_cons_zero] at c0 c1 c2 c3 c4 c5
      have r0 := cell_whole hRz 0
      have r1 := cell_whole hRz 1
      have r2 := cell_whole hRz 2
      have r3 := cell_whole hRz 3
      have r4 := cell_whole hRz 4
      have r5 := cell_whole hRz 5
      simp only [List.getElem?_toArray, List.getElem?_cons_succ, List.getElem?_cons_zero] at r0 r1 r2 r3 r4 r5
      have f0 := frozen_whole hRz 0
      have f1 := frozen_whole hRz 1
      have f2 := frozen_whole hRz 2
      have f3 := frozen_whole hRz 3
      have f4 := frozen_whole hRz 4
      have f5 := frozen_whole hRz 5
      clear hRz
      go_wp2
      refine bodyPost_ret (results_cell_row (P := Tryd.prog) (p := 4) (ty := 47) rfl _ _ w.heap.size 47 _ (0, 0) _ rfl (set_six HRES.out) Tryd.underlying47 rfl (by kernel_rfl)) rfl ?_
      rw [HX.out]
      exact ⟨.slice ra _ rc, .slice da _ dc, rfl, HEN.out _ _ _ _ _ _⟩
end Go.Proofs.YtenpihkfghfpaaaDoor
