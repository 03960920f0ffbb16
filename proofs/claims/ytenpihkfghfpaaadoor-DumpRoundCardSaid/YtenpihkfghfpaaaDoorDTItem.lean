/- dump's taker.item. -/
import Derived.Test.YtenpihkfghfpaaaDoorDOwnIt
import Derived.Test.YtenpihkfghfpaaaDoorCanonPanic
namespace Go.Proofs.YtenpihkfghfpaaaDoor
open Go.RowKit Vl Go.Maps
set_option linter.unusedVariables false

theorem info49 : (Tryd.prog.info? 49).map (fun i => (i.zero, i.size, i.bytes)) = some (some (.agg #[.int .i64 0, .int .i64 0]), 2, 16) := by kernel_rfl
theorem info47 : (Tryd.prog.info? 47).map (fun i => (i.zero, i.size, i.bytes)) = some (some (.agg #[.int .i64 0, .string ByteArray.empty, .string ByteArray.empty, .int .i64 0, .slice none 0 0, .slice none 0 0]), 6, 96) := by kernel_rfl

/-- What item hands back. -/
def ItemPost (W0 : World) (k : Nat) (l : List UInt8) (p : Nat) (w : World) (e : Ending) (w' : World) : Prop :=
  match itemD k l with
  | none => e = shortE ∧ Out p w.heap.size w w'
  | some (x, m) => ∃ d, e = .returned (.agg (icell x d).toArray) ∧ ItemO w' w.heap.size x d.1 d.2 ∧ TkAt W0 w' p m ∧ Out p w.heap.size w w'

theorem numPost_none {W0 : World} {l : List UInt8} {p n : Nat} {w w' : World} {e : Ending} (ht : numB n l = none) (h : NumPost W0 l p n w e w') : e = shortE ∧ w' = w := by
  unfold NumPost at h; rw [ht] at h; exact h
theorem numPost_some {W0 : World} {l : List UInt8} {p n : Nat} {w w' : World} {e : Ending} {x : Nat × List UInt8} (ht : numB n l = some x) (h : NumPost W0 l p n w e w') : e = .returned (.int .i64 (wrapB x.1)) ∧ TkAt W0 w' p x.2 ∧ Out p w.heap.size w w' := by
  unfold NumPost at h; rw [ht] at h; exact h
theorem wrapB_small {v : Nat} (h : v < 9223372036854775808) : wrapB v = v := by unfold wrapB; rw [if_pos h]

theorem TkAt.alloc {W0 w : World} {p : Nat} {l : List UInt8} (h : TkAt W0 w p l) (hB : W0.heap.size ≤ w.heap.size) (o : Obj) : TkAt W0 (w.alloc o) p l :=
  h.keep (Below.heap_alloc w o p h.lt) (h.low.alloc hB _)
theorem TkAt.base {W0 w : World} {p : Nat} {l : List UInt8} (h : TkAt W0 w p l) : W0.heap.size ≤ p := by
  obtain ⟨_, _, _, _, _, h, _⟩ := h; exact h
theorem TkAt.setCell {W0 w : World} {p b i : Nat} {l : List UInt8} (h : TkAt W0 w p l) (hb : b ≠ p) (hB : W0.heap.size ≤ b) (v : Value) : TkAt W0 (w.setCell ⟨b, i, none⟩ v) p l :=
  h.keep (Below.heap_setCell _ _ _ _ (Ne.symm hb)) (h.low.setCell hB _)
theorem TkAt.grown {W0 w w' : World} {p B s n t : Nat} {v : Value} {l : List UInt8} {xs : List Value} (h : TkAt W0 w p l) (hg : w.grownBy w' v.ownBlock) (ho : w.ownsRow B t s v n xs) (ht : t ≠ 88) (hB : W0.heap.size ≤ B) (hB2 : W0.heap.size ≤ w.heap.size) : TkAt W0 w' p l := by
  have hne : v.ownBlock ≠ some p := by
    intro e
    obtain ⟨a, c, h1, _⟩ := h
    rcases ho.2 with ⟨rfl, _⟩ | ⟨g, cap, cur, rfl, hb, hg2, _⟩
    · simp [Value.ownBlock] at e
    · simp [Value.ownBlock] at e
      subst e
      rw [hg2] at h1
      simp at h1
      exact ht h1.2
  exact h.keep (hg.block p h.lt (fun e => hne e.symm)) (h.low.grown hg hB2 (fun k hk => Nat.le_trans hB (ho.lt k hk).1))
theorem row_ne {w : World} {B s n t t' k : Nat} {v : Value} {xs : List Value} {cs : Array Value} {fr : Nat × Nat} (ho : w.ownsRow B t s v n xs) (hk : w.heap[k]? = some (.cells cs t' fr)) (ht : t ≠ t') : v.ownBlock ≠ some k := by
  intro e
  rcases ho.2 with ⟨rfl, _⟩ | ⟨g, cap, cur, rfl, hb, hg2, _⟩
  · simp [Value.ownBlock] at e
  · simp [Value.ownBlock] at e
    subst e
    rw [hg2] at hk
    simp at hk
    exact ht hk.2.1
theorem new_cells (w : World) (xs : List Value) (e : TypeId) (n : Nat) (hn : n = w.heap.size) : ∀ j u, xs[j]? = some u → (w.alloc (.cells xs.toArray e)).cell? ((⟨n, 0, none⟩ : Addr).add j) = some u := by
  intro j u hj
  subst hn
  rw [Addr.add_lit, cell_whole (heap_alloc_new w (.cells xs.toArray e)), Nat.zero_add]
  simpa using hj
theorem set_six {w : World} {b : Nat} {z0 z1 z2 z3 z4 z5 v0 v1 v2 v3 v4 v5 : Value} {t : Nat} (h : w.heap[b]? = some (.cells #[z0, z1, z2, z3, z4, z5] t (0, 0))) :
    ((((((w.setCell ⟨b, 0, none⟩ v0).setCell ⟨b, 1, none⟩ v1).setCell ⟨b, 2, none⟩ v2).setCell ⟨b, 3, none⟩ v3).setCell ⟨b, 4, none⟩ v4).setCell ⟨b, 5, none⟩ v5).heap[b]? = some (.cells #[v0, v1, v2, v3, v4, v5] t (0, 0)) := by
  have h0 := set_whole (i := 0) h v0
  have h1 := set_whole (i := 1) h0 v1
  have h2 := set_whole (i := 2) h1 v2
  have h3 := set_whole (i := 3) h2 v3
  have h4 := set_whole (i := 4) h3 v4
  have h5 := set_whole (i := 5) h4 v5
  exact h5

theorem row_setCell {w : World} {B e s n b i : Nat} {v u : Value} {xs : List Value} {cs : Array Value} {t : Nat} {fr : Nat × Nat} (h : w.ownsRow B e s v n xs) (hb : w.heap[b]? = some (.cells cs t fr)) (ht : t ≠ e) : (w.setCell ⟨b, i, none⟩ u).ownsRow B e s v n xs :=
  row_keep h fun k cs' hk _ => Below.heap_setCell _ _ _ _ (fun (e : k = b) => by
    rw [e, hb] at hk
    simp at hk
    exact ht hk.2.1)
theorem row_grown {w w' : World} {B e s n : Nat} {v : Value} {xs : List Value} {r : Option Nat} (h : w.ownsRow B e s v n xs) (hg : w.grownBy w' r) (hr : ∀ k cs, r = some k → w.heap[k]? ≠ some (.cells cs e (0, 0))) : w'.ownsRow B e s v n xs :=
  row_keep h fun k cs hk _ => hg.block k (lt_whole hk) (fun e => hr k cs e.symm hk)
theorem row_blk {w : World} {B e s n k : Nat} {v : Value} {xs : List Value} (h : w.ownsRow B e s v n xs) (hk : v.ownBlock = some k) : B ≤ k ∧ k < w.heap.size ∧ ∃ cur, w.heap[k]? = some (.cells cur e (0, 0)) := by
  rcases h.2 with ⟨rfl, h0⟩ | ⟨g, cap, cur, rfl, hb, hg, _⟩
  · simp [Value.ownBlock] at hk
  · simp [Value.ownBlock] at hk
    subst hk
    exact ⟨hb, lt_whole hg, cur, hg⟩
theorem runsD_step {n i : Nat} {all : Int} {rs : List (Int × Int)} {l : List UInt8} (h : i < n) : runsD (n - i) all rs l = (match numB 4 l with
    | none => none
    | some (f, l) => match numB 4 l with
      | none => none
      | some (t, l) => if t ≤ f ∨ 16522 < t then none else runsD (n - (i + 1)) (all + ((t : Int) - f)) (rs ++ [((f : Int), (t : Int))]) l) := by
  rw [show n - i = (n - (i + 1)) + 1 by omega]
  rfl

theorem row_out {W0 w w' : World} {p B e s n : Nat} {l : List UInt8} {v : Value} {xs : List Value} (h : w.ownsRow B e s v n xs) (hT : TkAt W0 w p l) (he : e ≠ 88) (ho : Out p w.heap.size w w') : w'.ownsRow B e s v n xs :=
  row_keep h fun k cs hk _ => ho.block k (lt_whole hk) (fun e' => by
    obtain ⟨a, c, h1, _⟩ := hT
    rw [e', h1] at hk
    simp at hk
    exact he hk.2.symm)
theorem two_cell {x y : Value} (h : x.oneCell' = true) (h2 : y.oneCell' = true) : ∀ u ∈ [x, y], u.oneCell' = true := by
  intro u hu; simp at hu; rcases hu with rfl | rfl
  · exact h
  · exact h2

theorem TkAt.drew {W0 w : World} {p : Nat} {l : List UInt8} (h : TkAt W0 w p l) : TkAt W0 w.drew p l := h.keep rfl h.low.drew
theorem tnum_none {W0 w : World} {p n : Nat} {l : List UInt8} (N : Int) (hN : N = (n : Int)) (hn : n ≤ 8) (h : TkAt W0 w p l) (hl : l.length ≤ 4194304) (h1 : numB n l = none) : Calls Tryd.prog 48 #[.pointer (some ⟨p, 0, none⟩), .int .i64 N] w fun e w' => e = shortE ∧ w' = w := by
  subst hN
  exact (tnum_walk W0 p l n hn w h (by omega)).mono fun e w' h => numPost_none h1 h
theorem tnum_some {W0 w : World} {p n : Nat} {l : List UInt8} {x : Nat × List UInt8} (N : Int) (hN : N = (n : Int)) (hn : n ≤ 8) (h : TkAt W0 w p l) (hl : l.length ≤ 4194304) (h1 : numB n l = some x) : Calls Tryd.prog 48 #[.pointer (some ⟨p, 0, none⟩), .int .i64 N] w fun e w' => e = .returned (.int .i64 (wrapB x.1)) ∧ TkAt W0 w' p x.2 ∧ Out p w.heap.size w w' := by
  subst hN
  exact (tnum_walk W0 p l n hn w h (by omega)).mono fun e w' h => numPost_some h1 h

set_option maxRecDepth 100000 in
set_option maxHeartbeats 4000000 in
theorem item_walk (W0 : World) (k p : Nat) (l : List UInt8) (w : World) (h : TkAt W0 w p l) (hk : k < 256) (hl : l.length ≤ 4194304) : Calls Tryd.prog 49 #[.pointer (some ⟨p, 0, none⟩), .int .i64 k] w (ItemPost W0 k l p w) := by
  have hp : p < w.heap.size := h.lt
  have hW0 : W0.heap.size ≤ w.heap.size := h.low.size
  have hWp : W0.heap.size ≤ p := h.base
  have hsz1 : (w.alloc (.cells #[.int .i64 0, .string ⟨#[]⟩, .string ⟨#[]⟩, .int .i64 0, .slice none 0 0, .slice none 0 0] 47)).heap.size = w.heap.size + 1 := size_alloc _ _
  have HR1 := Lib.hid (heap_alloc_new w (.cells #[.int .i64 0, .string ⟨#[]⟩, .string ⟨#[]⟩, .int .i64 0, .slice none 0 0, .slice none 0 0] 47))
  have HO1 : Hid (Out p w.heap.size w (w.alloc (.cells #[.int .i64 0, .string ⟨#[]⟩, .string ⟨#[]⟩, .int .i64 0, .slice none 0 0, .slice none 0 0] 47))) := Lib.hid ((Out.refl _ _ _).alloc _ (Nat.le_refl _))
  have HT1 := Lib.hid (h.alloc hW0 (.cells #[.int .i64 0, .string ⟨#[]⟩, .string ⟨#[]⟩, .int .i64 0, .slice none 0 0, .slice none 0 0] 47))
  clear h
  go_enter Tryd.func49, Tryd.ntmps49
  go_wp2_with fail
  generalize w.alloc (.cells #[.int .i64 0, .string ⟨#[]⟩, .string ⟨#[]⟩, .int .i64 0, .slice none 0 0, .slice none 0 0] 47) = w1 at *
  cases h1 : numB 2 l with
  | none =>
    have HN := Lib.hid (tnum_none (n := 2) 2 rfl (by omega) HT1.out (by omega) h1)
    have HPOST := Lib.hid (show ∀ w', Out p w.heap.size w w' → ItemPost W0 k l p w shortE w' from fun w' h => by unfold ItemPost itemD; rw [h1]; exact ⟨rfl, h⟩)
    clear h1
    refine HN.out.mono ?_
    rintro e w2 ⟨rfl, rfl⟩
    unfold shortE
    go_wp2
    exact ⟨rfl, HPOST.out _ HO1.out⟩
  | some x1 =>
    obtain ⟨n, l1⟩ := x1
    obtain ⟨hl1, hn⟩ := numB_len h1
    have HN := Lib.hid (tnum_some (n := 2) 2 rfl (by omega) HT1.out (by omega) h1)
    rw [wrapB_small (show n < _ by omega)] at HN
    refine HN.out.mono ?_
    rintro e w2 ⟨rfl, ht1, ho1⟩
    have HT2 := Lib.hid ht1
    have HO2 := Lib.hid ho1
    clear ht1 ho1 HN
    cases h2 : takeB n l1 with
    | none =>
      have HN := Lib.hid ((take_walk W0 p l1 n w2 HT2.out (by omega)).mono fun e w' h => takePost_none h2 h)
      have HPOST := Lib.hid (show ∀ w', Out p w.heap.size w w' → ItemPost W0 k l p w shortE w' from fun w' h => by
        unfold ItemPost itemD; rw [h1]; dsimp only; rw [h2]; exact ⟨rfl, h⟩)
      clear h1 h2
      go_wp2_with fail
      refine HN.out.mono ?_
      rintro e w3 ⟨rfl, rfl⟩
      unfold shortE
      go_wp2
      exact ⟨rfl, HPOST.out _ (HO1.out.trans (HO2.out.mono HO1.out.size))⟩
    | some x2 =>
      obtain ⟨path, l2⟩ := x2
      have hl2 := (takeB_len h2).1
      have HN := Lib.hid ((take_walk W0 p l1 n w2 HT2.out (by omega)).mono fun e w' h => takePost_some h2 h)
      have HITD := Lib.hid (show itemD k l = (if k = 1 then fileD { kind := k, path := path, target := [], size := 0, runs := [], data := [] } l2 else if k = 3 ∨ k = 4 then textD { kind := k, path := path, target := [], size := 0, runs := [], data := [] } l2 else if k = 2 then some ({ kind := k, path := path, target := [], size := 0, runs := [], data := [] }, l2) else none) by
        unfold itemD; rw [h1]; dsimp only; rw [h2])
      clear h1 h2
      go_wp2_with fail
      refine HN.out.mono ?_
      rintro e w3 ⟨a, rfl, hb, ht2, ho2⟩
      have HT3 := Lib.hid ht2
      have HO3 := Lib.hid (HO2.out.trans (ho2.mono HO2.out.size))
      have hcv := bytes_conv (hb.below ht2.low) path.length
      clear hb ht2 ho2 HN
      go_upto_block 0 with fail
      have hsz3 : w1.heap.size ≤ w3.heap.size := HO3.out.size
      have HOb : Hid (Out p w1.heap.size w1 (w3.alloc (.cells #[.int .i64 k, .string (strOf path), .string ⟨#[]⟩, .int .i64 0, .slice none 0 0, .slice none 0 0] 47))) := Lib.hid (HO3.out.alloc _ hsz3)
      have HTb := Lib.hid (HT3.out.alloc (by omega) (.cells #[.int .i64 k, .string (strOf path), .string ⟨#[]⟩, .int .i64 0, .slice none 0 0, .slice none 0 0] 47))
      have HBb := Lib.hid (heap_alloc_new w3 (.cells #[.int .i64 k, .string (strOf path), .string ⟨#[]⟩, .int .i64 0, .slice none 0 0, .slice none 0 0] 47))
      have hszb : (w3.alloc (.cells #[.int .i64 k, .string (strOf path), .string ⟨#[]⟩, .int .i64 0, .slice none 0 0, .slice none 0 0] 47)).heap.size = w3.heap.size + 1 := size_alloc _ _
      clear hcv
      generalize w3.alloc (.cells #[.int .i64 k, .string (strOf path), .string ⟨#[]⟩, .int .i64 0, .slice none 0 0, .slice none 0 0] 47) = wb at *
      obtain ⟨b, hb⟩ : ∃ b, b = w3.heap.size := ⟨_, rfl⟩
      have HBB := Lib.hid (hb ▸ HBb.out : wb.heap[b]? = _)
      have hbp : b ≠ p := by omega
      rw [← hb]
      have hb1 : w1.heap.size ≤ b := by omega
      have hb2 : b + 1 ≤ wb.heap.size := by omega
      have hb3 : w.heap.size + 1 ≤ w1.heap.size := by omega
      clear hb hszb hsz1 hsz3
      go_cut [6, 7, 8] from 17 to 78 (fun _ _ _ wx => ∃ x m d, itemD k l = some (x, m) ∧ wx.heap[b]? = some (.cells (icell x d).toArray 47 (0, 0)) ∧ ItemO wx w1.heap.size x d.1 d.2 ∧ TkAt W0 wx p m ∧ Out p w1.heap.size w1 wx)
      case first =>
        have HPANIC := Lib.hid (show ∀ wx, itemD k l = none → Out p w1.heap.size w1 wx → ItemPost W0 k l p w shortE wx from fun wx h1 h => by
          unfold ItemPost; rw [h1]; exact ⟨rfl, HO1.out.trans (h.mono HO1.out.size)⟩)
        by_cases k1 : k = 1
        · subst k1
          have HITD2 := Lib.hid (show itemD 1 l = fileD { kind := (1 : Nat), path := path, target := [], size := 0, runs := [], data := [] } l2 by rw [HITD.out, if_pos rfl])
          cases h3 : numB 8 l2 with
          | none =>
            have HN := Lib.hid (tnum_none (n := 8) 8 rfl (by omega) HTb.out (by omega) h3)
            have HPOST := Lib.hid (HPANIC.out wb (by rw [HITD2.out]; unfold fileD; rw [h3]) HOb.out)
            clear h3
            go_wp2_with fail
            refine HN.out.mono ?_
            rintro e w4 ⟨rfl, rfl⟩
            unfold shortE
            go_wp2
            exact ⟨rfl, HPOST.out⟩
          | some x3 =>
            obtain ⟨sz, l3⟩ := x3
            obtain ⟨hl3, hsz⟩ := numB_len h3
            have HN := Lib.hid (tnum_some (n := 8) 8 rfl (by omega) HTb.out (by omega) h3)
            go_wp2_with fail
            refine HN.out.mono ?_
            rintro e w4 ⟨rfl, ht4, ho4⟩
            have HO4 := Lib.hid (HOb.out.trans (ho4.mono (by omega)))
            have hbb4 : w4.heap[b]? = some _ := (ho4.block b (by omega) hbp).trans HBB.out
            have HBB4 := Lib.hid hbb4
            have hs4 : wb.heap.size ≤ w4.heap.size := ho4.size
            have HT4 := Lib.hid ht4
            have b3 := cell_whole hbb4 3
            have g3 := frozen_whole hbb4 3
            simp only [List.getElem?_toArray, List.getElem?_cons_succ, List.getElem?_cons_zero] at b3
            clear ht4 ho4 HN hbb4
            go_upto_region 6 with fail
            have HT5 := Lib.hid (HT4.out.setCell (i := 3) hbp (by omega) (.int .i64 (wrapB sz)))
            have HO5 := Lib.hid (HO4.out.setCell ⟨b, 3, none⟩ (.int .i64 (wrapB sz)) (.inr (by show _ ≤ b; omega)))
            have HBB5 := Lib.hid (show (w4.setCell ⟨b, 3, none⟩ (.int .i64 (wrapB sz))).heap[b]? = some (.cells #[.int .i64 (1 : Nat), .string (strOf path), .string ⟨#[]⟩, .int .i64 (wrapB sz), .slice none 0 0, .slice none 0 0] 47 (0, 0)) by rw [set_whole (i := 3) HBB4.out]; rfl)
            have hs5 : wb.heap.size ≤ (w4.setCell ⟨b, 3, none⟩ (.int .i64 (wrapB sz))).heap.size := le_set hs4 _ _
            clear b3 g3 HT4 HO4 HBB4 hs4
            generalize w4.setCell ⟨b, 3, none⟩ (.int .i64 (wrapB sz)) = w5 at *
            cases h4 : numB 4 l3 with
            | none =>
              have HN := Lib.hid (tnum_none (n := 4) 4 rfl (by omega) HT5.out (by omega) h4)
              have HPOST := Lib.hid (HPANIC.out w5 (by rw [HITD2.out]; unfold fileD; rw [h3]; dsimp only; rw [h4]) HO5.out)
              clear h3 h4
              go_wp2_with fail
              refine HN.out.mono ?_
              rintro e w6 ⟨rfl, rfl⟩
              unfold shortE
              go_wp2
              exact ⟨rfl, HPOST.out⟩
            | some x4 =>
              obtain ⟨n, l4⟩ := x4
              obtain ⟨hl4, hn4⟩ := numB_len h4
              have HN := Lib.hid (tnum_some (n := 4) 4 rfl (by omega) HT5.out (by omega) h4)
              rw [wrapB_small (show n < _ by omega)] at HN
              have HF := Lib.hid (show itemD 1 l = (match runsD n 0 [] l4 with
                | none => none
                | some (all, rs, l) => match takeB (all * 512).toNat l with
                  | none => none
                  | some (d, l) => some ({ kind := (1 : Nat), path := path, target := [], size := wrapB sz, runs := rs, data := d }, l)) by
                rw [HITD2.out]; unfold fileD; rw [h3]; dsimp only; rw [h4]; rfl)
              clear h3 h4
              go_wp2_with fail
              refine HN.out.mono ?_
              rintro e w6 ⟨rfl, ht6, ho6⟩
              have HT6 := Lib.hid ht6
              have HO6 := Lib.hid (HO5.out.trans (ho6.mono (by omega)))
              have HBB6 := Lib.hid ((ho6.block b (by omega) hbp).trans HBB5.out)
              clear ht6 ho6 HN HT5 HO5 HBB5
              go_wp2_with fail
              go_loopw [7, 27] (fun v7 v27 wr => ∃ (i : Nat) (all : Int) (rs : List (Int × Int)) (l' : List UInt8) (rv : Value), i ≤ n ∧ v27 = .int .i64 i ∧ v7 = .int .i64 all ∧ 0 ≤ all ∧ all ≤ 16522 * i ∧ runsD (n - i) all rs l' = runsD n 0 [] l4 ∧ l'.length + 8 * i = l4.length ∧ wr.heap[b]? = some (.cells #[.int .i64 (1 : Nat), .string (strOf path), .string ⟨#[]⟩, .int .i64 (wrapB sz), rv, .slice none 0 0] 47 (0, 0)) ∧ rs.length = i ∧ wr.ownsRow w1.heap.size 49 2 rv i (rcells rs) ∧ TkAt W0 wr p l' ∧ Out p w1.heap.size w1 wr) (fun _ v27 _ => n - (intOf v27).toNat)
              case atStart => exact ⟨0, 0, [], l4, .slice none 0 0, Nat.zero_le _, rfl, rfl, by omega, by omega, rfl, by omega, HBB6.out, rfl, World.ownsRow_nil _ _ _ _, HT6.out, HO6.out⟩
              case round =>
                obtain ⟨i, all, rs, l', rv, hi, rfl, rfl, ha0, ha1, hrun, hlen, hbb, hrl, hrow, htk, hout⟩ := hrel
                have HRUN := Lib.hid hrun
                have HBBr := Lib.hid hbb
                have HRL := Lib.hid hrl
                have HROW := Lib.hid hrow
                have HTr := Lib.hid htk
                have HOr := Lib.hid hout
                clear hrun hbb hrow htk hout hrl
                have hsr : w1.heap.size ≤ wr.heap.size := HOr.out.size
                have hbr : b < wr.heap.size := lt_whole HBBr.out
                by_cases hlt : i < n
                · have HST := Lib.hid (runsD_step (all := all) (rs := rs) (l := l') hlt)
                  cases f1 : numB 4 l' with
                  | none =>
                    have HN := Lib.hid (tnum_none (n := 4) 4 rfl (by omega) HTr.out (by omega) f1)
                    have HPOST := Lib.hid (HPANIC.out wr (by rw [HF.out, ← HRUN.out, HST.out, f1]) HOr.out)
                    clear f1
                    go_wp2_with fail
                    refine HN.out.mono ?_
                    rintro e w7 ⟨rfl, rfl⟩
                    unfold shortE
                    go_wp2
                    exact ⟨rfl, HPOST.out⟩
                  | some y1 =>
                    obtain ⟨f, l5⟩ := y1
                    obtain ⟨hl5, hf⟩ := numB_len f1
                    have HN := Lib.hid (tnum_some (n := 4) 4 rfl (by omega) HTr.out (by omega) f1)
                    rw [wrapB_small (show f < _ by omega)] at HN
                    cases f2 : numB 4 l5 with
                    | none =>
                      have HTN := Lib.hid (show ∀ w, TkAt W0 w p l5 → Calls Tryd.prog 48 #[.pointer (some ⟨p, 0, none⟩), .int .i64 4] w fun e w' => e = shortE ∧ w' = w from fun w h => tnum_none (n := 4) 4 rfl (by omega) h (by omega) f2)
                      have HPOST := Lib.hid (fun wx => HPANIC.out wx (by rw [HF.out, ← HRUN.out, HST.out, f1]; dsimp only; rw [f2]))
                      clear f1 f2
                      go_wp2_with fail
                      refine HN.out.mono ?_
                      rintro e w7 ⟨rfl, ht7, ho7⟩
                      have HT7 := Lib.hid ht7
                      have HO7 := Lib.hid (HOr.out.trans (ho7.mono (by omega)))
                      clear ht7 ho7
                      go_wp2_with fail
                      refine (HTN.out _ HT7.out).mono ?_
                      rintro e w8 ⟨rfl, rfl⟩
                      unfold shortE
                      go_wp2
                      exact ⟨rfl, HPOST.out _ HO7.out⟩
                    | some y2 =>
                      obtain ⟨tt, l6⟩ := y2
                      obtain ⟨hl6, htt⟩ := numB_len f2
                      have HTN := Lib.hid (show ∀ w, TkAt W0 w p l5 → Calls Tryd.prog 48 #[.pointer (some ⟨p, 0, none⟩), .int .i64 4] w fun e w' => e = .returned (.int .i64 tt) ∧ TkAt W0 w' p l6 ∧ Out p w.heap.size w w' from fun w h => by
                        have := tnum_some (n := 4) 4 rfl (by omega) h (by omega) f2
                        rwa [wrapB_small (show tt < _ by omega)] at this)
                      have HST2 := Lib.hid (show runsD (n - i) all rs l' = (if tt ≤ f ∨ 16522 < tt then none else runsD (n - (i + 1)) (all + ((tt : Int) - f)) (rs ++ [((f : Int), (tt : Int))]) l6) by rw [HST.out, f1]; dsimp only; rw [f2])
                      clear f1 f2 HST
                      go_wp2_with fail
                      refine HN.out.mono ?_
                      rintro e w7 ⟨rfl, ht7, ho7⟩
                      have HT7 := Lib.hid ht7
                      have HO7 := Lib.hid (HOr.out.trans (ho7.mono (by omega)))
                      have HBB7 := Lib.hid ((ho7.block b (by omega) hbp).trans HBBr.out)
                      have HROW7 := Lib.hid (row_out HROW.out HTr.out (by decide) ho7)
                      have hs7 : wr.heap.size ≤ w7.heap.size := ho7.size
                      clear ht7 ho7 HTr HBBr HROW HN
                      go_wp2_with fail
                      refine (HTN.out _ HT7.out).mono ?_
                      rintro e w8 ⟨rfl, ht8, ho8⟩
                      have HT8 := Lib.hid ht8
                      have HO8 := Lib.hid (HO7.out.trans (ho8.mono (by omega)))
                      have HBB8 := Lib.hid ((ho8.block b (by omega) hbp).trans HBB7.out)
                      have HROW8 := Lib.hid (row_out HROW7.out HT7.out (by decide) ho8)
                      have hs8 : w7.heap.size ≤ w8.heap.size := ho8.size
                      clear ht8 ho8 HT7 HBB7 HROW7 HTN
                      by_cases bad : tt ≤ f ∨ 16522 < tt
                      · have HPOST := Lib.hid (fun wx => HPANIC.out wx (by rw [HF.out, ← HRUN.out, HST2.out, if_pos bad]))
                        have dd : decide (tt ≤ f) = true ∨ (decide (tt ≤ f) = false ∧ decide ((16522 : Int) < (tt : Int)) = true) := by
                          by_cases h1 : tt ≤ f
                          · exact .inl (decide_eq_true (by omega))
                          · exact .inr ⟨decide_eq_false (by omega), decide_eq_true (by omega)⟩
                        clear bad
                        rcases dd with dd | ⟨dd, dd2⟩
                        all_goals
                          go_wp2
                          exact ⟨rfl, HPOST.out _ (HO8.out.alloc _ (by omega))⟩
                      · rw [if_neg bad] at HST2
                        have t1 : decide (tt ≤ f) = false := decide_eq_false (by omega)
                        have t2 : decide ((16522 : Int) < (tt : Int)) = false := decide_eq_false (by omega)
                        have t3 : f < tt ∧ tt ≤ 16522 := by omega
                        clear bad
                        obtain ⟨i9, hi9, hz0, hz1, hz2⟩ := info_parts info49
                        have c4 := cell_whole (alloc_whole (o' := .cells #[.int .i64 f, .int .i64 tt] 49) HBB8.out) 4
                        have f4 := frozen_whole (alloc_whole (o' := .cells #[.int .i64 f, .int .i64 tt] 49) HBB8.out) 4
                        simp only [List.getElem?_toArray, List.getElem?_cons_succ, List.getElem?_cons_zero] at c4
                        have hb8 : b < w8.heap.size := by omega
                        have hi16 : i ≤ 524288 := by omega
                        have hW8 : w1.heap.size ≤ w8.heap.size := by omega
                        go_wp2_with (at_builtin; refine wpList_append_own _ rfl _ _ 45 rfl w1.heap.size 49 i9 (.agg #[.int .i64 0, .int .i64 0]) 2 16 Tryd.underlying45 hi9 hz0 hz1 hz2 rfl (by decide) _ i _ rfl (World.ownsRow.alloc (World.ownsRow.alloc HROW8.out _) _) ⟨w8.heap.size + 1, 0, none⟩ 1 1 [.int .i64 f, .int .i64 tt] rfl rfl (new_cells _ _ _ _ (by rw [size_alloc])) (two_cell rfl rfl) (by unfold maxLen; omega) (by omega) (le_alloc (le_alloc hW8 _) _) ?_)
                        intro v9 w9 h9 hg9 _
                        obtain ⟨a9, d9, rfl⟩ := row_form h9
                        have hrow8 := World.ownsRow.alloc (World.ownsRow.alloc HROW8.out (.cells #[.int .i64 f, .int .i64 tt] 49)) (.cells #[.int .i64 f, .int .i64 tt] 49)
                        have hbb8 := alloc_whole (o' := .cells #[.int .i64 f, .int .i64 tt] 49) (alloc_whole (o' := .cells #[.int .i64 f, .int .i64 tt] 49) HBB8.out)
                        have hbb9 : w9.heap[b]? = some _ := (hg9.block b (lt_whole hbb8) (fun e => row_ne hrow8 hbb8 (by decide) e.symm)).trans hbb8
                        have HBB9 := Lib.hid hbb9
                        have HT9 := Lib.hid ((((HT8.out.alloc (by omega) _).alloc (le_alloc (by omega) _) _).grown hg9 hrow8 (by decide) (by omega) (le_alloc (le_alloc (by omega) _) _)).setCell (i := 4) hbp (by omega) (.slice a9 (i + 1) d9))
                        have HO9 := Lib.hid ((((HO8.out.alloc _ hW8).alloc _ (le_alloc hW8 _)).grown hg9 (le_alloc (le_alloc hW8 _) _) (fun k hk => (row_blk hrow8 hk).1)).setCell ⟨b, 4, none⟩ (.slice a9 (i + 1) d9) (.inr hb1))
                        have HROW9 := Lib.hid (row_setCell (b := b) (i := 4) (u := .slice a9 (i + 1) d9) h9 hbb9 (by decide))
                        have g4 := frozen_whole hbb9 4
                        have g4' := cell_whole hbb9 4
                        simp only [List.getElem?_toArray, List.getElem?_cons_succ, List.getElem?_cons_zero] at g4'
                        clear h9 hg9 hrow8 hbb8 hbb9
                        go_wp2
                        go_roundw
                        case rel => exact ⟨i + 1, all + ((tt : Int) - (f : Int)), rs ++ [((f : Int), (tt : Int))], l6, _, by omega, by go_num, by go_num, by omega, by omega, by rw [← HRUN.out, HST2.out], by omega, (by rw [set_whole (i := 4) HBB9.out]; rfl), by rw [List.length_append, HRL.out]; rfl, by rw [rcells_snoc]; exact HROW9.out, HT9.out, HO9.out⟩
                        case measure => simp [intOf]; omega
                · obtain rfl : i = n := by omega
                  have HRN := Lib.hid (show runsD i 0 [] l4 = some (all, rs, l') by rw [← HRUN.out, Nat.sub_self]; rfl)
                  clear HRUN
                  have hi16 : i ≤ 524288 := by omega
                  obtain ⟨A, rfl⟩ : ∃ A : Nat, all = (A : Int) := ⟨all.toNat, by omega⟩
                  have eA : ((A : Int) * 512).toNat = A * 512 := by omega
                  have c5 := cell_whole HBBr.out 5
                  have f5 := frozen_whole HBBr.out 5
                  simp only [List.getElem?_toArray, List.getElem?_cons_succ, List.getElem?_cons_zero] at c5
                  cases h5 : takeB (A * 512) l' with
                  | none =>
                    have HPOST := Lib.hid (fun wx => HPANIC.out wx (by rw [HF.out, HRN.out]; simp only; rw [eA, h5]))
                    have HTN := Lib.hid (show ∀ w, TkAt W0 w p l' → Calls Tryd.prog 47 #[.pointer (some ⟨p, 0, none⟩), .int .i64 ((A : Int) * 512)] w fun e w' => e = shortE ∧ w' = w from fun w h => by
                      rw [show ((A : Int) * 512) = ((A * 512 : Nat) : Int) by push_cast; rfl]
                      exact (take_walk W0 p l' (A * 512 : Nat) w h (by omega)).mono fun e w' h => takePost_none h5 h)
                    clear h5
                    go_wp2_with fail
                    refine wp_canon_panic 5 [0, 1] [[2, 3, 4], [0, 2, 3, 4], [0, 1, 2, 3, 4]] (by kernel_rfl) (by kernel_rfl) (by kernel_rfl) ⟨?_, ?_, ?_, trivial⟩
                    all_goals simp only [fm_cons, List.filterMap_nil, List.getElem?_toArray, List.getElem?_cons_zero, List.getElem?_cons_succ, Option.elim_some]
                    all_goals
                      go_wp2
                      refine ⟨rfl, ?_⟩
                      go_wp2_with fail
                      refine (HTN.out _ (HTr.out.drew)).mono ?_
                      rintro e w7 ⟨rfl, rfl⟩
                      unfold shortE
                      go_wp2
                      exact ⟨rfl, HPOST.out _ HOr.out.drew⟩
                  | some x5 =>
                    obtain ⟨dt, l7⟩ := x5
                    obtain ⟨hl7, hdl, _⟩ := takeB_len h5
                    have HIT := Lib.hid (show itemD 1 l = some ({ kind := (1 : Nat), path := path, target := [], size := wrapB sz, runs := rs, data := dt }, l7) by rw [HF.out, HRN.out]; simp only; rw [eA, h5])
                    have HTN := Lib.hid (show ∀ w, TkAt W0 w p l' → Calls Tryd.prog 47 #[.pointer (some ⟨p, 0, none⟩), .int .i64 ((A : Int) * 512)] w fun e w' => ∃ a, e = .returned (.slice a dt.length dt.length) ∧ BytesAt W0 a dt ∧ TkAt W0 w' p l7 ∧ Out p w.heap.size w w' from fun w h => by
                      rw [show ((A : Int) * 512) = ((A * 512 : Nat) : Int) by push_cast; rfl]
                      exact (take_walk W0 p l' (A * 512 : Nat) w h (by omega)).mono fun e w' h => takePost_some h5 h)
                    have HRW : Hid (wr.drew.ownsRow w1.heap.size 49 2 rv rs.length (rcells rs)) := Lib.hid (by rw [HRL.out]; exact HROW.out)
                    have HBd : Hid (wr.drew.heap[b]? = _) := HBBr
                    have hdl2 : dt.length ≤ 4194304 := by omega
                    clear h5 eA HRL HROW hl7 hdl
                    obtain ⟨i0, hi, hz0, hz1, hz2⟩ := info_parts info5
                    go_wp2_with fail
                    refine wp_canon_call 5 [1] [[2, 3, 4, 5, 0, 1, 6, 7, 8], [0, 1, 2, 3, 4, 5, 6, 7, 8]] (by kernel_rfl) (by kernel_rfl) (by kernel_rfl) ⟨?_, ?_, trivial⟩
                    all_goals simp only [fm_cons, List.filterMap_nil, List.getElem?_toArray, List.getElem?_cons_zero, List.getElem?_cons_succ, Option.elim_some]
                    all_goals
                      go_wp2_with fail
                      refine (HTN.out _ (HTr.out.drew)).mono ?_
                      rintro e w7 ⟨ad, rfl, hbd0, ht7, ho7⟩
                      have hbd := hbd0.below ht7.low
                      have HT7 := Lib.hid ht7
                      have hs7 : wr.heap.size ≤ w7.heap.size := ho7.size
                      have HO7 := Lib.hid ((HOr.out.drew).trans (ho7.mono hsr))
                      have HBB7 := Lib.hid ((ho7.block b hbr hbp).trans HBd.out)
                      have HROW7 := Lib.hid (row_out HRW.out (HTr.out.drew) (by decide) ho7)
                      have g5 := cell_whole HBB7.out 5
                      have k5 := frozen_whole HBB7.out 5
                      simp only [List.getElem?_toArray, List.getElem?_cons_succ, List.getElem?_cons_zero] at g5
                      have hW7 : w1.heap.size ≤ w7.heap.size := by omega
                      clear hbd0 ht7 ho7
                      cases ad with
                      | none =>
                        have hd0 : dt = [] := by
                          rcases hd : dt with _ | ⟨c, r⟩
                          · rfl
                          · obtain ⟨g, off, e, _⟩ := hbd 0 (by rw [hd]; simp)
                            cases e
                        subst hd0
                        clear hbd
                        go_wp2_with (at_builtin; refine wpList_append_own_none2 rfl _ _ 24 rfl w1.heap.size 5 i0 1 0 Tryd.underlying24 hi _ 0 _ rfl (Own.nil _ _ _) rfl ?_)
                        go_wp2
                        refine ⟨rfl, ?_⟩
                        go_wp2
                        go_meet
                        exact ⟨_, _, (rv, .slice none 0 0), HIT.out, (by rw [set_whole (i := 5) HBB7.out]; rfl), ⟨row_setCell HROW7.out HBB7.out (by decide), Own.nil _ _ _⟩, HT7.out.setCell hbp (by omega) _, HO7.out.setCell _ _ (.inr hb1)⟩
                      | some ad =>
                        have HBDT := Lib.hid hbd
                        clear hbd
                        go_wp2_with (at_builtin; refine wpList_append_own _ rfl _ _ 24 rfl w1.heap.size 5 i0 (.int .u8 0) 1 1 Tryd.underlying24 hi hz0 hz1 hz2 rfl (by decide) _ 0 _ rfl (Own.nil _ _ _) ad dt.length dt.length (bcells dt) rfl (by rw [bcells_length]; omega) HBDT.out.news (bcells_oneCell _) (by unfold maxLen; omega) (by omega) hW7 ?_)
                        intro v9 w9 h9 hg9 _
                        obtain ⟨a9, d9, rfl⟩ := Own.form h9
                        have hbb9 : w9.heap[b]? = some _ := (hg9.block b (lt_whole HBB7.out) (fun e => by simp [Value.ownBlock] at e)).trans HBB7.out
                        have HBB9 := Lib.hid hbb9
                        have k9 := frozen_whole hbb9 5
                        have k9' := cell_whole hbb9 5
                        simp only [List.getElem?_toArray, List.getElem?_cons_succ, List.getElem?_cons_zero] at k9'
                        have HT9 := Lib.hid ((HT7.out.grown hg9 (World.ownsRow_nil w7 w1.heap.size 5 1) (by decide) (by omega) (by omega)).setCell (i := 5) hbp (by omega) (.slice a9 dt.length d9))
                        have HO9 := Lib.hid ((HO7.out.grown hg9 hW7 (fun k hk => by simp [Value.ownBlock] at hk)).setCell ⟨b, 5, none⟩ (.slice a9 dt.length d9) (.inr hb1))
                        have HROW9 := Lib.hid (row_setCell (b := b) (i := 5) (u := .slice a9 dt.length d9) (row_grown HROW7.out hg9 (fun k cs hk => by simp [Value.ownBlock] at hk)) hbb9 (by decide))
                        have HD9 := Lib.hid (row_setCell (b := b) (i := 5) (u := .slice a9 dt.length d9) h9 hbb9 (by decide))
                        clear h9 hg9 hbb9
                        go_wp2
                        refine ⟨rfl, ?_⟩
                        go_wp2
                        go_meet
                        exact ⟨_, _, (rv, .slice a9 dt.length d9), HIT.out, (by rw [set_whole (i := 5) HBB9.out]; rfl), ⟨HROW9.out, HD9.out⟩, HT9.out, HO9.out⟩
        · have d1 : ((k : Int) == 1) = false := by rw [beq_eq_false_iff_ne]; omega
          by_cases k34 : k = 3 ∨ k = 4
          · have dd : ((k : Int) == 3) = true ∨ (((k : Int) == 3) = false ∧ ((k : Int) == 4) = true) := by
              rcases k34 with h | h
              · exact .inl (by rw [h]; rfl)
              · exact .inr ⟨by rw [h]; rfl, by rw [h]; rfl⟩
            have HITD2 := Lib.hid (show itemD k l = textD { kind := k, path := path, target := [], size := 0, runs := [], data := [] } l2 by rw [HITD.out, if_neg k1, if_pos k34])
            clear k34
            cases h3 : numB 2 l2 with
            | none =>
              have HN := Lib.hid (tnum_none (n := 2) 2 rfl (by omega) HTb.out (by omega) h3)
              have HPOST := Lib.hid (HPANIC.out wb (by rw [HITD2.out]; unfold textD; rw [h3]) HOb.out)
              clear h3
              rcases dd with dd | ⟨dd, dd2⟩
              all_goals
                go_wp2_with fail
                refine HN.out.mono ?_
                rintro e w4 ⟨rfl, rfl⟩
                unfold shortE
                go_wp2
                exact ⟨rfl, HPOST.out⟩
            | some x3 =>
              obtain ⟨tn, l3⟩ := x3
              obtain ⟨hl3, htn⟩ := numB_len h3
              have HN := Lib.hid (tnum_some (n := 2) 2 rfl (by omega) HTb.out (by omega) h3)
              rw [wrapB_small (show tn < _ by omega)] at HN
              cases h4 : takeB tn l3 with
              | none =>
                have HPOST := Lib.hid (fun wx => HPANIC.out wx (by rw [HITD2.out]; unfold textD; rw [h3]; dsimp only; rw [h4]))
                have HTN := Lib.hid (show ∀ w, TkAt W0 w p l3 → Calls Tryd.prog 47 #[.pointer (some ⟨p, 0, none⟩), .int .i64 tn] w fun e w' => e = shortE ∧ w' = w from fun w h => (take_walk W0 p l3 tn w h (by omega)).mono fun e w' h => takePost_none h4 h)
                clear h3 h4
                rcases dd with dd | ⟨dd, dd2⟩
                all_goals
                  go_wp2_with fail
                  refine HN.out.mono ?_
                  rintro e w4 ⟨rfl, ht4, ho4⟩
                  have HT4 := Lib.hid ht4
                  have HO4 := Lib.hid (HOb.out.trans (ho4.mono (by omega)))
                  clear ht4 ho4
                  go_wp2_with fail
                  refine (HTN.out _ HT4.out).mono ?_
                  rintro e w5 ⟨rfl, rfl⟩
                  unfold shortE
                  go_wp2
                  exact ⟨rfl, HPOST.out _ HO4.out⟩
              | some x4 =>
                obtain ⟨tg, l4⟩ := x4
                have hl4 := (takeB_len h4).1
                have HTX := Lib.hid (show itemD k l = some ({ kind := k, path := path, target := tg, size := 0, runs := [], data := [] }, l4) by rw [HITD2.out]; unfold textD; rw [h3]; dsimp only; rw [h4])
                have HTN := Lib.hid (show ∀ w, TkAt W0 w p l3 → Calls Tryd.prog 47 #[.pointer (some ⟨p, 0, none⟩), .int .i64 tn] w fun e w' => ∃ a, e = .returned (.slice a tg.length tg.length) ∧ BytesAt W0 a tg ∧ TkAt W0 w' p l4 ∧ Out p w.heap.size w w' from fun w h => (take_walk W0 p l3 tn w h (by omega)).mono fun e w' h => takePost_some h4 h)
                clear h3 h4
                rcases dd with dd | ⟨dd, dd2⟩
                all_goals
                  go_wp2_with fail
                  refine HN.out.mono ?_
                  rintro e w4 ⟨rfl, ht4, ho4⟩
                  have HT4 := Lib.hid ht4
                  have HO4 := Lib.hid (HOb.out.trans (ho4.mono (by omega)))
                  have hbb4 : w4.heap[b]? = some _ := (ho4.block b (by omega) hbp).trans HBB.out
                  have HBB4 := Lib.hid hbb4
                  have hs4 : wb.heap.size ≤ w4.heap.size := ho4.size
                  clear ht4 ho4 hbb4
                  go_wp2_with fail
                  refine (HTN.out _ HT4.out).mono ?_
                  rintro e w5 ⟨a5, rfl, hb5, ht5, ho5⟩
                  have HT5 := Lib.hid ht5
                  have HO5 := Lib.hid (HO4.out.trans (ho5.mono (by omega)))
                  have hbb5 : w5.heap[b]? = some _ := (ho5.block b (by omega) hbp).trans HBB4.out
                  have HBB5 := Lib.hid hbb5
                  have hcv := bytes_conv (hb5.below ht5.low) tg.length
                  have c2 := cell_whole hbb5 2
                  have f2 := frozen_whole hbb5 2
                  simp only [List.getElem?_toArray, List.getElem?_cons_succ, List.getElem?_cons_zero] at c2
                  clear ht5 ho5 hb5 hbb5
                  go_wp2
                  go_meet
                  refine ⟨_, _, (.slice none 0 0, .slice none 0 0), HTX.out, by rw [set_whole (i := 2) HBB5.out]; rfl, ⟨World.ownsRow_nil _ _ _ _, World.ownsRow_nil _ _ _ _⟩, HT5.out.setCell hbp (by omega) _, HO5.out.setCell _ _ (.inr (by show _ ≤ b; omega))⟩
          · have d2 : ((k : Int) == 3) = false := by rw [beq_eq_false_iff_ne]; omega
            have d3 : ((k : Int) == 4) = false := by rw [beq_eq_false_iff_ne]; omega
            by_cases k2 : k = 2
            · have HTX := Lib.hid (show itemD k l = some ({ kind := k, path := path, target := [], size := 0, runs := [], data := [] }, l2) by rw [HITD.out, if_neg k1, if_neg k34, if_pos k2])
              have d4 : ((k : Int) == 2) = true := by rw [k2]; rfl
              clear k1 k2 k34
              go_wp2
              go_meet
              exact ⟨_, _, (.slice none 0 0, .slice none 0 0), HTX.out, HBB.out, ⟨World.ownsRow_nil _ _ _ _, World.ownsRow_nil _ _ _ _⟩, HTb.out, HOb.out⟩
            · have d4 : ((k : Int) == 2) = false := by rw [beq_eq_false_iff_ne]; omega
              have HPOST := Lib.hid (HPANIC.out wb (by rw [HITD.out, if_neg k1, if_neg k34, if_neg k2]) HOb.out)
              clear k1 k2 k34
              go_wp2
              exact ⟨rfl, HPOST.out⟩
      case rest =>
        obtain ⟨x, m, d, hit, hbc, hio, htk, hout⟩ := hcut
        have HIT := Lib.hid hit
        have HIO := Lib.hid hio
        have HTK := Lib.hid htk
        have HOUT := Lib.hid hout
        have hR : wc.heap[w.heap.size]? = some (.cells #[.int .i64 0, .string ⟨#[]⟩, .string ⟨#[]⟩, .int .i64 0, .slice none 0 0, .slice none 0 0] 47 (0, 0)) := (hout.block w.heap.size (by omega) (by omega)).trans HR1.out
        have HRES := Lib.hid hR
        obtain ⟨d4, d5⟩ := d
        obtain ⟨ra, rc, e4⟩ := row_form hio.runs
        obtain ⟨da, dc, e5⟩ := row_form hio.data
        simp only at e4 e5
        subst e4
        subst e5
        have c0 := cell_whole hbc 0
        have c1 := cell_whole hbc 1
        have c2 := cell_whole hbc 2
        have c3 := cell_whole hbc 3
        have c4 := cell_whole hbc 4
        have c5 := cell_whole hbc 5
        simp only [icell, List.getElem?_toArray, List.getElem?_cons_succ, List.getElem?_cons_zero] at c0 c1 c2 c3 c4 c5
        have r0 := cell_whole hR 0
        have r1 := cell_whole hR 1
        have r2 := cell_whole hR 2
        have r3 := cell_whole hR 3
        have r4 := cell_whole hR 4
        have r5 := cell_whole hR 5
        simp only [List.getElem?_toArray, List.getElem?_cons_succ, List.getElem?_cons_zero] at r0 r1 r2 r3 r4 r5
        have f0 := frozen_whole hR 0
        have f1 := frozen_whole hR 1
        have f2 := frozen_whole hR 2
        have f3 := frozen_whole hR 3
        have f4 := frozen_whole hR 4
        have f5 := frozen_whole hR 5
        clear hit hbc hio htk hout hR
        go_wp2
        refine bodyPost_ret (results_cell_row (P := Tryd.prog) (p := 4) (ty := 47) rfl _ _ w.heap.size 47 _ (0,0) _ rfl (set_six HRES.out) Tryd.underlying47 rfl (by kernel_rfl)) rfl ?_
        unfold ItemPost
        rw [HIT.out]
        have hWc : w1.heap.size ≤ wc.heap.size := HOUT.out.size
        have hwp : w.heap.size ≠ p := by omega
        refine ⟨(.slice ra x.runs.length rc, .slice da x.data.length dc), rfl, ?_, ?_, ?_⟩
        · refine (HIO.out.mono (by omega)).keep fun k cs t hk hB ht => ?_
          have hne : k ≠ w.heap.size := fun e => by
            rw [e, HRES.out] at hk
            simp at hk
            rcases ht with rfl | rfl <;> simp at hk
          rw [Below.heap_setCell _ _ _ _ hne, Below.heap_setCell _ _ _ _ hne, Below.heap_setCell _ _ _ _ hne, Below.heap_setCell _ _ _ _ hne, Below.heap_setCell _ _ _ _ hne, Below.heap_setCell _ _ _ _ hne]
        · exact (((((HTK.out.setCell hwp hW0 _).setCell hwp hW0 _).setCell hwp hW0 _).setCell hwp hW0 _).setCell hwp hW0 _).setCell hwp hW0 _
        · exact ((((((HO1.out.trans (HOUT.out.mono HO1.out.size)).setCell _ _ (.inr (Nat.le_refl _))).setCell _ _ (.inr (Nat.le_refl _))).setCell _ _ (.inr (Nat.le_refl _))).setCell _ _ (.inr (Nat.le_refl _))).setCell _ _ (.inr (Nat.le_refl _))).setCell _ _ (.inr (Nat.le_refl _))
end Go.Proofs.YtenpihkfghfpaaaDoor
