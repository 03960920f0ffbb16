/- store: numbers: the keys of a map, rising. -/
import Derived.Test.YtikfphojehgpjaaGreatDoorM20
import Derived.Sort.OwnSortedInts
import Derived.Test.YtikfphojehgpjaaGreatDoorM18
set_option linter.unusedSimpArgs false
set_option linter.unusedVariables false
namespace Go.Proofs.YtikfphojehgpjaaGreatDoor
open Go.RowKit Vl Go.Maps Go.ChangeMaps
set_option linter.unusedVariables false

def intV (x : Nat) : Value := .int .i64 x
theorem info3 : (Tryz.prog.info? 3).map (fun i => (i.zero, i.size, i.bytes)) = some (some (.int .i64 0), 1, 8) := by kernel_rfl
theorem sorted_keys {acc ks : List Nat} (h1 : acc.Nodup) (h2 : ks.Pairwise (· < ·)) (h3 : ∀ x, x ∈ acc ↔ x ∈ ks) : ((acc.map fun (x : Nat) => (x : Int)).mergeSort fun x y => decide (x ≤ y)) = ks.map fun (x : Nat) => (x : Int) := by
  have hp : acc.Perm ks := (List.perm_ext_iff_of_nodup h1 (h2.imp (fun h => Nat.ne_of_lt h))).2 h3
  have hp2 : ((acc.map fun (x : Nat) => (x : Int)).mergeSort fun x y => decide (x ≤ y)).Perm (ks.map fun (x : Nat) => (x : Int)) := (List.mergeSort_perm _ _).trans (hp.map _)
  refine List.Perm.eq_of_pairwise (le := fun x y : Int => x ≤ y) (fun a b _ _ h h' => by omega) ?_ ?_ hp2
  · have := List.pairwise_mergeSort (le := fun x y : Int => decide (x ≤ y)) (fun a b c h h' => by simp only [decide_eq_true_eq] at h h' ⊢; omega) (fun a b => by simp only [Bool.or_eq_true, decide_eq_true_eq]; omega) (acc.map fun (x : Nat) => (x : Int))
    exact this.imp (fun h => by simpa using h)
  · rw [List.pairwise_map]
    exact h2.imp (fun h => by omega)
def NumsPost (ks : List Nat) (w : World) (e : Ending) (w' : World) : Prop := ∃ v, e = .returned v ∧ Vl.Own w' w.heap.size 3 v ks.length (ks.map intV) ∧ Kept [] w w'
set_option maxRecDepth 100000 in
set_option maxHeartbeats 2000000 in
theorem numbers_walk (w : World) (b n : Nat) (m : Nat → Option Value) (ks : List Nat) (h : PM w b n m) (hn : n ≤ 1000) (h2 : ks.Pairwise (· < ·)) (h3 : ∀ x, x ∈ ks ↔ (m x).isSome = true) (h0 : ks ≠ []) :
    Calls Tryz.prog 101 #[.map (some b)] w (NumsPost ks w) := by
  obtain ⟨i0, hi, hz0, hz1, hz2⟩ := info_parts info3
  obtain ⟨w0, cnt0, hrg, hr0, hcn, hg0, hs0⟩ := h.range sl117
  have HR0 := Lib.hid hr0
  have HK0 := Lib.hid ((Kept.refl [] w).grown hg0 (fun k hk => by cases hk))
  have HKS := Lib.hid h2
  have HM := Lib.hid h3
  have hbl := h.lt
  have h0' := h0
  clear hr0 hg0 h h2 h3 h0
  go_enter Tryz.func101, Tryz.ntmps101
  go_wp2_with fail
  generalize hr : w.heap.size = r at *
  have HR := Lib.hid hr
  clear hr
  have hbr : b < r := hbl
  go_loopw [3, 4] (fun v3 _ wr => ∃ (acc : List Nat) (left : Nat → Bool) (cnt : Nat), PMR wr b r n m left cnt ∧ Vl.Own wr (r + 1) 3 v3 acc.length (acc.map intV) ∧ acc.Nodup ∧ (∀ x, x ∈ acc ↔ (m x).isSome = true ∧ left x = false) ∧ acc.length + cnt ≤ n ∧ Kept [] w wr) (fun _ _ wr => wr.rangeLeft b r)
  case atStart => exact ⟨[], _, _, HR0.out, Vl.Own.nil _ _ _, List.nodup_nil, fun x => by simp [Option.isSome_iff_ne_none], by simpa using hcn, HK0.out⟩
  case round =>
    obtain ⟨acc, left, cnt, hpr, ho, hnd, hmem, hcb, hkk⟩ := hrel
    have HPR := Lib.hid hpr
    have HND := Lib.hid hnd
    have HMEM := Lib.hid hmem
    have HKK := Lib.hid hkk
    have hnx := hpr.next 0
    have hrl := hpr.lt
    obtain ⟨av, cv, hv⟩ := ho.form
    have HO := Lib.hid ho
    subst hv
    clear hpr hnd hmem hkk ho
    rcases hnx with ⟨h0, hl0, hrun⟩ | ⟨x, v, w2, cnt', hx, hlx, hmx, hrun, hpr2, hct, hg2, hs2, hen⟩
    · have hsort := sorted_keys HND.out HKS.out (fun x => by rw [HMEM.out, HM.out]; exact ⟨fun h => h.1, fun h => ⟨h, hl0 x⟩⟩)
      have hlen : acc.length = ks.length := by
        have := congrArg List.length hsort
        simpa [List.length_mergeSort] using this
      have hne : acc.length ≠ 0 := by rw [hlen]; exact fun e => h0' (List.eq_nil_of_length_eq_zero e)
      obtain ⟨g, cap, cur, hv, hgb, hcur, hle, hcap, hcs, htk⟩ : ∃ g cap cur, Value.slice av acc.length cv = .slice (some ⟨g, 0, none⟩) acc.length cap ∧ r + 1 ≤ g ∧ wr.heap[g]? = some (.cells cur 3 (0, 0)) ∧ acc.length ≤ cap ∧ cap ≤ maxLen ∧ cur.size = cap * 1 ∧ cur.toList.take (acc.length * 1) = acc.map intV := by
        rcases HO.out.2 with ⟨_, e0⟩ | h
        · exact absurd e0 hne
        · exact h
      injection hv with hv1 _ hv2
      subst hv1; subst hv2
      have hmm : acc.map intV = (acc.map fun (x : Nat) => (x : Int)).map (Value.int .i64) := by rw [List.map_map]; rfl
      have hholds := holds_of_blockI (ss := acc.map fun (x : Nat) => (x : Int)) hcur (by rw [List.length_map, ← hmm, ← htk, Nat.mul_one])
      have hst := Tryz.slices_Sort_int g 0 cv (acc.map fun (x : Nat) => (x : Int)) wr hholds (lt_whole hcur) (by rw [List.length_map]; omega)
      rw [hsort, List.length_map] at hst
      have HST : Hid (Calls Tryz.prog 151 #[.slice (some ⟨g, 0, none⟩) acc.length cv] wr fun e w' => e = .returned (.tuple #[]) ∧ NumsPost ks w (.returned (.slice (some ⟨g, 0, none⟩) acc.length cv)) w') := Lib.hid (hst.mono (by
        rintro e w' ⟨rfl, q, os, rfl⟩
        refine ⟨rfl, _, rfl, ?_, ?_⟩
        · have := ownsRow_sortedI (base := w.heap.size) (n := q) (os := os) (ss := acc.map fun (x : Nat) => (x : Int)) (ts := ks.map fun (x : Nat) => (x : Int)) (by simp [hlen]) (by rw [HR.out]; omega) hcur (by simpa using hle) hcap hcs
          rw [List.length_map, List.map_map, hlen] at this
          rw [hlen]
          exact this
        · exact HKK.out.grown (grownBy_sortedI (n := q) (os := os) _) (fun k e => by injection e with e; subst e; exact .inr (by rw [HR.out]; omega))))
      rw [hlen] at HST
      clear hst hholds hmm hcur hle hcs htk hsort hl0
      go_wp2_with fail
      refine HST.out.mono ?_
      rintro e w5 ⟨rfl, hpost⟩
      have HEND := Lib.hid hpost
      clear hpost
      go_wp2
      go_ret
      exact HEND.out
    · have hHK2 : Kept [r] wr w2 := (Kept.refl [r] wr).grown hg2 (fun k e => by injection e with e; subst e; exact .inl (by simp))
      have ho2 : Vl.Own w2 (r + 1) 3 (.slice av acc.length cv) acc.length (acc.map intV) := HO.out.keep fun k hk => hHK2.block k (HO.out.block hk).2.1 (by simp; have := (HO.out.block hk).1; omega)
      have HO2 := Lib.hid ho2
      have HPR2 := Lib.hid hpr2
      have hs2' : r + 1 ≤ w2.heap.size := by omega
      have HK2 := Lib.hid ((HKK.out.mono (G := [r]) (by simp)).trans hHK2 (by simp))
      have HND2 := Lib.hid (show (acc ++ [x]).Nodup from by
        rw [List.nodup_append]
        exact ⟨HND.out, by simp, fun a ha b hb => by
          simp at hb; subst hb
          intro e; subst e
          have := ((HMEM.out a).1 ha).2
          rw [hlx] at this; cases this⟩)
      have HMEM2 := Lib.hid (show ∀ y, y ∈ acc ++ [x] ↔ (m y).isSome = true ∧ (left y && !(y == x)) = false from fun y => by
        rw [List.mem_append, HMEM.out, List.mem_singleton]
        by_cases e : y = x
        · subst e; simp [hmx]
        · simp [e])
      clear hHK2 ho2 hpr2 hg2 hs2 hlx
      have hxb : (x : Int) < 65536 := by omega
      go_wp2_with (at_builtin; refine wpList_append_own _ rfl _ _ 156 rfl (r + 1) 3 i0 (.int .i64 0) 1 8 Tryz.underlying156 hi hz0 hz1 hz2 rfl (by decide) _ _ _ rfl (HO2.out.alloc _) ⟨w2.heap.size, 0, none⟩ 1 1 [.int .i64 x] rfl rfl (new_cells _ [.int .i64 x] _ _ rfl) (Vl.one_cell rfl) (by unfold maxLen; omega) (by omega) (le_alloc hs2' _) ?_)
      intro v5 w5 h5 hg5 _
      have hfr : ∀ k, k ≤ r → w5.heap[k]? = w2.heap[k]? := fun k hk => by
        rw [hg5.block k (by rw [size_alloc]; omega) (fun e => by have := (HO2.out.block e.symm).1; omega), Below.heap_alloc _ _ k (by omega)]
      have HPR5 := Lib.hid (HPR2.out.keep (hfr b (by omega)) (hfr r (Nat.le_refl _)))
      have HK5 := Lib.hid (((HK2.out.mono (G := []) (by simp [HR.out])).alloc (.cells #[.int .i64 x] 3)).grown hg5 (fun k e => .inr (by have := (HO2.out.block e).1; rw [HR.out]; omega)))
      have HO5 := Lib.hid (show Vl.Own w5 (r + 1) 3 v5 (acc ++ [x]).length ((acc ++ [x]).map intV) from by
        rw [List.length_append, List.map_append]; exact h5)
      clear hfr h5 hg5
      go_wp2
      go_roundw
      case rel =>
        exact ⟨acc ++ [x], _, cnt', HPR5.out, HO5.out, HND2.out, HMEM2.out, by rw [List.length_append]; simp; omega, HK5.out⟩
      case measure =>
        rw [HPR5.out.left_eq, HPR.out.left_eq]; exact hct
end Go.Proofs.YtikfphojehgpjaaGreatDoor
/- store: a transaction: changed, end. -/
namespace Go.Proofs.YtikfphojehgpjaaGreatDoor
open Go.RowKit Vl Go.Maps Go.ChangeMaps
set_option linter.unusedVariables false
section
variable {w w' : World} {X : TxC} {n : Nat} {m : Nat → Option (List UInt8)}
/-- Does a block that was put differ from what is committed? -/
def dif (X : TxC) (m : Nat → Option (List UInt8)) (b : Nat) : Bool := match m b with
  | some l => !(X.D.now (X.Y.home + b) == l)
  | none => false
def chg (X : TxC) (m : Nat → Option (List UInt8)) (b : Nat) : Option (List UInt8) := if dif X m b = true then m b else none
def ChgPost (X : TxC) (n : Nat) (m : Nat → Option (List UInt8)) (w : World) (e : Ending) (w' : World) : Prop :=
  ∃ out, w.heap.size ≤ out ∧ e = .returned (.tuple #[.map (some out), .int .i64 0]) ∧ OwnMap w' X.base out n (chg X m) ∧ TxAt w' X n m ∧ Kept [X.d] w w'
set_option maxRecDepth 100000 in
set_option maxHeartbeats 2000000 in
theorem changed_walk (ok : TxOk X) (h : TxAt w X n m) (hn : n ≤ 1000) (hbl : ∀ b, m b ≠ none → b < X.Y.blocks) : Calls Tryz.prog 116 #[.pointer (some ⟨X.t, 0, none⟩)] w (ChgPost X n m w) := by
  have HOK := Lib.hid ok
  have HBL := Lib.hid hbl
  obtain ⟨mv, hpm, hmv⟩ := h.own
  obtain ⟨x0, hd0⟩ := h.disk
  have hk1 := (Kept.refl [] w).alloc (.map #[] 0)
  have hpm1 := hpm.keep (hk1.block _ hpm.lt (by simp))
  obtain ⟨w0, cnt0, hrg, hr0, hcn, hg0, hs0⟩ := hpm1.range sl117
  have hmm := @run_makeMap Tryz.prog
  have H := Lib.hid h
  have HMV := Lib.hid hmv
  have hk0 : Kept [] w w0 := hk1.grown hg0 (fun k e => by cases e)
  obtain ⟨d0, d1, _⟩ := h.cells
  have hlt := lt_whole h.tx
  have hsz1 := size_alloc w (.map #[] 0)
  have hmade := (PM.made w).keep (w' := w0) (hg0.block _ (by rw [size_alloc]; omega) (by simp))
  have HMADE := Lib.hid hmade
  have HPM := Lib.hid hpm
  have HR0 := Lib.hid hr0
  have HK0 := Lib.hid hk0
  have HD0 := Lib.hid (hd0.kept0 hk0)
  rw [hsz1] at hs0 HR0 hrg
  clear hmade hpm hpm1 hmv hd0 hk1 hr0 hg0 h ok hbl
  go_enter Tryz.func116, Tryz.ntmps116
  go_wp2_with fail
  generalize hout : w.heap.size = out at *
  have HOUT := Lib.hid hout
  clear hmm hsz1 hout
  go_loopw [5, 6, 7, 8] (fun _ _ _ _ wr => ∃ (left : Nat → Bool) (cnt k : Nat) (x : Int), PMR wr X.own (out + 1) n mv left cnt ∧ k + cnt ≤ n ∧ PM wr out k (fun b => if (!left b && dif X m b) = true then mv b else none) ∧ DiskAt wr X.d X.du X.mp X.base (X.D.rdd x) ∧ Kept [X.d] w wr) (fun _ _ _ _ wr => wr.rangeLeft X.own (out + 1))
  case atStart =>
    refine ⟨_, cnt0, 0, x0, HR0.out, by omega, ?_, HD0.out, HK0.out.mono (by simp)⟩
    have : (fun b => if (!(mv b).isSome && dif X m b) = true then mv b else none) = fun _ => (none : Option Value) := by
      funext b
      cases hb : mv b with
      | none => simp
      | some v => simp
    rw [this]
    exact HMADE.out
  case round =>
    obtain ⟨left, cnt, k, x, hpr, hkc, hpo, hdr, hkr⟩ := hrel
    have HPR := Lib.hid hpr
    have HPO := Lib.hid hpo
    have HDR := Lib.hid hdr
    have HKR := Lib.hid hkr
    have HTR := Lib.hid (H.out.read HOK.out hkr hdr)
    have hnx := hpr.next 0
    have hbase := H.out.base_le
    have hlow := HOK.out.low
    have hrl := hpr.lt
    have hol := hpo.lt
    rw [HOUT.out] at hbase
    clear hpr hpo hdr hkr
    rcases hnx with ⟨h0, hl0, hrun⟩ | ⟨y, v, w2, cnt', hy, hly, hmy, hrun, hpr2, hct, hg2, hs2, hen⟩
    · have HEND := Lib.hid (show ChgPost X n m w (.returned (.tuple #[.map (some out), .int .i64 0])) wr from ⟨out, Nat.le_of_eq HOUT.out, rfl, ⟨_, HPO.out.mono (by omega), fun b => by
        have hd := H.out.base_le
        show (chg X m b = none ∧ (if (!left b && dif X m b) = true then mv b else none) = none) ∨ _
        rw [hl0 b]
        unfold chg
        cases hdf : dif X m b with
        | false => exact .inl ⟨by simp, by simp⟩
        | true =>
          rcases HMV.out b with ⟨h1, h2⟩ | ⟨l, v, h1, h2, h3, h4⟩
          · exact .inl ⟨by simp [h1], by simp [h2]⟩
          · exact .inr ⟨l, v, by simp [h1], by simp [h2], h3, h4.keep fun q hq => HKR.out.block q (h4.block hq).2.1 (by simp; have := (h4.block hq).1; omega)⟩⟩, HTR.out, HKR.out⟩)
      clear hl0
      go_wp2
      refine bodyPost_ret (results_tmp2 rfl _ _ _) rfl ?_
      exact HEND.out
    · have hk2 : Kept [out + 1] wr w2 := (Kept.refl [out + 1] wr).grown hg2 (fun k e => by injection e with e; subst e; exact .inl (by simp))
      have hkw2 : Kept [X.d] w w2 := HKR.out.trans hk2 (by simp [HOUT.out])
      have hd2 := HDR.out.keptN HOK.out.pend hk2 (by simp; omega) (by simp; omega) (by simp; omega)
      have ht2 := H.out.read HOK.out hkw2 hd2
      obtain ⟨l, hml, hel⟩ : ∃ l, m y = some l ∧ ElAt w X.base l v := by
        rcases HMV.out y with ⟨_, h2⟩ | ⟨l, v', h1, h2, h3⟩
        · rw [hmy] at h2; cases h2
        · rw [hmy] at h2; injection h2 with h2; subst h2
          exact ⟨l, h1, h3⟩
      have HCM := Lib.hid (committed_walk HOK.out ht2 y (HBL.out y (by rw [hml]; simp)))
      obtain ⟨a, c, hv⟩ := hel.2.form
      have HEL := Lib.hid hel
      have HPO2 := Lib.hid (HPO.out.keep (hk2.block _ hol (by simp)))
      have HPR2 := Lib.hid hpr2
      have HKW2 := Lib.hid hkw2
      have HML := Lib.hid hml
      have hs2' : w2.heap.size = wr.heap.size := hs2
      obtain ⟨e0, e1, _⟩ := ht2.cells
      have hlt2 := lt_whole ht2.tx
      clear hg2 hk2 hd2 ht2 hml hel hpr2 hkw2 hs2
      subst hv
      go_wp2_with fail
      refine HCM.out.mono ?_
      rintro e w3 ⟨v3, rfl, ho3, ht3, hk3⟩
      obtain ⟨a3, c3, rfl⟩ := ho3.form
      obtain ⟨hl3, hb3⟩ := BytesAt.of_own ho3
      have hown3 : Vl.Own w3 X.base 5 (.slice a 512 c) 512 (bcells l) := HEL.out.2.keep fun q hq => by
        have hq1 := (HEL.out.2.block hq).1
        have hq2 := (HEL.out.2.block hq).2.1
        rw [hk3.block q (by have := HKW2.out.size; omega) (by simp; omega)]
        exact HKW2.out.block q hq2 (by simp; omega)
      obtain ⟨hl4, hb4⟩ := BytesAt.of_own hown3
      have heq := equal_walk a3 a (X.D.now (X.Y.home + y)) l c3 c w3 hb3 hb4
      rw [← hl3, ← hl4] at heq
      obtain ⟨x3, hd3⟩ := ht3.disk
      have HKW3 := Lib.hid (HKW2.out.trans hk3 (by simp))
      have HD3 := Lib.hid hd3
      have HPR3 := Lib.hid (HPR2.out.keep (hk3.block _ (by have := HPR2.out.owns.lt; omega) (by simpa using HOK.out.nd.2.1.symm)) (hk3.block _ HPR2.out.lt (by simp; omega)))
      have HPO3 := Lib.hid (HPO2.out.keep (hk3.block _ (by omega) (by simp; omega)))
      have HEQ := Lib.hid heq
      clear ho3 ht3 hk3 hl3 hb3 hown3 hl4 hb4 heq hd3 HCM
      have HDF : Hid (dif X m y = !(X.D.now (X.Y.home + y) == l)) := Lib.hid (by unfold dif; rw [HML.out])
      cases hq : (X.D.now (X.Y.home + y) == l) with
      | true =>
        rw [hq] at HEQ HDF
        have HPO4 := Lib.hid (show PM w3 out k (fun b => if (!(left b && !(b == y)) && dif X m b) = true then mv b else none) from by
          have : (fun b => if (!(left b && !(b == y)) && dif X m b) = true then mv b else none) = (fun b => if (!left b && dif X m b) = true then mv b else none) := by
            funext b
            by_cases e : b = y
            · subst e; simp [HDF.out]
            · simp [e]
          rw [this]; exact HPO3.out)
        clear hq
        go_wp2_with fail
        refine HEQ.out.mono ?_
        rintro e w4 ⟨rfl, rfl⟩
        go_wp2
        go_roundw
        case rel => exact ⟨_, cnt', k, x3, HPR3.out, by omega, HPO4.out, HD3.out, HKW3.out⟩
        case measure => rw [HPR3.out.left_eq, HPR.out.left_eq]; exact hct
      | false =>
        rw [hq] at HEQ HDF
        obtain ⟨w5, hst, hpo5, hg5, hs5⟩ := HPO3.out.store sl117 hy (by omega) (.slice a 512 c)
        have hk5 : Kept [out] w3 w5 := (Kept.refl [out] w3).grown hg5 (fun k e => by injection e with e; subst e; exact .inl (by simp))
        have HPO5 := Lib.hid (show PM w5 out (k + 1) (fun b => if (!(left b && !(b == y)) && dif X m b) = true then mv b else none) from by
          have : (fun b => if (!(left b && !(b == y)) && dif X m b) = true then mv b else none) = upd (fun b => if (!left b && dif X m b) = true then mv b else none) y (some (.slice a 512 c)) := by
            funext b
            by_cases e : b = y
            · subst e; rw [upd_same]; simp [HDF.out, hmy]
            · rw [upd_other _ _ e]; simp [e]
          rw [this]; exact hpo5)
        have HPR5 := Lib.hid (HPR3.out.keep (hk5.block _ HPR3.out.owns.lt (by simp; omega)) (hk5.block _ HPR3.out.lt (by simp)))
        have HD5 := Lib.hid (HD3.out.keptN HOK.out.pend hk5 (by simp; omega) (by simp; omega) (by simp; omega))
        have HK5 := Lib.hid (HKW3.out.trans hk5 (by simp [HOUT.out]))
        clear hq hpo5 hg5 hs5 hk5
        go_wp2_with fail
        refine HEQ.out.mono ?_
        rintro e w4 ⟨rfl, rfl⟩
        go_wp2
        go_roundw
        case rel => exact ⟨_, cnt', k + 1, x3, HPR5.out, by omega, HPO5.out, HD5.out, HK5.out⟩
        case measure => rw [HPR5.out.left_eq, HPR.out.left_eq]; exact hct
end
end Go.Proofs.YtikfphojehgpjaaGreatDoor
/- store: pack. -/
namespace Go.Proofs.YtikfphojehgpjaaGreatDoor
open Go.RowKit Vl Go.Maps Go.ChangeMaps
set_option linter.unusedVariables false

def packB (ks : List Nat) (f : Nat → List UInt8) : List UInt8 := leB ks.length 2 ++ ks.flatMap (fun b => leB b 4) ++ ks.flatMap f
def PackPost (l : List UInt8) (w : World) (e : Ending) (w' : World) : Prop := ∃ v, e = .returned v ∧ Vl.Own w' w.heap.size 5 v l.length (bcells l) ∧ Kept [] w w'
theorem leB2 (v : Nat) : leB v 2 = [UInt8.ofNat (v % 256), UInt8.ofNat (v / 256 % 256)] := rfl
theorem leB4 (v : Nat) : leB v 4 = [UInt8.ofNat (v % 256), UInt8.ofNat (v / 256 % 256), UInt8.ofNat (v / 256 / 256 % 256), UInt8.ofNat (v / 256 / 256 / 256 % 256)] := rfl
theorem ofNat_cell (v : Nat) : ((UInt8.ofNat (v % 256)).toNat : Int) = (v : Int) % 256 := by rw [UInt8.toNat_ofNat']; omega
theorem flat4_length (ks : List Nat) : (ks.flatMap (fun b => leB b 4)).length = 4 * ks.length := by
  induction ks with
  | nil => rfl
  | cons a l ih => rw [List.flatMap_cons, List.length_append, ih, leB_length, List.length_cons]; omega
set_option maxRecDepth 100000 in
set_option maxHeartbeats 2000000 in
theorem pack_walk (w : World) (base out n : Nat) (mm : Nat → Option (List UInt8)) (f : Nat → List UInt8) (ks : List Nat) (h : OwnMap w base out n mm) (hn : n ≤ 1000) (h2 : ks.Pairwise (· < ·)) (h3 : ∀ x, x ∈ ks ↔ (mm x).isSome = true) (h0 : ks ≠ [])
    (hks : ks.length ≤ 16) (hb : ∀ b ∈ ks, b < 65536) (hf : ∀ b ∈ ks, mm b = some (f b)) :
    Calls Tryz.prog 118 #[.map (some out)] w (PackPost (packB ks f) w) := by
  obtain ⟨mv, hpm, hmv⟩ := h
  have hnum := numbers_walk w out n mv ks hpm hn h2 (fun x => by
    rw [h3]
    rcases hmv x with ⟨e1, e2⟩ | ⟨l, v, e1, e2, _⟩
    · rw [e1, e2]; simp
    · rw [e1, e2]; simp) h0
  obtain ⟨i0, hi, hz0, hz1, hz2⟩ := info_parts info5
  have HN := Lib.hid hnum
  have HPM := Lib.hid hpm
  have HMV := Lib.hid hmv
  have HB := Lib.hid hb
  have HF := Lib.hid hf
  have HFL : Hid (∀ k, k ≤ ks.length → ((ks.take k).flatMap f).length = 512 * k) := Lib.hid (fun k hk => by
    induction k with
    | zero => rfl
    | succ k ih =>
      rw [List.take_succ_eq_append_getElem (by omega), List.flatMap_append, List.length_append, ih (by omega)]
      have hfx := hf ks[k] (List.getElem_mem _)
      rcases hmv ks[k] with ⟨e1, _⟩ | ⟨l, v, e1, _, e3, _⟩
      · rw [hfx] at e1; cases e1
      · rw [hfx] at e1
        injection e1 with e1
        simp [e1, e3]
        omega)
  clear hnum hpm hmv h2 h3 hb hf
  go_enter Tryz.func118, Tryz.ntmps118
  go_wp2_with fail
  refine HN.out.mono ?_
  rintro e w1 ⟨v1, rfl, ho1, hk1⟩
  obtain ⟨a1, c1, rfl⟩ := ho1.form
  have HO1 := Lib.hid ho1
  have HK1 := Lib.hid hk1
  clear ho1 hk1 HN
  have hne : ks.length ≠ 0 := fun e => h0 (List.eq_nil_of_length_eq_zero e)
  obtain ⟨g1, rfl⟩ : ∃ g1, a1 = some ⟨g1, 0, none⟩ := by
    rcases HO1.out.2 with ⟨_, e0⟩ | ⟨g, cap, cur, hv, _⟩
    · exact absurd e0 hne
    · injection hv with hv1 _ _
      exact ⟨g, hv1⟩
  have hint : ∀ (k : Nat) (hk : k < ks.length), w1.cell? ⟨g1, k, none⟩ = some (.int .i64 ks[k]) := fun k hk => by
    have := (HO1.out.cells rfl).2.2.2 k hk
    rw [this, List.getElem?_map, List.getElem?_eq_getElem hk]; rfl
  have hgl : g1 < w1.heap.size := (HO1.out.block rfl).2.1
  have HINT := Lib.hid hint
  have hbc : bcells (leB ks.length 2) = [.int .u8 ks.length, .int .u8 ((ks.length : Int) / 256)] := by
    have e1 : ((UInt8.ofNat (ks.length % 256)).toNat : Int) = (ks.length : Int) := by rw [UInt8.toNat_ofNat']; omega
    have e2 : ((UInt8.ofNat (ks.length / 256 % 256)).toNat : Int) = (ks.length : Int) / 256 := by rw [UInt8.toNat_ofNat']; omega
    rw [leB2]
    unfold bcells
    simp only [List.map_cons, List.map_nil, e1, e2]
  have HOB := Lib.hid (show Vl.Own (w1.alloc (.cells #[.int .u8 ks.length, .int .u8 ((ks.length : Int) / 256)] 5)) w1.heap.size 5 (.slice (some ⟨w1.heap.size, 0, none⟩) 2 2) (leB ks.length 2).length (bcells (leB ks.length 2)) from
    ⟨by rw [bcells_length, leB_length], .inr ⟨w1.heap.size, 2, _, by rw [leB_length], Nat.le_refl _, heap_alloc_new w1 _, by rw [leB_length]; omega, by unfold maxLen; omega, rfl, by rw [hbc, leB_length]; rfl⟩⟩)
  have HBW := Lib.hid ((Below.refl w1.heap.size w1).alloc (Nat.le_refl _) (.cells #[.int .u8 ks.length, .int .u8 ((ks.length : Int) / 256)] 5))
  clear hint hbc
  go_upto_region 3 with fail
  generalize w1.alloc (.cells #[.int .u8 ks.length, .int .u8 ((ks.length : Int) / 256)] 5) = w2 at *
  generalize hB1 : w1.heap.size = B at *
  have HB1 := Lib.hid hB1
  clear hB1
  go_wp2_with fail
  go_loopw [4, 6, 21] (fun v4 _ v21 wr => ∃ k : Nat, k ≤ ks.length ∧ v21 = .int .i64 k ∧ Vl.Own wr B 5 v4 (leB ks.length 2 ++ (ks.take k).flatMap (fun b => leB b 4)).length (bcells (leB ks.length 2 ++ (ks.take k).flatMap (fun b => leB b 4))) ∧ Below B w1 wr) (fun _ _ v21 _ => ks.length - (intOf v21).toNat)
  case atStart => exact ⟨0, by omega, rfl, by simpa using HOB.out, HBW.out⟩
  case round =>
    obtain ⟨k, hk, rfl, ho, hbw⟩ := hrel
    have HW := Lib.hid hbw
    have hsz : B ≤ wr.heap.size := by have := hbw.size; rw [HB1.out] at this; exact this
    obtain ⟨av, cv, hv⟩ := ho.form
    have hlen : (leB ks.length 2 ++ (ks.take k).flatMap (fun b => leB b 4)).length = 2 + 4 * k := by
      rw [List.length_append, leB_length, flat4_length, List.length_take, Nat.min_eq_left hk]
    rw [hlen] at hv
    rw [hlen] at ho
    have HLEN := Lib.hid hlen
    have HO := Lib.hid ho
    clear hbw ho hlen
    subst hv
    by_cases hlt : k < ks.length
    · have hc := (HW.out.cell (p := ⟨g1, k, none⟩) hgl).trans (HINT.out k hlt)
      have hx := HB.out ks[k] (List.getElem_mem hlt)
      have HTK : Hid ((ks.take (k + 1)).flatMap (fun b => leB b 4) = (ks.take k).flatMap (fun b => leB b 4) ++ leB ks[k] 4) := Lib.hid (by
        rw [List.take_succ_eq_append_getElem hlt, List.flatMap_append]; simp)
      generalize ks[k] = x at *
      have hgw : g1 < wr.heap.size := by omega
      go_upto_region 6 with fail
      have HBY := Lib.hid (show bcells (leB x 4) = [.int .u8 ((x : Int) % 256), .int .u8 ((x : Int) / 256), .int .u8 ((x : Int) / 65536), .int .u8 ((x : Int) / 16777216)] from by
        have e1 : ((UInt8.ofNat (x % 256)).toNat : Int) = (x : Int) % 256 := ofNat_cell x
        have e2 : ((UInt8.ofNat (x / 256 % 256)).toNat : Int) = (x : Int) / 256 := by rw [ofNat_cell]; omega
        have e3 : ((UInt8.ofNat (x / 256 / 256 % 256)).toNat : Int) = (x : Int) / 65536 := by rw [ofNat_cell]; omega
        have e4 : ((UInt8.ofNat (x / 256 / 256 / 256 % 256)).toNat : Int) = (x : Int) / 16777216 := by rw [ofNat_cell]; omega
        rw [leB4]
        unfold bcells
        simp only [List.map_cons, List.map_nil, e1, e2, e3, e4])
      go_wp2_with (at_builtin; refine wpList_append_own _ rfl _ _ 22 rfl B 5 i0 (.int .u8 0) 1 1 Tryz.underlying22 hi hz0 hz1 hz2 rfl (by decide) _ (2 + 4 * k) _ rfl (HO.out.alloc _) ⟨wr.heap.size, 0, none⟩ 4 4 [.int .u8 ((x : Int) % 256), .int .u8 ((x : Int) / 256), .int .u8 ((x : Int) / 65536), .int .u8 ((x : Int) / 16777216)] rfl rfl (new_cells _ [.int .u8 ((x : Int) % 256), .int .u8 ((x : Int) / 256), .int .u8 ((x : Int) / 65536), .int .u8 ((x : Int) / 16777216)] _ _ rfl) (by intro u hu; simp at hu; rcases hu with rfl | rfl | rfl | rfl <;> rfl) (by unfold maxLen; omega) (by omega) (le_alloc hsz _) ?_)
      intro v5 w5 h5 hg5 _
      rw [← HBY.out] at h5
      have HB5 := Lib.hid (HW.out.trans ((((Below.refl B wr).alloc hsz (.cells #[.int .u8 ((x : Int) % 256), .int .u8 ((x : Int) / 256), .int .u8 ((x : Int) / 65536), .int .u8 ((x : Int) / 16777216)] 5)).grown hg5 (le_alloc hsz _) (fun q hq => (HO.out.block hq).1))))
      have HO5 := Lib.hid (show Vl.Own w5 B 5 v5 (leB ks.length 2 ++ (ks.take (k + 1)).flatMap (fun b => leB b 4)).length (bcells (leB ks.length 2 ++ (ks.take (k + 1)).flatMap (fun b => leB b 4))) from by
        rw [HTK.out, ← List.append_assoc, List.length_append, HLEN.out, leB_length, bcells_append]; exact h5)
      clear h5 hg5
      go_wp2
      go_roundw
      case rel => exact ⟨k + 1, by omega, by go_num, HO5.out, HB5.out⟩
      case measure => simp [intOf]; omega
    · obtain rfl : k = ks.length := by omega
      have HTK : Hid (ks.take ks.length = ks) := Lib.hid (List.take_length)
      have ho3 := HO.out
      rw [HTK.out] at ho3
      have HO3 := Lib.hid ho3
      have HL3 := Lib.hid (show (leB ks.length 2 ++ ks.flatMap (fun b => leB b 4)).length = 2 + 4 * ks.length from by rw [← HLEN.out, HTK.out])
      clear ho3
      go_wp2_with fail
      go_loopw [4, 8, 42] (fun v4 _ v42 wq => ∃ k : Nat, k ≤ ks.length ∧ v42 = .int .i64 k ∧ Vl.Own wq B 5 v4 (leB ks.length 2 ++ ks.flatMap (fun b => leB b 4) ++ (ks.take k).flatMap f).length (bcells (leB ks.length 2 ++ ks.flatMap (fun b => leB b 4) ++ (ks.take k).flatMap f)) ∧ Below B w1 wq) (fun _ _ v42 _ => ks.length - (intOf v42).toNat)
      case atStart =>
        refine ⟨0, by omega, rfl, ?_, HW.out⟩
        rw [List.take_zero, List.flatMap_nil, List.append_nil, HL3.out]
        exact HO3.out
      case round =>
        obtain ⟨k, hk, rfl, ho, hbw⟩ := hrel
        have HQ := Lib.hid hbw
        have hszq : B ≤ wr.heap.size := by have := hbw.size; rw [HB1.out] at this; exact this
        obtain ⟨aq, cq, hv⟩ := ho.form
        have hfl : ((ks.take k).flatMap f).length = 512 * k := HFL.out k hk
        have hlen : (leB ks.length 2 ++ ks.flatMap (fun b => leB b 4) ++ (ks.take k).flatMap f).length = 2 + 4 * ks.length + 512 * k := by
          rw [List.length_append, HL3.out, hfl]
        rw [hlen] at hv
        rw [hlen] at ho
        have HLENQ := Lib.hid hlen
        have HOQ := Lib.hid ho
        clear hbw ho hlen hfl
        subst hv
        by_cases hlt : k < ks.length
        · have hc := (HQ.out.cell (p := ⟨g1, k, none⟩) hgl).trans (HINT.out k hlt)
          have hx := HB.out ks[k] (List.getElem_mem hlt)
          have hfx := HF.out ks[k] (List.getElem_mem hlt)
          have HTKQ : Hid ((ks.take (k + 1)).flatMap f = (ks.take k).flatMap f ++ f ks[k]) := Lib.hid (by
            rw [List.take_succ_eq_append_getElem hlt, List.flatMap_append]; simp)
          generalize ks[k] = x at *
          have hgw : g1 < wr.heap.size := by omega
          have hsame : ∀ q, q < w.heap.size → wr.heap[q]? = w.heap[q]? := fun q hq => (HQ.out.block q (by have := HK1.out.size; have := HB1.out; omega)).trans (HK1.out.block q hq (by simp))
          obtain ⟨l, v, e1, e2, e3, e4⟩ : ∃ l v, mm x = some l ∧ mv x = some v ∧ ElAt w base l v := by
            rcases HMV.out x with ⟨e1, _⟩ | h
            · rw [hfx] at e1; cases e1
            · exact h
          rw [hfx] at e1
          injection e1 with e1
          have hlk := (HPM.out.keep (hsame out HPM.out.lt)).lookup sl117 hx
          rw [e2] at hlk
          simp only [Option.getD_some] at hlk
          obtain ⟨ax, cx, hvx⟩ := e4.form
          subst hvx
          have hown : Vl.Own wr base 5 (.slice ax 512 cx) 512 (bcells l) := e4.keep fun q hq => hsame q (e4.block hq).2.1
          have hby := (BytesAt.of_own hown).2
          obtain ⟨gx, ox, rfl⟩ : ∃ gx ox, ax = some ⟨gx, ox, none⟩ := by
            obtain ⟨gx, ox, hh, _⟩ := hby 0 (by omega)
            exact ⟨gx, ox, hh⟩
          have HBY := Lib.hid hby
          have HE1 := Lib.hid e1
          have HE3 := Lib.hid e3
          have hbx := hby.range
          clear hsame e1 e2 e3 e4 hown hby hfx
          go_upto_region 11 with fail
          go_wp2_with (at_builtin; refine wpList_append_own _ rfl _ _ 22 rfl B 5 i0 (.int .u8 0) 1 1 Tryz.underlying22 hi hz0 hz1 hz2 rfl (by decide) _ (2 + 4 * ks.length + 512 * k) _ rfl HOQ.out ⟨gx, ox, none⟩ 512 cx (bcells l) rfl (by rw [bcells_length, HE3.out]) (fun j u hj => HBY.out.cells hj) (bcells_oneCell _) (by unfold maxLen; omega) (by omega) hszq ?_)
          intro v5 w5 h5 hg5 _
          have HB5 := Lib.hid (HQ.out.trans ((Below.refl B wr).grown hg5 hszq (fun q hq => (HOQ.out.block hq).1)))
          have HO5 := Lib.hid (show Vl.Own w5 B 5 v5 (leB ks.length 2 ++ ks.flatMap (fun b => leB b 4) ++ (ks.take (k + 1)).flatMap f).length (bcells (leB ks.length 2 ++ ks.flatMap (fun b => leB b 4) ++ (ks.take (k + 1)).flatMap f)) from by
            rw [HTKQ.out, ← List.append_assoc, List.length_append, HLENQ.out, HE1.out, HE3.out, bcells_append]; exact h5)
          clear h5 hg5
          go_wp2
          go_roundw
          case rel => exact ⟨k + 1, by omega, by go_num, HO5.out, HB5.out⟩
          case measure => simp [intOf]; omega
        · obtain rfl : k = ks.length := by omega
          have HEND := Lib.hid (show PackPost (packB ks f) w (.returned (.slice aq (2 + 4 * ks.length + 512 * ks.length) cq)) wr from ⟨_, rfl, by
            have := HOQ.out
            rw [HTK.out] at this
            have hl := HLENQ.out
            rw [HTK.out] at hl
            unfold packB
            rw [hl]
            exact this.mono (by have := HK1.out.size; rw [HB1.out] at this; exact this), HK1.out.past HQ.out (by have := HK1.out.size; rw [HB1.out] at this; exact this)⟩)
          go_wp2
          go_ret
          exact HEND.out
end Go.Proofs.YtikfphojehgpjaaGreatDoor
/- store: a transaction: end, Commit; Abort of a dead one. -/
namespace Go.Proofs.YtikfphojehgpjaaGreatDoor
open Go.RowKit Vl Go.Maps Go.ChangeMaps
set_option linter.unusedVariables false
section
variable {w w' : World} {X : TxC} {n : Nat} {m : Nat → Option (List UInt8)}

def EndPost (t s own d g : Nat) (Y : Lay) (life ov : Nat) (w : World) (e : Ending) (w' : World) : Prop :=
  e = .returned (.tuple #[]) ∧ w'.heap[t]? = some (.cells (txCells s own true) 204 (0, 0)) ∧ StoreAt w' s d g Y life ov false ∧ Kept [t, s, own] w w'
theorem end_walk (t s own d g : Nat) (Y : Lay) (life ov n : Nat) (mv : Nat → Option Value) (hts : t ≠ s) (hto : t ≠ own) (hso : s ≠ own) (w : World) (ht : w.heap[t]? = some (.cells (txCells s own false) 204 (0, 0))) (hs : StoreAt w s d g Y life ov true) (ho : PM w own n mv) :
    Calls Tryz.prog 117 #[.pointer (some ⟨t, 0, none⟩)] w (EndPost t s own d g Y life ov w) := by
  have hk1 : Kept [t, s] w ((w.setCell ⟨t, 3, none⟩ (.bool true)).setCell ⟨s, 9, none⟩ (.bool false)) := ((Kept.refl [t, s] w).setCell _ _ (.inl (by simp))).setCell _ _ (.inl (by simp))
  have ht1 := set_whole (i := 3) ht (.bool true)
  have ht2 := set_other (p := ⟨s, 9, none⟩) (v := .bool false) ht1 (fun e => hts e.symm)
  have hs1 := set_other (p := ⟨t, 3, none⟩) (v := .bool true) (show w.heap[s]? = _ from hs) hts
  have hs2 := set_whole (i := 9) hs1 (.bool false)
  have ho2 := ho.keep (hk1.block _ ho.lt (by simp; exact ⟨fun e => hto e.symm, fun e => hso e.symm⟩))
  obtain ⟨w3, hcl, hp3, hg3, _⟩ := ho2.clear sl117 0
  have t0 : w.cell? ⟨t, 0, none⟩ = some (.pointer (some ⟨s, 0, none⟩)) := cell_whole ht 0
  have t1 : w.cell? ⟨t, 1, none⟩ = some (.map (some own)) := cell_whole ht 1
  have t3 : w.cell? ⟨t, 3, none⟩ = some (.bool false) := cell_whole ht 3
  have tf : w.frozen? ⟨t, 3, none⟩ = false := frozen_whole ht 3
  have s9 : (w.setCell ⟨t, 3, none⟩ (.bool true)).cell? ⟨s, 9, none⟩ = some (.bool true) := cell_whole hs1 9
  have sf : (w.setCell ⟨t, 3, none⟩ (.bool true)).frozen? ⟨s, 9, none⟩ = false := frozen_whole hs1 9
  have tl := lt_whole ht
  have sl := lt_whole (show w.heap[s]? = _ from hs)
  have HEND := Lib.hid (show EndPost t s own d g Y life ov w (.returned (.tuple #[])) w3 from ⟨rfl, grown_whole hg3 ht2 (by simp; exact fun e => hto e.symm), grown_whole hg3 hs2 (by simp; exact fun e => hso e.symm), (hk1.mono (G := [t, s, own]) (by simp)).grown hg3 (fun k e => by injection e with e; subst e; exact .inl (by simp))⟩)
  clear hk1 ht1 ht2 hs1 hs2 ho2 hp3 hg3 ht hs ho
  go_enter Tryz.func117, Tryz.ntmps117
  go_wp2
  go_end0
  exact HEND.out

/-! A burnt disk. -/
theorem burntW_walk (d du mp : Nat) (D : Dk) (w : World) (h : DiskW w d du mp D) (hb : D.burnt = true) :
    Calls Tryz.prog 12 #[.pointer (some ⟨d, 0, none⟩)] w fun e w' => e = .returned (.bool true) ∧ w' = w := by
  unfold Dk.burnt at hb
  rw [Bool.and_eq_true, beq_iff_eq] at hb
  have c2 : w.cell? ⟨d, 2, none⟩ = some (.bool D.fused) := cell_whole h.blk 2
  have c3 : w.cell? ⟨d, 3, none⟩ = some (.int .i64 D.left) := cell_whole h.blk 3
  rw [hb.1] at c2
  rw [hb.2] at c3
  have hl := lt_whole h.blk
  clear h hb
  go_enter Tryz.func12, Tryz.ntmps12
  go_wp2
  go_ret
  exact ⟨rfl, rfl⟩
theorem goneW_walk (w : World) {s d g du mp : Nat} {D : Dk} {Y : Lay} {life ov : Nat} {op : Bool} (h : DiskW w d du mp D) (hb : D.burnt = true) (hS : StoreAt w s d g Y life ov op) :
    Calls Tryz.prog 66 #[.pointer (some ⟨s, 0, none⟩)] w fun e w' => e = .returned (.bool true) ∧ ∃ n, w' = w.drewN n := by
  have hbw := fun n => burntW_walk d du mp D (w.drewN n) ⟨h.blk, h.lft, h.lif, h.rng⟩ hb
  obtain ⟨c0, _⟩ := hS.cells
  have HBW := Lib.hid hbw
  have hlt : s < w.heap.size := lt_whole hS
  clear hbw h hS
  go_enter Tryz.func66, Tryz.ntmps66
  go_wp2_with fail
  go_quiet ((go_at_call 12; exact Calls.quiet_of_same (HBW.out _)))
  go_wp2
  go_ret
  exact ⟨rfl, _, rfl⟩
theorem abortW_walk (w : World) {t s own d g du mp : Nat} {D : Dk} {Y : Lay} {life ov : Nat} {op en : Bool} (h : DiskW w d du mp D) (hb : D.burnt = true) (hS : StoreAt w s d g Y life ov op) (ht : w.heap[t]? = some (.cells (txCells s own en) 204 (0, 0))) :
    Calls Tryz.prog 104 #[.pointer (some ⟨t, 0, none⟩)] w fun e w' => e = .returned (.int .i64 3) ∧ ∃ n, w' = w.drewN n := by
  have HG := Lib.hid (goneW_walk w h hb hS)
  have t0 : w.cell? ⟨t, 0, none⟩ = some (.pointer (some ⟨s, 0, none⟩)) := cell_whole ht 0
  have tl := lt_whole ht
  clear h hS ht
  go_enter Tryz.func104, Tryz.ntmps104
  go_wp2_with fail
  refine HG.out.mono ?_
  rintro e w1 ⟨rfl, n, rfl⟩
  go_wp2
  go_ret
  exact ⟨rfl, _, rfl⟩

/-- What a commit leaves. -/
structure Committed (X : TxC) (n : Nat) (m : Nat → Option (List UInt8)) (l : List UInt8) (w w' : World) (D' : Dk) : Prop where
  disk : DiskAt w' X.d X.du X.mp X.base D'
  sim : Sim X.D D'
  now : D'.now = laid X.D.now X.L.first X.L.epoch ((l.length + 491) / 492) l ((l.length + 491) / 492)
  pend : ∀ j, (j < X.L.first + 2 ∨ X.L.first + 2 + (l.length + 491) / 492 ≤ j) → D'.pend j = X.D.pend j
  np : D'.np = X.D.np + (l.length + 491) / 492
  log : LogAt w' X.g X.d { X.L with head := (l.length + 491) / 492 }
  store : StoreAt w' X.s X.d X.g X.Y X.D.life X.ov false
  tx : w'.heap[X.t]? = some (.cells (txCells X.s X.own true) 204 (0, 0))
  ovl : OwnMap w' X.base X.ov n (chg X m)
  kept : Kept [X.d, X.mp, X.g, X.ov, X.t, X.s, X.own] w w'
def CommitPost (X : TxC) (n : Nat) (m : Nat → Option (List UInt8)) (l : List UInt8) (w : World) (e : Ending) (w' : World) : Prop :=
  (e = .returned (.int .i64 3) ∧ DeadW X.d X.du X.mp X.D w w') ∨ (e = .returned (.int .i64 0) ∧ ∃ D', Committed X n m l w w' D')
set_option maxRecDepth 100000 in
set_option maxHeartbeats 4000000 in
theorem commit_walk (ok : TxOk X) (h : TxAt w X n m) (hn : n ≤ 1000) (hbl : ∀ b, m b ≠ none → b < X.Y.blocks) (ks : List Nat) (f : Nat → List UInt8) (l : List UInt8) (hl : l = packB ks f) (hll : 0 < l.length ∧ l.length ≤ 8364)
    (h2 : ks.Pairwise (· < ·)) (h3 : ∀ x, x ∈ ks ↔ (chg X m x).isSome = true) (h0 : ks ≠ []) (hks : ks.length ≤ 16) (hf : ∀ b ∈ ks, chg X m b = some (f b))
    (hst : X.L.started = true) (hh : X.L.head = 0) (ht : X.L.tail = 0) (hfit : (l.length + 491) / 492 ≤ X.L.n) (hS : X.L.first + 2 + X.L.n ≤ X.D.S) (hnp : X.D.np < 50000) :
    Calls Tryz.prog 65 #[.pointer (some ⟨X.t, 0, none⟩)] w (CommitPost X n m l w) := by
  have HOK := Lib.hid ok
  have H := Lib.hid h
  have HST := Lib.hid (state_walk ok h)
  have hbk : ∀ b ∈ ks, b < 65536 := fun b hb => by
    have hc := (h3 b).1 hb
    unfold chg at hc
    split at hc
    · have := hbl b (by intro e; rw [e] at hc; cases hc)
      have := ok.fit
      have := ok.S
      omega
    · cases hc
  have HBL := Lib.hid hbl
  have HKS := Lib.hid (And.intro h2 (And.intro h3 (And.intro h0 (And.intro hks (And.intro hbk hf)))))
  have HSB := Lib.hid hS
  have hlow := ok.low
  have hbase := h.base_le
  clear h ok h2 h3 h0 hks hf hbl hbk hS
  go_enter Tryz.func65, Tryz.ntmps65
  go_wp2_with fail
  refine HST.out.mono ?_
  rintro e w1 ⟨rfl, hk1⟩
  have HK1 := Lib.hid hk1
  have HCH := Lib.hid (changed_walk HOK.out (H.out.still hk1) hn HBL.out)
  clear hk1 HST
  go_wp2_with fail
  refine HCH.out.mono ?_
  rintro e w2 ⟨out, ho2, rfl, hom, ht2, hk2⟩
  have HK2 := Lib.hid ((HK1.out.mono (G := [X.d]) (by simp)).trans hk2 (by simp))
  have HT2 := Lib.hid ht2
  have HOM := Lib.hid hom
  have HOG := Lib.hid (Nat.le_trans HK1.out.size ho2)
  obtain ⟨mv, hpm, hmv⟩ := hom
  obtain ⟨cn, hlen, hcn, _, hpos⟩ := hpm.len sl117 3
  have hcn0 : ((cn : Int) == 0) = false := by
    rw [beq_eq_false_iff_ne]
    have hne := HKS.out.2.2.1
    obtain ⟨k0, hk0⟩ := List.exists_mem_of_ne_nil _ hne
    have := hpos k0 (by
      have hc := (HKS.out.2.1 k0).1 hk0
      rcases hmv k0 with ⟨e1, _⟩ | ⟨_, _, _, e2, _⟩
      · rw [e1] at hc; cases hc
      · rw [e2]; simp)
    omega
  have HPK := Lib.hid (pack_walk w2 X.base out n (chg X m) f ks HOM.out hn HKS.out.1 HKS.out.2.1 HKS.out.2.2.1 HKS.out.2.2.2.1 HKS.out.2.2.2.2.1 HKS.out.2.2.2.2.2)
  rw [← hl] at HPK
  clear hk2 ht2 hpm hmv hpos ho2 hl
  go_wp2_with fail
  refine HPK.out.mono ?_
  rintro e w3 ⟨v3, rfl, ho3, hk3⟩
  obtain ⟨a3, c3, rfl⟩ := ho3.form
  have HT3 := Lib.hid (HT2.out.still hk3)
  have HK3 := Lib.hid (HK2.out.trans hk3 (by simp))
  have HOM3 := Lib.hid (HOM.out.kept hk3 (by simp) (by simp))
  have HO3 := Lib.hid ho3
  obtain ⟨x3, hd3⟩ := HT3.out.disk
  obtain ⟨t0, t1, _⟩ := HT3.out.cells
  obtain ⟨_, s1, _⟩ := HT3.out.store.cells
  have tl := lt_whole HT3.out.tx
  have sl : X.s < w3.heap.size := lt_whole HT3.out.store
  have hrm := room_walk w3 hd3 HT3.out.log HOK.out.life hst HOK.out.burnt
  rw [hh, ht] at hrm
  have HRM := Lib.hid hrm
  have HD3 := Lib.hid hd3
  clear hk3 ho3 hd3 hrm
  go_wp2_with fail
  refine HRM.out.mono ?_
  rintro e w4 ⟨rfl, hk4⟩
  obtain ⟨cnt, hcnt⟩ : ∃ cnt, cnt = (l.length + 491) / 492 := ⟨_, rfl⟩
  have HC := Lib.hid hcnt
  have hcq : ((l.length : Int) + 492 - 1).tdiv 492 = (cnt : Int) := by rw [hcnt, Int.tdiv_eq_ediv_of_nonneg (by omega)]; omega
  rw [← hcnt] at hfit
  have hLn := HT3.out.log.n
  have HT4 := Lib.hid (HT3.out.still hk4)
  have HK4 := Lib.hid (HK3.out.trans hk4 (by simp))
  have HOM4 := Lib.hid (HOM3.out.kept hk4 (by simp) (by simp))
  have hd4 := HD3.out.kept0 hk4
  have ho4 : Vl.Own w4 w2.heap.size 5 (.slice a3 l.length c3) l.length (bcells l) := HO3.out.keep fun k hk => hk4.block k (HO3.out.block hk).2.1 (by simp)
  have hcap : l.length ≤ c3 := by
    rcases ho4.2 with ⟨_, e0⟩ | ⟨g, cap, cur, hv, _, _, h4, _⟩
    · omega
    · injection hv with _ _ e3
      rw [e3]; exact h4
  have hba := (BytesAt.of_own ho4).2
  obtain ⟨ga, oa, rfl⟩ : ∃ ga oa, a3 = some ⟨ga, oa, none⟩ := by
    obtain ⟨gx, ox, hh, _⟩ := hba 0 (by omega)
    exact ⟨gx, ox, hh⟩
  have hga : w2.heap.size ≤ ga := (ho4.block rfl).1
  have hw2 := HK2.out.size
  have hap := append_walk X.d X.du X.mp X.base X.g (X.D.rdd x3) X.L w4 hd4 HT4.out.log ⟨HOK.out.nd.2.2.2.1.symm, HOK.out.ndu.2.2.2.1.symm, HOK.out.nmp.2.2.2.1.symm, hlow.2.2.2.1⟩ HOK.out.life hst hh ht l ga oa c3 hba hll hcap ⟨by omega, by omega, by omega⟩ (by rw [← hcnt]; exact hfit) HSB.out (fun k _ => HOK.out.pend _) hnp
  have HAP := Lib.hid hap
  obtain ⟨t0, t1, _⟩ := HT4.out.cells
  obtain ⟨_, s1, _⟩ := HT4.out.store.cells
  have tl := lt_whole HT4.out.tx
  have sl : X.s < w4.heap.size := lt_whole HT4.out.store
  have HGA := Lib.hid hga
  clear hcnt hk4 hd4 ho4 hcap hba hap HT3 HK3 HOM3 HO3 HD3 HRM hst hh ht
  generalize hLn' : X.L.n = Ln at *
  have HLN := Lib.hid hLn'
  clear hLn'
  go_wp2_with fail
  refine HAP.out.mono ?_
  rintro e w5 (⟨rfl, hdead⟩ | ⟨rfl, D', hd5, hs5, hn5, hp5, hnp5, hlg5, hk5⟩)
  · have HEND := Lib.hid (show CommitPost X n m l w (.returned (.int .i64 3)) w5 from .inl ⟨rfl, hdead.weak.from (D := X.D) rfl (Nat.le_refl _) HK4.out (by simp)⟩)
    clear hdead
    go_wp2
    go_ret
    exact HEND.out
  · have hK : ∀ x, x ∈ [X.d, X.mp, X.g] → x < X.base := by simp; omega
    have hom5 := HOM4.out.kept hk5 (by simp; have := HOG.out; omega) hK
    obtain ⟨mv, hpm, hmv⟩ := hom5
    obtain ⟨w6, cnt0, hrg, hr0, hcn, hg0, hs0⟩ := hpm.range sl117
    have hk6 : Kept [] w5 w6 := (Kept.refl [] w5).grown hg0 (fun k e => by cases e)
    have HD5 := Lib.hid hd5
    have HS5 := Lib.hid hs5
    have HN5 := Lib.hid hn5
    have HP5 := Lib.hid hp5
    have HNP5 := Lib.hid hnp5
    have HLG5 := Lib.hid hlg5
    have HK5 := Lib.hid ((HK4.out.mono (G := [X.d, X.mp, X.g]) (by simp)).trans hk5 (by simp))
    have HTX5 := Lib.hid (hk5.keep HT4.out.tx (by simp; exact ⟨HOK.out.nd.1.symm, HOK.out.nmp.1.symm, HOK.out.nt.2.1⟩))
    have HST5 := Lib.hid (HT4.out.store.kept hk5 (by simp; exact ⟨HOK.out.nd.2.2.1.symm, HOK.out.nmp.2.2.1.symm, HOK.out.ns.1⟩))
    have HOV5 := Lib.hid (HT4.out.ovl.keep (hk5.block _ HT4.out.ovl.lt (by simp; exact ⟨HOK.out.nd.2.2.2.2.symm, HOK.out.nmp.2.2.2.2.symm, HOK.out.ns.2.2.symm⟩)))
    have HOWN5 := Lib.hid (HT4.out.own.kept hk5 (by simp; exact ⟨HOK.out.nd.2.1.symm, HOK.out.nmp.2.1.symm, HOK.out.nown.2.2.1⟩) hK)
    have HMV := Lib.hid hmv
    have HR0 := Lib.hid hr0
    have HK6 := Lib.hid hk6
    have HPM5 := Lib.hid hpm
    have hw5 : w.heap.size ≤ w5.heap.size := HK5.out.size
    have hb5 : X.base ≤ w5.heap.size := by omega
    clear hd5 hs5 hn5 hp5 hnp5 hlg5 hk5 hpm hmv hr0 hg0 hk6 hK t0 t1 s1 tl sl HAP HT4 HOM4 hcq
    go_wp2_with fail
    go_loopw [10, 11] (fun _ _ wr => ∃ (left : Nat → Bool) (c k : Nat), PMR wr out w5.heap.size n mv left c ∧ k + c ≤ n ∧ PM wr X.ov k (fun b => if (!left b) = true then mv b else none) ∧ Kept [X.ov] w5 wr) (fun _ _ wr => wr.rangeLeft out w5.heap.size)
    case atStart =>
      refine ⟨_, cnt0, 0, HR0.out, by omega, ?_, HK6.out.mono (by simp)⟩
      have : (fun b => if (!(mv b).isSome) = true then mv b else none) = fun _ => (none : Option Value) := by
        funext b
        cases hb : mv b with
        | none => simp
        | some v => simp
      rw [this]
      exact HOV5.out.keep (HK6.out.block _ HOV5.out.lt (by simp))
    case round =>
      obtain ⟨left, c, k, hpr, hkc, hpo, hkr⟩ := hrel
      have HPR := Lib.hid hpr
      have HPO := Lib.hid hpo
      have HKR := Lib.hid hkr
      have hnx := hpr.next 0
      have hrl := hpr.lt
      have htxr := hkr.keep HTX5.out (by simp; exact HOK.out.nt.2.2)
      have hstr := HST5.out.kept hkr (by simp; exact HOK.out.ns.2.1)
      have HTXR := Lib.hid htxr
      have HSTR := Lib.hid hstr
      clear hpr hpo hkr
      rcases hnx with ⟨h0, hl0, hrun⟩ | ⟨y, v, w7, c', hy, hly, hmy, hrun, hpr2, hct, hg2, hs2, hen⟩
      · have hown := HOWN5.out.kept HKR.out (by simp; exact HOK.out.nown.2.2.2) (by simp; exact hlow.2.2.2.2.1)
        obtain ⟨mvo, hpown, _⟩ := hown
        have hew := end_walk X.t X.s X.own X.d X.g X.Y X.D.life X.ov n mvo HOK.out.nt.1 HOK.out.nown.1.symm HOK.out.nown.2.1.symm wr htxr hstr hpown
        have HEW : Hid (Calls Tryz.prog 117 #[.pointer (some ⟨X.t, 0, none⟩)] wr fun e w' => e = .returned (.tuple #[]) ∧ CommitPost X n m l w (.returned (.int .i64 0)) w') := Lib.hid (hew.mono (by
          rintro e w9 ⟨rfl, htx9, hst9, hk9⟩
          obtain ⟨b1, b2, b3, b4, b5, b6, b7, b8⟩ := hlow
          obtain ⟨nd1, nd2, nd3, nd4, nd5⟩ := HOK.out.nd
          obtain ⟨nu1, nu2, nu3, nu4, nu5⟩ := HOK.out.ndu
          obtain ⟨nm1, nm2, nm3, nm4, nm5⟩ := HOK.out.nmp
          obtain ⟨no1, no2, no3, no4⟩ := HOK.out.nown
          obtain ⟨nt1, nt2, nt3⟩ := HOK.out.nt
          obtain ⟨ns1, ns2, ns3⟩ := HOK.out.ns
          have hkk : Kept [X.ov, X.t, X.s, X.own] w5 w9 := (HKR.out.mono (G := [X.ov, X.t, X.s, X.own]) (by simp)).trans hk9 (by simp)
          have hlt : ∀ x, x ∈ [X.ov, X.t, X.s, X.own] → x < X.base := by simp; omega
          have hom5 : OwnMap w9 X.base X.ov n (chg X m) := by
            refine ⟨_, (HPO.out.mono (n' := n) (by omega)).keep (hk9.block _ HPO.out.lt (by simp; exact ⟨nt3.symm, ns2.symm, no4.symm⟩)), fun b => ?_⟩
            rw [hl0 b]
            rcases HMV.out b with ⟨h1, h2⟩ | ⟨l', v, h1, h2, h3, h4⟩
            · exact .inl ⟨h1, by simp [h2]⟩
            · exact .inr ⟨l', v, h1, by simp [h2], h3, h4.keep fun q hq => hkk.block q (h4.block hq).2.1 (fun hm => by have := hlt q hm; have := (h4.block hq).1; omega)⟩
          exact ⟨rfl, .inr ⟨rfl, D', {
            disk := HD5.out.kept hkk (by simp; exact ⟨nd5, nd1, nd3, nd2⟩) (by simp; exact ⟨nu5, nu1, nu3, nu2⟩) (by simp; exact ⟨nm5, nm1, nm3, nm2⟩) hlt
            sim := ⟨HS5.out.S, HS5.out.rf, HS5.out.life⟩
            now := HN5.out
            pend := HP5.out
            np := HNP5.out
            log := HLG5.out.kept hkk (by simp; exact ⟨ns3, nt2.symm, ns1.symm, no3.symm⟩)
            store := hst9
            tx := htx9
            ovl := hom5
            kept := (HK5.out.mono (G := [X.d, X.mp, X.g, X.ov, X.t, X.s, X.own]) (by simp)).trans hkk (by simp) }⟩⟩))
        clear hl0 hpown hew
        go_wp2_with fail
        refine HEW.out.mono ?_
        rintro e w9 ⟨rfl, hpost⟩
        have HEND := Lib.hid hpost
        clear hpost
        go_wp2
        go_ret
        exact HEND.out
      · have hk7 : Kept [w5.heap.size] wr w7 := (Kept.refl [w5.heap.size] wr).grown hg2 (fun k e => by injection e with e; subst e; exact .inl (by simp))
        have htx7 := hk7.keep htxr (by simp; omega)
        have hst7 := hstr.kept hk7 (by simp; omega)
        have hpo7 := HPO.out.keep (hk7.block _ HPO.out.lt (by simp; omega))
        obtain ⟨w8, hsto, hpo8, hg8, hs8⟩ := hpo7.store sl117 hy (by omega) v
        have t0 : w7.cell? ⟨X.t, 0, none⟩ = some (.pointer (some ⟨X.s, 0, none⟩)) := cell_whole htx7 0
        obtain ⟨_, _, _, _, _, _, _, _, s8, _⟩ := hst7.cells
        have tl := lt_whole htx7
        have sl : X.s < w7.heap.size := lt_whole hst7
        have hk8 : Kept [X.ov] w7 w8 := (Kept.refl [X.ov] w7).grown hg8 (fun k e => by injection e with e; subst e; exact .inl (by simp))
        have HPO8 := Lib.hid (show PM w8 X.ov (k + 1) (fun b => if (!(left b && !(b == y))) = true then mv b else none) from by
          have : (fun b => if (!(left b && !(b == y))) = true then mv b else none) = upd (fun b => if (!left b) = true then mv b else none) y (some v) := by
            funext b
            by_cases e : b = y
            · subst e; rw [upd_same]; simp [hmy]
            · rw [upd_other _ _ e]; simp [e]
          rw [this]; exact hpo8)
        have HPR8 := Lib.hid (hpr2.keep (hk8.block _ hpr2.owns.lt (by simp; have := HOG.out; omega)) (hk8.block _ hpr2.lt (by simp; omega)))
        have HK8 := Lib.hid ((HKR.out.trans hk7 (by simp)).trans hk8 (by simp))
        clear hk7 htx7 hst7 hpo7 hpo8 hg8 hs8 hk8 hpr2 hg2 hs2
        go_wp2_with fail
        go_roundw
        case rel => exact ⟨_, c', k + 1, HPR8.out, by omega, HPO8.out, HK8.out⟩
        case measure => rw [HPR8.out.left_eq, HPR.out.left_eq]; exact hct
end
end Go.Proofs.YtikfphojehgpjaaGreatDoor
/- store: home. -/
namespace Go.Proofs.YtikfphojehgpjaaGreatDoor
open Go.RowKit Vl Go.Maps Go.ChangeMaps
set_option linter.unusedVariables false

def homed (f : Nat → List UInt8) (home : Nat) (r : Nat → List UInt8) (ks : List Nat) : Nat → List UInt8 := ks.foldl (fun g b => upd g (home + b) (r b)) f
def HomePost (d du mp base : Nat) (D : Dk) (home : Nat) (r : Nat → List UInt8) (ks : List Nat) (w : World) (e : Ending) (w' : World) : Prop :=
  (e = .returned (.int .i64 3) ∧ DeadW d du mp D w w') ∨
  (e = .returned (.int .i64 0) ∧ ∃ D', DiskAt w' d du mp base D' ∧ Sim D D' ∧ D'.now = homed D.now home r ks ∧ (∀ j, j < home → D'.pend j = D.pend j) ∧ D'.np = D.np + ks.length ∧ Kept [d, mp] w w')
structure HomeIn (d du mp base : Nat) (D : Dk) (s g : Nat) (Y : Lay) (life ov n : Nat) (op : Bool) (mm : Nat → Option (List UInt8)) (r : Nat → List UInt8) (ks : List Nat) (w : World) : Prop where
  disk : DiskAt w d du mp base D
  store : StoreAt w s d g Y life ov op
  own : OwnMap w base ov n mm
  hn : n ≤ 1000
  sorted : ks.Pairwise (· < ·)
  mem : ∀ x, x ∈ ks ↔ (mm x).isSome = true
  ne : ks ≠ []
  len : ks.length ≤ 16
  fit : ∀ b ∈ ks, Y.home + b < D.S
  row : ∀ b ∈ ks, mm b = some (r b)
  pend : ∀ b ∈ ks, D.pend (Y.home + b) = none
  np : D.np < 50000
  sd : s ≠ d ∧ s ≠ mp
  od : ov ≠ d ∧ ov ≠ mp
  sb : s < base
set_option maxRecDepth 100000 in
set_option maxHeartbeats 4000000 in
theorem home2_walk (d du mp base : Nat) (D : Dk) (s g : Nat) (Y : Lay) (life ov n : Nat) (op : Bool) (mm : Nat → Option (List UInt8)) (r : Nat → List UInt8) (ks : List Nat) (w : World) (h : HomeIn d du mp base D s g Y life ov n op mm r ks w) :
    Calls Tryz.prog 46 #[.pointer (some ⟨s, 0, none⟩)] w (HomePost d du mp base D Y.home r ks w) := by
  have H := Lib.hid h
  have hS := h.disk.pos
  obtain ⟨_, _, _, _, _, _, _, _, s8, _⟩ := h.store.cells
  have sl : s < w.heap.size := lt_whole h.store
  obtain ⟨mv, hpm, hmv⟩ := h.own
  have HPM := Lib.hid hpm
  have HMV := Lib.hid hmv
  have HN := Lib.hid (numbers_walk w ov n mv ks hpm h.hn h.sorted (fun x => by
    rw [h.mem]
    rcases hmv x with ⟨e1, e2⟩ | ⟨l, v, e1, e2, _⟩
    · rw [e1, e2]; simp
    · rw [e1, e2]; simp) h.ne)
  have hne : ks.length ≠ 0 := fun e => h.ne (List.eq_nil_of_length_eq_zero e)
  have hks := h.len
  have hlow := h.disk.low
  have hbl := h.disk.base_le
  clear h hpm hmv
  go_enter Tryz.func46, Tryz.ntmps46
  go_wp2_with fail
  refine HN.out.mono ?_
  rintro e w1 ⟨v1, rfl, ho1, hk1⟩
  obtain ⟨a1, c1, rfl⟩ := ho1.form
  obtain ⟨g1, rfl⟩ : ∃ g1, a1 = some ⟨g1, 0, none⟩ := by
    rcases ho1.2 with ⟨_, e0⟩ | ⟨g, cap, cur, hv, _⟩
    · exact absurd e0 hne
    · injection hv with hv1 _ _
      exact ⟨g, hv1⟩
  have hint : ∀ (k : Nat) (hk : k < ks.length), w1.cell? ⟨g1, k, none⟩ = some (.int .i64 ks[k]) := fun k hk => by
    have := (ho1.cells rfl).2.2.2 k hk
    rw [this, List.getElem?_map, List.getElem?_eq_getElem hk]; rfl
  have hgl : g1 < w1.heap.size := (ho1.block rfl).2.1
  have hgb : w.heap.size ≤ g1 := (ho1.block rfl).1
  have HINT := Lib.hid hint
  have HK1 := Lib.hid hk1
  have HD1 := Lib.hid (H.out.disk.kept0 hk1)
  clear ho1 hk1 hint HN
  go_wp2_with fail
  go_loopw [4, 5, 12] (fun _ _ v12 wr => ∃ (k : Nat) (E : Dk), k ≤ ks.length ∧ v12 = .int .i64 k ∧ DiskAt wr d du mp base E ∧ Sim D E ∧ E.now = homed D.now Y.home r (ks.take k) ∧ (∀ j, (∀ b ∈ ks.take k, j ≠ Y.home + b) → E.pend j = D.pend j) ∧ E.np = D.np + k ∧ Kept [d, mp] w1 wr) (fun _ _ v12 _ => ks.length - (intOf v12).toNat)
  case atStart => exact ⟨0, D, by omega, rfl, HD1.out, Sim.refl _, rfl, fun _ _ => rfl, rfl, Kept.refl _ _⟩
  case round =>
    obtain ⟨k, E, hk, rfl, hd, hsim, hnow, hpe, hnp, hkk⟩ := hrel
    have HDE := Lib.hid hd
    have HSI := Lib.hid hsim
    have HNO := Lib.hid hnow
    have HPE := Lib.hid hpe
    have HNPE := Lib.hid hnp
    have HKK := Lib.hid hkk
    have HKW := Lib.hid ((HK1.out.mono (G := [d, mp]) (by simp)).trans hkk (by simp))
    have hstr := H.out.store.kept HKW.out (by simp; exact H.out.sd)
    obtain ⟨t0, _, _, t3, _, _, _, _, t8, _⟩ := hstr.cells
    have tl : s < wr.heap.size := lt_whole hstr
    have hw1 := HK1.out.size
    clear hd hsim hnow hpe hnp hkk hstr
    by_cases hlt : k < ks.length
    · have hmem : ks[k] ∈ ks := List.getElem_mem hlt
      have hc := (cell_kept HKK.out hgl (i := k) (by simp; omega)).trans (HINT.out k hlt)
      have hfit := H.out.fit _ hmem
      have HTK : Hid (ks.take (k + 1) = ks.take k ++ [ks[k]]) := Lib.hid (List.take_succ_eq_append_getElem hlt)
      have HPN : Hid (E.pend (Y.home + ks[k]) = none) := Lib.hid (by
        rw [HPE.out _ (fun b hb => by
          obtain ⟨i, hi, e⟩ := List.getElem_of_mem hb
          rw [List.length_take] at hi
          rw [List.getElem_take] at e
          have := List.pairwise_iff_getElem.1 H.out.sorted i k (by omega) hlt (by omega)
          omega)]
        exact H.out.pend _ hmem)
      have hrow := H.out.row _ hmem
      generalize ks[k] = x at *
      obtain ⟨l, v, e1, e2, e3, e4⟩ : ∃ l v, mm x = some l ∧ mv x = some v ∧ ElAt w base l v := by
        rcases HMV.out x with ⟨e1, _⟩ | h
        · rw [hrow] at e1; cases e1
        · exact h
      rw [hrow] at e1
      injection e1 with e1
      have hlk := (HPM.out.keep (w' := wr.drew) (HKW.out.block _ HPM.out.lt (by simp; exact H.out.od))).lookup sl117 (x := x) (by omega)
      rw [e2] at hlk
      simp only [Option.getD_some] at hlk
      obtain ⟨ax, cx, hvx⟩ := e4.form
      subst hvx
      have hown : Vl.Own wr base 5 (.slice ax 512 cx) 512 (bcells l) := e4.keep fun q hq => HKW.out.block q (e4.block hq).2.1 (by simp; have := (e4.block hq).1; omega)
      have hby := (BytesAt.of_own hown).2
      have HWR : Hid (∀ w', Kept [] wr w' → Calls Tryz.prog 32 #[.pointer (some ⟨d, 0, none⟩), .int .i64 ((Y.home : Int) + (x : Int)), .slice ax 512 cx] w' (WritePost d du mp base E (Y.home + x) l w')) := Lib.hid (fun w' hk' => by
        have hcast : ((Y.home + x : Nat) : Int) = (Y.home : Int) + (x : Int) := by omega
        rw [← hcast]
        obtain ⟨gx, ox, rfl⟩ : ∃ gx ox, ax = some ⟨gx, ox, none⟩ := by
          obtain ⟨gx, ox, hh, _⟩ := hby 0 (by omega)
          exact ⟨gx, ox, hh⟩
        exact write_walk d du mp base E w' (HDE.out.kept0 hk') (Y.home + x) (by rw [HSI.out.S]; exact hfit) l _ cx (hby.kept hk' (by simp)) e3 HPN.out (by have := H.out.np; rw [HNPE.out]; omega))
      have HE1 := Lib.hid e1
      have hgw : g1 < wr.heap.size := by have := HKK.out.size; omega
      clear e1 e2 e3 e4 hown hby hrow hmem
      generalize hhm : Y.home = hm at *
      have hS2 : hm + x < 2048 := by omega
      go_upto_region 4 with fail
      refine wp_canon (by kernel_rfl) (by kernel_rfl) ?_
      go_wp2_with fail
      refine (HWR.out _ ((Kept.refl [] wr).drew)).mono ?_
      rintro e w5 (⟨hb5, rfl, hk5⟩ | ⟨hb5, rfl, hd5, hk5⟩)
      · have hk6 : Kept [] wr w5 := (Kept.refl [] wr).drew.trans hk5 (by simp)
        have HEND := Lib.hid (show HomePost d du mp base D hm r ks w (.returned (.int .i64 3)) w5 from .inl ⟨rfl, DeadW.now (HDE.out.kept0 hk6) hb5 HSI.out.S (Nat.le_of_eq HSI.out.life.symm) (HKW.out.trans hk6 (by simp)) (by simp)⟩)
        clear hk5 hk6
        go_wp2
        refine ⟨rfl, ?_⟩
        go_wp2
        go_ret
        exact HEND.out
      · have HD5 := Lib.hid hd5
        have HK5 := Lib.hid (HKK.out.drew.trans hk5 (by simp))
        have HNW := Lib.hid (now_write E (hm + x) l)
        clear hd5 hk5
        go_wp2
        refine ⟨rfl, ?_⟩
        go_wp2
        go_roundw
        case rel =>
          refine ⟨k + 1, E.write (hm + x) l, by omega, by go_num, HD5.out, HSI.out.trans (Sim.write _ _ _), ?_, ?_, ?_, HK5.out⟩
          · rw [HNW.out, HNO.out, HTK.out]
            unfold homed
            rw [List.foldl_append, ← HE1.out]; rfl
          · intro j hj
            rw [HTK.out] at hj
            have h1 := hj x (by simp)
            show upd E.pend (hm + x) (some l) j = D.pend j
            rw [upd_other _ _ h1]
            exact HPE.out j (fun b hb => hj b (by simp [hb]))
          · show E.np + 1 = D.np + (k + 1)
            rw [HNPE.out]; omega
        case measure => simp [intOf]; omega
    · obtain rfl : k = ks.length := by omega
      have HEND := Lib.hid (show HomePost d du mp base D Y.home r ks w (.returned (.int .i64 0)) wr from .inr ⟨rfl, E, HDE.out, HSI.out, by rw [HNO.out, List.take_length], fun j hj => HPE.out j (fun b _ => by omega), HNPE.out, HKW.out⟩)
      go_wp2
      go_ret
      exact HEND.out
end Go.Proofs.YtikfphojehgpjaaGreatDoor
