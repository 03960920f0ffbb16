/- vellumref3: anchor, Newest. -/
import Derived.Test.YtikfphojehgpjaaGreatDoorM31
import Derived.Test.YtikfphojehgpjaaGreatDoorM30
import Derived.WalkSmall
import Derived.Deep.CutBlock
set_option linter.unusedSimpArgs false
set_option linter.unusedVariables false
namespace Go.Proofs.YtikfphojehgpjaaGreatDoor
open Go.RowKit Vl Go.Maps Go.ChangeMaps
set_option linter.unusedVariables false
theorem leV_ge (l : List UInt8) (k : Nat) (h : k < l.length) : l[k].toNat * 256 ^ k ≤ leV l := by
  induction k generalizing l with
  | zero =>
    cases l with
    | nil => simp at h
    | cons c l => show c.toNat * 256 ^ 0 ≤ c.toNat + 256 * leV l; omega
  | succ k ih =>
    cases l with
    | nil => simp at h
    | cons c l =>
      have hk : k < l.length := by simpa using h
      have := ih l hk
      show l[k].toNat * 256 ^ (k + 1) ≤ c.toNat + 256 * leV l
      rw [Nat.pow_succ, ← Nat.mul_assoc]
      omega
set_option maxRecDepth 100000 in
set_option maxHeartbeats 1000000 in
theorem ranchor_walk (l : List UInt8) (v : Nat) (a : Option Addr) (c : Nat) (w : World) (h : BytesAt w a l) (hl : Anch l v) (hv : v < 18014398509481984) :
    Calls Tryz.prog 173 #[.slice a 512 c] w fun e w' => e = .returned (.tuple #[.int .i64 v, .slice none 0 0]) ∧ Below w.heap.size w w' := by
  have hop : openB l = some (leB v 8) := by
    obtain ⟨t, ht, rfl⟩ := hl
    exact openB_seal ht (by rw [leB_length]; omega)
  have hll : l.length = 512 := (openB_len hop).2.1
  have HO := Lib.hid (ropen_walk l a c w h hll)
  have hbl : (leB v 8).length = 8 := leB_length _ _
  have hbv : leV (leB v 8) = v := leV_leB _ _ (by omega)
  generalize leB v 8 = b at *
  have HOP := Lib.hid hop
  have HBL := Lib.hid hbl
  have HBV := Lib.hid hbv
  clear h hl hop hll hbl hbv
  go_enter Tryz.func173, Tryz.ntmps173
  go_wp2_with fail
  refine HO.out.mono ?_
  rintro e w1 ⟨hb, hh | ⟨b', a1, c1, hb', rfl, hba⟩⟩
  · rw [HOP.out] at hh; exact absurd hh.1 (by simp)
  · rw [HOP.out] at hb'
    obtain rfl := Option.some.inj hb'
    have HBW := Lib.hid hb
    have HBA := Lib.hid hba
    rw [HBL.out]
    obtain ⟨g, off, rfl, hg, c7⟩ := hba 7 (by rw [HBL.out]; omega)
    have h7 : (b[7]'(by rw [HBL.out]; omega)).toNat ≤ 127 := by
      have h1 := leV_ge b 7 (by rw [HBL.out]; omega)
      rw [HBV.out] at h1
      omega
    generalize (b[7]'(by rw [HBL.out]; omega)) = x7 at *
    have l7 := x7.toNat_lt
    clear hb hba hb' HO
    go_wp2
    go_loopw [6, 7] (fun v6 v7 wr => ∃ j : Nat, j ≤ 8 ∧ v7 = .int .i64 (7 - (j : Int)) ∧ v6 = .int .i64 (leV (b.drop (8 - j))) ∧ wr = w1) (fun _ v7 _ => (intOf v7 + 1).toNat)
    case atStart => exact ⟨0, by omega, by go_num, by rw [Nat.sub_zero, List.drop_eq_nil_of_le (by rw [HBL.out]; omega)]; rfl, rfl⟩
    case round =>
      obtain ⟨j, hj, rfl, rfl, rfl⟩ := hrel
      by_cases hlt : j < 8
      · obtain ⟨_, _, e1, _, hc⟩ := HBA.out (7 - j) (by rw [HBL.out]; omega)
        cases e1
        have hs := leV_stepR b (7 - j) (by rw [HBL.out]; omega)
        rw [show 7 - j + 1 = 8 - j by omega] at hs
        have hb1 := leV_drop_le b (7 - j)
        rw [HBV.out] at hb1
        have HS := Lib.hid hs
        have hx := (b[7 - j]'(by rw [HBL.out]; omega)).toNat_lt
        generalize (b[7 - j]'(by rw [HBL.out]; omega)) = x at *
        generalize hq : leV (b.drop (8 - j)) = q at *
        have hq2 : q * 256 + x.toNat < 18014398509481984 := by omega
        have HQ := Lib.hid hq
        clear hs hb1 hq c7
        have hi1 : (7 : Int) - j = ((7 - j : Nat) : Int) := by omega
        go_wp2
        go_roundw
        case rel => exact ⟨j + 1, by omega, by go_num, by rw [show 8 - (j + 1) = 7 - j by omega, HS.out]; go_num, trivial⟩
        case measure => simp [intOf]; omega
      · obtain rfl : j = 8 := by omega
        rw [Nat.sub_self, List.drop_zero, HBV.out]
        clear c7 hlt hj
        go_wp2
        go_loopw [8, 9] (fun v8 v9 wr2 => v8 = .slice none 0 0 ∧ v9 = .int .i64 8 ∧ wr2 = wr) (fun _ _ _ => 0)
        case atStart => exact ⟨rfl, rfl, rfl⟩
        case round =>
          obtain ⟨rfl, rfl, rfl⟩ := hrel
          go_wp2
          refine bodyPost_ret (results_tmp2 rfl _ _ _) rfl ?_
          exact ⟨rfl, HBW.out⟩
set_option maxRecDepth 100000 in
set_option maxHeartbeats 1000000 in
theorem rnewest_walk (l r : List UInt8) (u v : Nat) (a b : Option Addr) (c d : Nat) (w : World) (hl : BytesAt w a l) (hr : BytesAt w b r) (al : Anch l u) (ar : Anch r v) (hvu : v ≤ u) (h0 : 0 < u) (hu : u < 18014398509481984) :
    Calls Tryz.prog 129 #[.slice a 512 c, .slice b 512 d] w fun e w' => e = .returned (.tuple #[.int .i64 0, .int .i64 u, .slice none 0 0, .int .i64 0]) ∧ Below w.heap.size w w' := by
  have HA := Lib.hid (ranchor_walk l u a c w hl al hu)
  have HR := Lib.hid hr
  clear hl hr
  go_enter Tryz.func129, Tryz.ntmps129
  go_wp2_with fail
  refine HA.out.mono ?_
  rintro e w1 ⟨rfl, hw1⟩
  have HB := Lib.hid (ranchor_walk r v b d w1 (HR.out.below hw1) ar (by omega))
  have HW1 := Lib.hid hw1
  clear hw1
  go_wp2_with fail
  refine HB.out.mono ?_
  rintro e w2 ⟨rfl, hw2⟩
  have HW2 := Lib.hid (HW1.out.trans (hw2.mono HW1.out.size))
  have hu1 : ((u : Int) == 0) = false := by simp; omega
  clear hw2
  go_wp2
  refine bodyPost_ret (results_tmp4 rfl _ _) rfl ?_
  exact ⟨rfl, HW2.out⟩
end Go.Proofs.YtikfphojehgpjaaGreatDoor
/- vellumref1: the reference's disk: Twin, Load. -/
namespace Go.Proofs.YtikfphojehgpjaaGreatDoor
open Go.RowKit Vl Go.Maps Go.ChangeMaps
set_option linter.unusedVariables false
set_option maxRecDepth 100000 in
set_option maxHeartbeats 1000000 in
theorem twin_walk (l : List UInt8) (a : Option Addr) (c : Nat) (w : World) (h : BytesAt w a l) (hl : l.length = 512) :
    Calls Tryz.prog 122 #[.slice a 512 c] w fun e w' => e = .returned (.slice (some ⟨w.heap.size, 0, none⟩) 512 512) ∧ Bytes w' w.heap.size l ∧ Below w.heap.size w w' := by
  have hms := make_sector w
  have hk1 := (Kept.refl [] w).alloc (.cells (bcells zsec).toArray 5)
  have hz : Bytes (w.alloc (.cells (bcells zsec).toArray 5)) w.heap.size zsec := heap_alloc_new w _
  obtain ⟨w2, hcp, hb2, hk2⟩ := copy_sector (w.alloc (.cells (bcells zsec).toArray 5)) w.heap.size 0 512 zsec l a c hz (h.below hk1.below) hl (by rw [zsec_length]; omega) 3 (fun dLen h1 h2 h3 => copy_bytes _ _ _ dLen 512 _ _ a c hz (h.below hk1.below) h1 h2 h3 3)
  have HEND := Lib.hid (show Bytes w2 w.heap.size l ∧ Below w.heap.size w w2 from ⟨by rw [over_all (by rw [hl, zsec_length])] at hb2; exact hb2, (hk1.trans hk2 (by simp)).below⟩)
  clear h hl hk1 hz hb2 hk2
  go_enter Tryz.func122, Tryz.ntmps122
  go_wp2
  go_ret
  exact ⟨rfl, HEND.out⟩
def rdCells (v : Value) (life fl : Int) : Array Value := #[v, .slice none 0 0, .int .i64 (-1), .int .i64 life, .int .i64 0, .int .i64 0, .int .i64 fl, .int .i64 0, .int .i64 0]
/-- The sectors of the reference's disk. -/
structure RRows (w : World) (B : Nat) (v : Value) (k : Nat) (im : Nat → List UInt8) : Prop where
  own : ∃ xs, Vl.Own w B 22 v k xs ∧ ∀ i, i < k → ∃ g, xs[i]? = some (.slice (some ⟨g, 0, none⟩) 512 512) ∧ B ≤ g ∧ Bytes w g (im i)
section
variable {w w' : World} {B k : Nat} {v : Value} {im : Nat → List UInt8}
theorem RRows.keep (h : RRows w B v k im) (hk : ∀ x o t fr, B ≤ x → w.heap[x]? = some (.cells o t fr) → (t = 22 ∨ t = 5) → w'.heap[x]? = w.heap[x]?) : RRows w' B v k im := by
  obtain ⟨xs, h1, h2⟩ := h.own
  refine ⟨xs, h1.keep fun x hx => ?_, fun i hi => ?_⟩
  · obtain ⟨b1, b2, cur, b3⟩ := h1.block hx
    exact hk x _ _ _ b1 b3 (.inl rfl)
  · obtain ⟨g, e1, e2, e3⟩ := h2 i hi
    exact ⟨g, e1, e2, (hk g _ _ _ e2 e3 (.inr rfl)).trans e3⟩
theorem RRows.push (h : RRows w B v k im) {v' : Value} {xs : List Value} (hx : Vl.Own w B 22 v k xs) (hr : ∀ i, i < k → ∃ g, xs[i]? = some (.slice (some ⟨g, 0, none⟩) 512 512) ∧ B ≤ g ∧ Bytes w g (im i)) {g : Nat} (hg : B ≤ g) (hb : Bytes w g (im k))
    (h1 : w'.ownsRow B 22 1 v' (k + 1) (xs ++ [.slice (some ⟨g, 0, none⟩) 512 512])) (hgr : w.grownBy w' v.ownBlock) : RRows w' B v' (k + 1) im := by
  have hne : ∀ g' l, w.heap[g']? = some (.cells l 5 (0, 0)) → some g' ≠ v.ownBlock := fun g' l hg' e => by
    obtain ⟨_, _, cur, h3⟩ := hx.block e.symm
    rw [hg'] at h3
    injection h3 with h3
    injection h3 with _ h4 _
    exact absurd h4 (by decide)
  have hl : xs.length = k := hx.len
  refine ⟨_, h1, fun i hi => ?_⟩
  by_cases hik : i < k
  · obtain ⟨g', e1, e2, e3⟩ := hr i hik
    exact ⟨g', by rw [List.getElem?_append_left (by omega)]; exact e1, e2, (hgr.block g' (lt_whole e3) (hne _ _ e3)).trans e3⟩
  · obtain rfl : i = k := by omega
    exact ⟨g, by rw [List.getElem?_append_right (by omega), hl, Nat.sub_self]; rfl, hg, (hgr.block g (lt_whole hb) (hne _ _ hb)).trans hb⟩
end
structure RDisk (w : World) (B p : Nat) (im : Nat → List UInt8) (S : Nat) (life fl : Int) : Prop where
  blk : ∃ v, w.heap[p]? = some (.cells (rdCells v life fl) 217 (0, 0)) ∧ RRows w B v S im
  lo : B ≤ p
def RLoadPost (l : List UInt8) (n : Nat) (w : World) (e : Ending) (w' : World) : Prop := ∃ p, e = .returned (.tuple #[.pointer (some ⟨p, 0, none⟩), .int .i64 0]) ∧ RDisk w' w.heap.size p (chunk l) n 1 0 ∧ Below w.heap.size w w'
set_option maxRecDepth 100000 in
set_option maxHeartbeats 4000000 in
theorem rload_walk (l : List UInt8) (n ga oa c : Nat) (w : World) (h : BytesAt w (some ⟨ga, oa, none⟩) l) (hl : l.length = 512 * n) (h1 : 1 ≤ n) (h2 : n ≤ 2048) (hc : 512 * n ≤ c) :
    Calls Tryz.prog 69 #[.slice (some ⟨ga, oa, none⟩) (512 * n : Nat) c] w (RLoadPost l n w) := by
  obtain ⟨i0, hi, hz0, hz1, hz2⟩ := info_parts info22
  have H := Lib.hid h
  have HL := Lib.hid hl
  have hp0 := heap_alloc_new w (.cells (rdCells (.slice none 0 0) 1 0) 217)
  have hk0 := ((Kept.refl [] w).alloc (.cells (rdCells (.slice none 0 0) 1 0) 217)).below
  unfold rdCells at hp0 hk0
  clear h hl
  go_enter Tryz.func69, Tryz.ntmps69
  go_wp2
  generalize w.alloc (.cells #[.slice none 0 0, .slice none 0 0, .int .i64 (-1), .int .i64 1, .int .i64 0, .int .i64 0, .int .i64 0, .int .i64 0, .int .i64 0] 217) = w0 at *
  obtain ⟨B, HB⟩ : ∃ B, Hid (w.heap.size = B) := ⟨_, Lib.hid rfl⟩
  rw [HB.out] at hp0 hk0
  rw [HB.out]
  have HP0 := Lib.hid hp0
  have HK0 := Lib.hid hk0
  clear hp0 hk0
  go_loopw [6] (fun v6 wr => ∃ (k : Nat) (v : Value), k ≤ n ∧ v6 = .int .i64 k ∧ wr.heap[B]? = some (.cells (rdCells v 1 0) 217 (0, 0)) ∧ RRows wr B v k (chunk l) ∧ Below B w wr) (fun v6 _ => n - (intOf v6).toNat)
  case atStart => exact ⟨0, .slice none 0 0, by omega, rfl, HP0.out, ⟨⟨[], Vl.Own.nil _ _ _, fun i hi => by omega⟩⟩, HK0.out⟩
  case round =>
    obtain ⟨k, v, hk, rfl, hp, hr, hbw⟩ := hrel
    have HP := Lib.hid hp
    have HR := Lib.hid hr
    have HBW := Lib.hid hbw
    have c0 : wr.cell? ⟨B, 0, none⟩ = some v := cell_whole hp 0
    have pl := lt_whole hp
    have hgw : ga < w.heap.size := by
      obtain ⟨_, _, e1, e2, _⟩ := H.out 0 (by rw [HL.out]; omega)
      cases e1
      exact e2
    clear hp hr hbw
    by_cases hlt : k < n
    · have hsub := (H.out.below (HB.out ▸ HBW.out)).sub (512 * k) 512
      have hlen : ((l.drop (512 * k)).take 512).length = 512 := by rw [List.length_take, List.length_drop, HL.out]; omega
      have HTW : Hid (Calls Tryz.prog 122 #[.slice (some ⟨ga, oa + 512 * k, none⟩) 512 (c - 512 * k)] wr.drew fun e w' => e = .returned (.slice (some ⟨wr.heap.size, 0, none⟩) 512 512) ∧ Bytes w' wr.heap.size (chunk l k) ∧ Below wr.heap.size wr w') := Lib.hid ((twin_walk _ _ (c - 512 * k) wr.drew (hsub.below ((Below.refl _ wr).drew)) hlen).mono (fun e w' ⟨h1, h2, h3⟩ => ⟨h1, h2, (Below.refl _ wr).drew.trans h3⟩))
      rw [Nat.mul_comm 512 k] at HTW
      clear hsub hlen
      go_wp2_with fail
      refine wp_canon_call 12 [4] [[5, 6, 7, 8, 9, 10, 11, 12, 0, 1, 2, 3, 4, 13, 14, 15, 16, 17], [1, 2, 3, 4, 5, 6, 7, 8, 9, 10, 11, 12, 0, 13, 14, 15, 16, 17]] (by kernel_rfl) (by kernel_rfl) (by kernel_rfl) ⟨?_, ?_, trivial⟩
      all_goals simp only [fm_cons, List.filterMap_nil, List.getElem?_toArray, List.getElem?_cons_zero, List.getElem?_cons_succ, Option.elim_some]
      all_goals
        go_wp2_with fail
        refine HTW.out.mono ?_
        rintro e w1 ⟨rfl, hb1, hk1⟩
        have hp1 := (hk1.block B pl).trans HP.out
        have HP1 := Lib.hid hp1
        have c1 : w1.cell? ⟨B, 0, none⟩ = some v := cell_whole hp1 0
        have pl1 := lt_whole hp1
        have hr1 := HR.out.keep (fun x o t fr _ hx _ => hk1.block x (lt_whole hx))
        have HR1 := Lib.hid hr1
        obtain ⟨xs, hxs, hrs⟩ := hr1.own
        have HXS := Lib.hid hxs
        have HRS := Lib.hid hrs
        have HB1 := Lib.hid hb1
        have hbb : B ≤ wr.heap.size := HB.out ▸ HBW.out.size
        have HK1 := Lib.hid (HBW.out.trans (hk1.mono hbb))
        have hb2 : B ≤ w1.heap.size := Nat.le_trans hbb hk1.size
        generalize hgg : wr.heap.size = g at *
        clear hp1 hr1 hxs hrs hb1 hk1
        go_wp2_with (at_builtin; refine wpList_append_own _ rfl _ _ 95 rfl B 22 i0 (.slice none 0 0) 1 24 Tryz.underlying95 hi hz0 hz1 hz2 rfl (by decide) _ k _ rfl (HXS.out.alloc _) ⟨w1.heap.size, 0, none⟩ 1 1 [_] rfl rfl (new_one _ _ _ _ rfl) (Vl.one_cell rfl) (by unfold maxLen; omega) (by omega) (le_alloc hb2 _) ?_)
        intro v2 w2 h2 hg2 _
        obtain ⟨a2, e2, hv2⟩ := (show Vl.Own w2 B 22 v2 (k + 1) _ from h2).form
        have hnp : v.ownBlock ≠ some B := fun e => by
          obtain ⟨_, _, cur, h3⟩ := HXS.out.block e
          rw [HP1.out] at h3
          injection h3 with h3
          injection h3 with _ h4 _
          exact absurd h4 (by decide)
        have hrr := RRows.push (HR1.out.keep (fun x o t fr _ hx _ => alloc_whole hx |>.trans hx.symm)) (HXS.out.alloc _) (fun i hi => by
          obtain ⟨g', e1, e2, e3⟩ := HRS.out i hi
          exact ⟨g', e1, e2, alloc_whole e3⟩) hbb (alloc_whole HB1.out) h2 hg2
        have hp2 := grown_whole hg2 (alloc_whole HP1.out) hnp
        have hbw2 := (HK1.out.alloc hb2 _).grown hg2 (le_alloc hb2 _) (fun x hx => (HXS.out.block hx).1)
        have c2 := cell_whole hp2 0
        have f2 := frozen_whole hp2 0
        have l2 := lt_whole hp2
        have HP3 := Lib.hid (show (w2.setCell ⟨B, 0, none⟩ v2).heap[B]? = some (.cells (rdCells v2 1 0) 217 (0, 0)) from set_whole (i := 0) hp2 v2)
        have HR3 := Lib.hid (hrr.keep (w' := w2.setCell ⟨B, 0, none⟩ v2) (fun x o t fr _ hx ht => Below.heap_setCell _ _ _ _ (fun e => by
          have e' : x = B := e
          subst e'
          rw [hp2] at hx
          injection hx with hx
          injection hx with _ h4 _
          rcases ht with h5 | h5 <;> rw [h5] at h4 <;> exact absurd h4 (by decide))))
        have HB3 := Lib.hid (hbw2.setCell (p := ⟨B, 0, none⟩) (Nat.le_refl _) v2)
        unfold rdCells at c2
        simp only [List.getElem?_toArray, List.getElem?_cons_zero] at c2
        clear hrr hp2 hbw2 h2 hg2
        subst hv2
        go_wp2
        refine ⟨rfl, ?_⟩
        go_wp2
        go_roundw
        case rel => exact ⟨k + 1, _, by omega, by go_num, HP3.out, HR3.out, HB3.out⟩
        case measure => simp [intOf]; omega
    · obtain rfl : k = n := by omega
      have HEND := Lib.hid (show RLoadPost l k w (.returned (.tuple #[.pointer (some ⟨B, 0, none⟩), .int .i64 0])) wr from ⟨B, rfl, ⟨⟨v, HP.out, HB.out ▸ HR.out⟩, by rw [HB.out]; exact Nat.le_refl _⟩, HB.out ▸ HBW.out⟩)
      clear c0
      go_wp2
      refine bodyPost_ret (results_tmp2 rfl _ _ _) rfl ?_
      exact HEND.out
end Go.Proofs.YtikfphojehgpjaaGreatDoor
/- vellumref1: Take, Now, Burnt, Sectors, Flush; vellumref4: args. -/
namespace Go.Proofs.YtikfphojehgpjaaGreatDoor
open Go.RowKit Vl Go.Maps Go.ChangeMaps
set_option linter.unusedVariables false
section
variable {w w' : World} {B p S : Nat} {im : Nat → List UInt8} {life fl : Int}
theorem RDisk.below (h : RDisk w B p im S life fl) (hb : Below w.heap.size w w') : RDisk w' B p im S life fl := by
  obtain ⟨v, h1, h2⟩ := h.blk
  exact ⟨⟨v, (hb.block p (lt_whole h1)).trans h1, h2.keep fun x o t fr _ hx _ => hb.block x (lt_whole hx)⟩, h.lo⟩
theorem RRows.set {v : Value} {k q : Nat} {cs : Array Value} (h : RRows w B v k im) (hp : w.heap[p]? = some (.cells cs 217 (0, 0))) (u : Value) : RRows (w.setCell ⟨p, q, none⟩ u) B v k im :=
  h.keep (fun x o t fr _ hx ht => Below.heap_setCell _ _ _ _ (fun e => by
    have e' : x = p := e
    subst e'
    rw [hp] at hx
    injection hx with hx
    injection hx with _ h4 _
    rcases ht with h5 | h5 <;> rw [h5] at h4 <;> exact absurd h4 (by decide)))
theorem RDisk.form (h : RDisk w B p im S life fl) : ∃ a c, w.heap[p]? = some (.cells (rdCells (.slice a S c) life fl) 217 (0, 0)) ∧ RRows w B (.slice a S c) S im := by
  obtain ⟨v, h1, h2⟩ := h.blk
  obtain ⟨xs, h3, h4⟩ := h2.own
  obtain ⟨a, c, rfl⟩ := h3.form
  exact ⟨a, c, h1, h2⟩
set_option maxRecDepth 100000 in
theorem rdtake_walk (h : RDisk w B p im S life fl) (h1 : 0 ≤ life ∧ life < 100) : Calls Tryz.prog 127 #[.pointer (some ⟨p, 0, none⟩)] w fun e w' => e = .returned (.int .i64 (life + 1)) ∧ RDisk w' B p im S (life + 1) fl ∧ Kept [p] w w' := by
  obtain ⟨a, c, hp, hr⟩ := h.form
  have c3 : w.cell? ⟨p, 3, none⟩ = some (.int .i64 life) := cell_whole hp 3
  have f3 := frozen_whole hp 3
  have pl := lt_whole hp
  have s3 : (w.setCell ⟨p, 3, none⟩ (.int .i64 (life + 1))).heap[p]? = some (.cells (rdCells (.slice a S c) (life + 1) fl) 217 (0, 0)) := set_whole (i := 3) hp _
  have d3 : (w.setCell ⟨p, 3, none⟩ (.int .i64 (life + 1))).cell? ⟨p, 3, none⟩ = some (.int .i64 (life + 1)) := cell_whole s3 3
  have HEND := Lib.hid (show RDisk (w.setCell ⟨p, 3, none⟩ (.int .i64 (life + 1))) B p im S (life + 1) fl ∧ Kept [p] w (w.setCell ⟨p, 3, none⟩ (.int .i64 (life + 1))) from ⟨⟨⟨_, s3, hr.set hp _⟩, h.lo⟩, (Kept.refl [p] w).setCell _ _ (.inl (by simp))⟩)
  clear h hp hr s3
  go_enter Tryz.func127, Tryz.ntmps127
  go_wp2
  go_ret
  exact ⟨rfl, HEND.out⟩
set_option maxRecDepth 100000 in
set_option maxHeartbeats 1000000 in
theorem rnow_walk (h : RDisk w B p im S life fl) (i : Nat) (hi : i < S) (hS : S ≤ 2048) : Calls Tryz.prog 128 #[.pointer (some ⟨p, 0, none⟩), .int .i64 i] w fun e w' => (∃ g, e = .returned (.slice (some ⟨g, 0, none⟩) 512 512) ∧ B ≤ g ∧ Bytes w g (im i)) ∧ w' = w := by
  obtain ⟨a, c, hp, hr⟩ := h.form
  obtain ⟨xs, h3, h4⟩ := hr.own
  obtain ⟨g, e1, e2, e3⟩ := h4 i hi
  have hx : a ≠ none := fun e => by
    subst e
    have := (h3.nil_of_none rfl).2.2
    omega
  obtain ⟨⟨la, lo, sp⟩, rfl⟩ := Option.ne_none_iff_exists'.1 hx
  obtain ⟨rfl, rfl, _, hcs⟩ := h3.cells rfl
  have ci := (hcs i hi).trans e1
  have c0 : w.cell? ⟨p, 0, none⟩ = some (.slice (some ⟨la, 0, none⟩) S c) := cell_whole hp 0
  have c1 : w.cell? ⟨p, 1, none⟩ = some (.slice none 0 0) := cell_whole hp 1
  have pl := lt_whole hp
  have HEND := Lib.hid (And.intro e2 e3)
  clear h hp hr h3 h4 hcs e1 e2 e3 hx
  go_enter Tryz.func128, Tryz.ntmps128
  go_wp2
  go_loopw [5] (fun v5 wr => v5 = .int .i64 (-1) ∧ wr = w) (fun _ _ => 0)
  case atStart => exact ⟨rfl, rfl⟩
  case round =>
    obtain ⟨rfl, rfl⟩ := hrel
    go_wp2
    go_ret
    exact ⟨⟨g, rfl, HEND.out⟩, rfl⟩
theorem rburnt_walk (h : RDisk w B p im S life fl) : Calls Tryz.prog 171 #[.pointer (some ⟨p, 0, none⟩)] w fun e w' => e = .returned (.bool false) ∧ w' = w := by
  obtain ⟨a, c, hp, hr⟩ := h.form
  have c2 : w.cell? ⟨p, 2, none⟩ = some (.int .i64 (-1)) := cell_whole hp 2
  have pl := lt_whole hp
  clear h hp hr
  go_enter Tryz.func171, Tryz.ntmps171
  go_wp2
  go_ret
  exact ⟨rfl, rfl⟩
theorem rsectors_walk (h : RDisk w B p im S life fl) : Calls Tryz.prog 172 #[.pointer (some ⟨p, 0, none⟩)] w fun e w' => e = .returned (.int .i64 S) ∧ w' = w := by
  obtain ⟨a, c, hp, hr⟩ := h.form
  have c2 : w.cell? ⟨p, 0, none⟩ = some (.slice a S c) := cell_whole hp 0
  have pl := lt_whole hp
  clear h hp hr
  go_enter Tryz.func172, Tryz.ntmps172
  go_wp2
  go_ret
  exact ⟨rfl, rfl⟩
theorem rspent_walk (h : RDisk w B p im S life fl) : Calls Tryz.prog 177 #[.pointer (some ⟨p, 0, none⟩)] w fun e w' => e = .returned (.tuple #[]) ∧ w' = w := by
  obtain ⟨a, c, hp, hr⟩ := h.form
  have c2 : w.cell? ⟨p, 2, none⟩ = some (.int .i64 (-1)) := cell_whole hp 2
  have pl := lt_whole hp
  clear h hp hr
  go_enter Tryz.func177, Tryz.ntmps177
  go_wp2
  go_end0
  exact ⟨rfl, rfl⟩
set_option maxRecDepth 100000 in
set_option maxHeartbeats 1000000 in
theorem rflush_walk (h : RDisk w B p im S life fl) (h1 : 0 ≤ fl ∧ fl < 100) : Calls Tryz.prog 132 #[.pointer (some ⟨p, 0, none⟩)] w fun e w' => e = .returned (.int .i64 0) ∧ RDisk w' B p im S life (fl + 1) ∧ Kept [p] w w' := by
  obtain ⟨a, c, hp, hr⟩ := h.form
  have c1 : w.cell? ⟨p, 1, none⟩ = some (.slice none 0 0) := cell_whole hp 1
  have c2 : w.cell? ⟨p, 2, none⟩ = some (.int .i64 (-1)) := cell_whole hp 2
  have pl := lt_whole hp
  have f1 := frozen_whole hp 1
  have s1 : (w.setCell ⟨p, 1, none⟩ (.slice none 0 0)).heap[p]? = some (.cells (rdCells (.slice a S c) life fl) 217 (0, 0)) := set_whole (i := 1) hp _
  have c6 : (w.setCell ⟨p, 1, none⟩ (.slice none 0 0)).cell? ⟨p, 6, none⟩ = some (.int .i64 fl) := cell_whole s1 6
  have f6 := frozen_whole s1 6
  have s2 : ((w.setCell ⟨p, 1, none⟩ (.slice none 0 0)).setCell ⟨p, 6, none⟩ (.int .i64 (fl + 1))).heap[p]? = some (.cells (rdCells (.slice a S c) life (fl + 1)) 217 (0, 0)) := set_whole (i := 6) s1 _
  have hd : RDisk ((w.setCell ⟨p, 1, none⟩ (.slice none 0 0)).setCell ⟨p, 6, none⟩ (.int .i64 (fl + 1))) B p im S life (fl + 1) := ⟨⟨_, s2, (hr.set hp _).set s1 _⟩, h.lo⟩
  have hk : Kept [p] w ((w.setCell ⟨p, 1, none⟩ (.slice none 0 0)).setCell ⟨p, 6, none⟩ (.int .i64 (fl + 1))) := ((Kept.refl [p] w).setCell _ _ (.inl (by simp))).setCell _ _ (.inl (by simp))
  have HS := Lib.hid (rspent_walk hd)
  have HEND := Lib.hid (And.intro hd hk)
  clear h hp hr s1 s2 hd hk
  go_enter Tryz.func132, Tryz.ntmps132
  go_wp2
  go_loopw [3] (fun v3 wr => v3 = .int .i64 0 ∧ wr = w) (fun _ _ => 0)
  case atStart => exact ⟨rfl, rfl⟩
  case round =>
    obtain ⟨rfl, rfl⟩ := hrel
    go_wp2_with fail
    refine HS.out.mono ?_
    rintro e w2 ⟨rfl, hw2⟩
    have HE := Lib.hid (show RDisk w2 B p im S life (fl + 1) ∧ Kept [p] wr w2 from hw2 ▸ HEND.out)
    clear hw2
    go_wp2
    go_ret
    exact ⟨rfl, HE.out⟩
set_option maxRecDepth 100000 in
set_option maxHeartbeats 1000000 in
theorem rargs_walk (h : RDisk w B p im S life fl) (L : Nat) (hL : 18 ≤ L ∧ L ≤ 256) (hS : 3 + L ≤ S) (hS2 : S ≤ 2048) : Calls Tryz.prog 126 #[.pointer (some ⟨p, 0, none⟩), .int .i64 1, .int .i64 L] w fun e w' => e = .returned (.int .i64 0) ∧ w' = w := by
  have HB := Lib.hid (rburnt_walk h)
  have HSC := Lib.hid (rsectors_walk h)
  clear h
  go_enter Tryz.func126, Tryz.ntmps126
  go_wp2_with fail
  refine HB.out.mono ?_
  rintro e w1 ⟨rfl, rfl⟩
  go_wp2_with fail
  refine HSC.out.mono ?_
  rintro e w2 ⟨rfl, rfl⟩
  go_wp2_with fail
  refine HSC.out.mono ?_
  rintro e w3 ⟨rfl, rfl⟩
  go_wp2
  go_ret
  exact ⟨rfl, rfl⟩
end
end Go.Proofs.YtikfphojehgpjaaGreatDoor
/- vellumref4: top, At, Open: the log behind Mkfs. -/
namespace Go.Proofs.YtikfphojehgpjaaGreatDoor
open Go.RowKit Vl Go.Maps Go.ChangeMaps
set_option linter.unusedVariables false
def rlCells (p L : Nat) (life : Int) (top : Int) : Array Value := #[.pointer (some ⟨p, 0, none⟩), .int .i64 life, .int .i64 1, .int .i64 L, .int .i64 2, .int .i64 4, .int .i64 4, .int .i64 top, .bool false]
/-- What the reference finds in the ring. -/
def RingOk (im : Nat → List UInt8) (L : Nat) : Prop := ∀ i, i < L → (im (3 + i)).length = 512 ∧ (openB (im (3 + i)) = none ∨ ∃ b, openB (im (3 + i)) = some b ∧ 12 ≤ b.length ∧ leV (cutB b 0 4) = 2)
section
variable {w w' : World} {B p S : Nat} {im : Nat → List UInt8} {life fl : Int}
theorem RDisk.other (h : RDisk w B p im S life fl) {q i t : Nat} {cs : Array Value} {fr : Nat × Nat} (hl : w.heap[q]? = some (.cells cs t fr)) (ht : t ≠ 217 ∧ t ≠ 22 ∧ t ≠ 5) (u : Value) : RDisk (w.setCell ⟨q, i, none⟩ u) B p im S life fl := by
  obtain ⟨v, h1, h2⟩ := h.blk
  have hne : ∀ x o t' fr', w.heap[x]? = some (.cells o t' fr') → (t' = 217 ∨ t' = 22 ∨ t' = 5) → x ≠ q := fun x o t' fr' hx hh e => by
    subst e
    rw [hl] at hx
    injection hx with hx
    injection hx with _ h4 _
    rcases hh with h5 | h5 | h5 <;> rw [h5] at h4
    · exact ht.1 h4
    · exact ht.2.1 h4
    · exact ht.2.2 h4
  exact ⟨⟨v, (Below.heap_setCell _ _ _ _ (hne _ _ _ _ h1 (.inl rfl))).trans h1, h2.keep fun x o t' fr' _ hx hh => Below.heap_setCell _ _ _ _ (hne _ _ _ _ hx (.inr hh))⟩, h.lo⟩
set_option maxRecDepth 100000 in
set_option maxHeartbeats 2000000 in
theorem rtop_walk (h : RDisk w B p im S life fl) (hS : S ≤ 2048) (lg L : Nat) (lf tp : Int) (hlg : w.heap[lg]? = some (.cells (rlCells p L lf tp) 223 (0, 0))) (hL : 3 + L ≤ S) (hr : RingOk im L) :
    Calls Tryz.prog 130 #[.pointer (some ⟨lg, 0, none⟩), .int .i64 2] w fun e w' => e = .returned (.int .i64 2) ∧ Below w.heap.size w w' := by
  have H := Lib.hid h
  have HL := Lib.hid hlg
  have HR := Lib.hid hr
  clear h hlg hr
  go_enter Tryz.func130, Tryz.ntmps130
  go_wp2
  go_loopw [5, 6, 7, 8, 9, 10] (fun v5 v6 _ _ _ _ wr => ∃ k : Nat, k ≤ L ∧ v5 = .int .i64 2 ∧ v6 = .int .i64 k ∧ Below w.heap.size w wr) (fun _ v6 _ _ _ _ _ => L - (intOf v6).toNat)
  case atStart => exact ⟨0, by omega, rfl, rfl, Below.refl _ _⟩
  case round =>
    obtain ⟨k, hk, rfl, rfl, hbw⟩ := hrel
    have HBW := Lib.hid hbw
    have hl := (hbw.block lg (lt_whole HL.out)).trans HL.out
    have c0 : wr.cell? ⟨lg, 0, none⟩ = some (.pointer (some ⟨p, 0, none⟩)) := cell_whole hl 0
    have c2 : wr.cell? ⟨lg, 2, none⟩ = some (.int .i64 1) := cell_whole hl 2
    have c3 : wr.cell? ⟨lg, 3, none⟩ = some (.int .i64 L) := cell_whole hl 3
    have ll := lt_whole hl
    clear hbw hl
    by_cases hlt : k < L
    · have hd := H.out.below HBW.out
      have HN := rnow_walk (w := wr.drew) (hd.below (Below.refl _ wr).drew) (3 + k) (by omega) hS
      have HNN := Lib.hid HN
      have hcast : ((3 + k : Nat) : Int) = 3 + (k : Int) := by omega
      rw [hcast] at HNN
      clear hd HN hcast
      go_wp2
      refine wp_canon (by kernel_rfl) (by kernel_rfl) ?_
      go_wp2_with fail
      refine HNN.out.mono ?_
      rintro e w1 ⟨⟨g, rfl, hg, hb⟩, rfl⟩
      obtain ⟨hlen, hro⟩ := HR.out k hlt
      have HO := Lib.hid (ropen_walk (im (3 + k)) (some ⟨g, 0, none⟩) 512 wr.drew hb.at hlen)
      have HRO := Lib.hid hro
      clear hro hlen hb
      go_wp2
      refine ⟨rfl, ?_⟩
      go_wp2_with fail
      refine HO.out.mono ?_
      rintro e w2 ⟨hw2, ⟨ho, rfl⟩ | ⟨b, a, c, ho, rfl, hba⟩⟩
      · have HW2 := Lib.hid (HBW.out.drew.trans (hw2.mono HBW.out.size))
        clear hw2
        go_wp2
        go_roundw
        case rel => exact ⟨k + 1, by omega, rfl, by go_num, HW2.out⟩
        case measure => simp [intOf]; omega
      · have HW2 := Lib.hid (HBW.out.drew.trans (hw2.mono HBW.out.size))
        obtain ⟨h12, hv⟩ : 12 ≤ b.length ∧ leV (cutB b 0 4) = 2 := by
          rcases HRO.out with h | ⟨b', h, h1, h2⟩
          · rw [ho] at h; cases h
          · rw [ho] at h
            obtain rfl := Option.some.inj h
            exact ⟨h1, h2⟩
        have hbl := (openB_len ho).1
        have HNM := Lib.hid (refnum_walk b a c 0 4 b.length w2 hba rfl (by omega) (by omega) (by rw [hv]; omega))
        rw [hv] at HNM
        clear hw2 hv hba
        go_wp2_with fail
        refine HNM.out.mono ?_
        rintro e w3 ⟨rfl, rfl⟩
        go_wp2
        go_roundw
        case rel => exact ⟨k + 1, by omega, rfl, by go_num, HW2.out⟩
        case measure => simp [intOf]; omega
    · obtain rfl : k = L := by omega
      go_wp2
      go_ret
      exact ⟨rfl, HBW.out⟩
set_option maxRecDepth 100000 in
set_option maxHeartbeats 2000000 in
theorem rat_walk (h : RDisk w B p im S life fl) (hS : S ≤ 2048) (lg L : Nat) (lf tp : Int) (hlg : w.heap[lg]? = some (.cells (rlCells p L lf tp) 223 (0, 0))) (hL : 18 ≤ L) (hLS : 3 + L ≤ S) (hz : im 7 = zsec) :
    Calls Tryz.prog 131 #[.pointer (some ⟨lg, 0, none⟩), .int .i64 2, .int .i64 4] w fun e w' => e = .returned (.tuple #[.slice none 0 0, .int .i64 0]) ∧ Below w.heap.size w w' := by
  have HN := Lib.hid (rnow_walk (w := w.drew) (h.below (Below.refl _ w).drew) 7 (by omega) hS)
  have c0 : w.cell? ⟨lg, 0, none⟩ = some (.pointer (some ⟨p, 0, none⟩)) := cell_whole hlg 0
  have c2 : w.cell? ⟨lg, 2, none⟩ = some (.int .i64 1) := cell_whole hlg 2
  have c3 : w.cell? ⟨lg, 3, none⟩ = some (.int .i64 L) := cell_whole hlg 3
  have ll := lt_whole hlg
  have hm : (4 : Int) % (L : Int) = 4 := Int.emod_eq_of_lt (by omega) (by omega)
  have hne : ((L : Int) == 0) = false := by simp; omega
  clear h hlg
  go_enter Tryz.func131, Tryz.ntmps131
  go_wp2
  refine wp_canon (by kernel_rfl) (by kernel_rfl) ?_
  go_wp2_with fail
  refine HN.out.mono ?_
  rintro e w1 ⟨⟨g, rfl, hg, hb⟩, rfl⟩
  rw [hz] at hb
  have HO := Lib.hid (ropen_walk zsec (some ⟨g, 0, none⟩) 512 w.drew hb.at zsec_length)
  clear hb
  go_wp2
  refine ⟨rfl, ?_⟩
  go_wp2_with fail
  refine HO.out.mono ?_
  rintro e w2 ⟨hw2, ⟨ho, rfl⟩ | ⟨b, a, c, ho, rfl, hba⟩⟩
  · have HW2 := Lib.hid ((Below.refl w.heap.size w).drew.trans hw2)
    clear hw2
    go_wp2
    refine bodyPost_ret (results_tmp2 rfl _ _ _) rfl ?_
    exact ⟨rfl, HW2.out⟩
  · rw [openB_zero] at ho; cases ho
def RWOpenPost (B p S : Nat) (im : Nat → List UInt8) (w : World) (e : Ending) (w' : World) : Prop := ∃ lg, e = .returned (.tuple #[.pointer (some ⟨lg, 0, none⟩), .slice none 0 0, .int .i64 0]) ∧ RDisk w' B p im S 2 1 ∧ Kept [p] w w'
set_option maxRecDepth 100000 in
set_option maxHeartbeats 4000000 in
theorem rwopen_walk (h : RDisk w B p im S 1 0) (hS : S ≤ 2048) (L : Nat) (hL : 18 ≤ L ∧ L ≤ 256) (hLS : 3 + L ≤ S) (hr : RingOk im L) (hz : im 7 = zsec) (h1 : Anch (im 1) 8589934596) (h2 : Anch (im 2) 8589934592) :
    Calls Tryz.prog 72 #[.pointer (some ⟨p, 0, none⟩), .int .i64 1, .int .i64 L] w (RWOpenPost B p S im w) := by
  have HA := Lib.hid (rargs_walk h L hL hLS hS)
  have HT := Lib.hid (rdtake_walk h (by omega))
  have HR := Lib.hid hr
  have HZ := Lib.hid hz
  have H1 := Lib.hid h1
  have H2 := Lib.hid h2
  clear h hr hz h1 h2
  go_enter Tryz.func72, Tryz.ntmps72
  go_wp2_with fail
  refine HA.out.mono ?_
  rintro e w1 ⟨rfl, rfl⟩
  go_wp2_with fail
  refine HT.out.mono ?_
  rintro e w2 ⟨rfl, hd2, hk2⟩
  have HD2 := Lib.hid hd2
  have HK2 := Lib.hid hk2
  have HN1 := Lib.hid (rnow_walk hd2 1 (by omega) hS)
  have HN2 := Lib.hid (rnow_walk hd2 2 (by omega) hS)
  clear hd2 hk2
  go_wp2_with fail
  refine HN1.out.mono ?_
  rintro e w3 ⟨⟨g1, rfl, hg1, hb1⟩, rfl⟩
  go_wp2_with fail
  refine HN2.out.mono ?_
  rintro e w4 ⟨⟨g2, rfl, hg2, hb2⟩, rfl⟩
  have HNW := Lib.hid (rnewest_walk (im 1) (im 2) 8589934596 8589934592 (some ⟨g1, 0, none⟩) (some ⟨g2, 0, none⟩) 512 512 _ hb1.at hb2.at H1.out H2.out (by omega) (by omega) (by omega))
  clear hb1 hb2
  go_wp2_with fail
  refine HNW.out.mono ?_
  rintro e w5 ⟨rfl, hw5⟩
  have hd5 : RDisk w5 B p im S 2 0 := (show RDisk w4 B p im S 2 0 from HD2.out).below hw5
  have hk5 : Kept [p] w1 w5 := HK2.out.trans (Kept.of_below (F := []) hw5) (by simp)
  have hs5 := hk5.size
  have ha := heap_alloc_new w5 (.cells (rlCells p L 2 0) 223)
  have hka := (Kept.refl [] w5).alloc (.cells (rlCells p L 2 0) 223)
  have hd6 := hd5.below hka.below
  have hk6 := hk5.trans hka (by simp)
  have HTP := Lib.hid (rtop_walk hd6 hS w5.heap.size L 2 0 ha hLS HR.out)
  unfold rlCells at ha hka hd6 hk6 HTP
  have HA6 := Lib.hid ha
  have HD6 := Lib.hid hd6
  have HK6 := Lib.hid hk6
  clear ha hka hd5 hd6 hk5 hk6 hw5 HN1 HN2 HNW HA HT
  go_wp2_with fail
  generalize w5.alloc (.cells #[.pointer (some ⟨p, 0, none⟩), .int .i64 2, .int .i64 1, .int .i64 L, .int .i64 2, .int .i64 4, .int .i64 4, .int .i64 0, .bool false] 223) = w6 at *
  generalize w5.heap.size = lg at *
  refine HTP.out.mono ?_
  rintro e w7 ⟨rfl, hw7⟩
  have ha7 := (hw7.block lg (lt_whole HA6.out)).trans HA6.out
  have hd7 := HD6.out.below hw7
  have hk7 : Kept [p] w1 w7 := HK6.out.trans (Kept.of_below (F := []) hw7) (by simp)
  have f7 := frozen_whole ha7 7
  have e7 := cell_whole ha7 7
  have el := lt_whole ha7
  have s7 : (w7.setCell ⟨lg, 7, none⟩ (.int .i64 2)).heap[lg]? = some (.cells (rlCells p L 2 2) 223 (0, 0)) := set_whole (i := 7) ha7 (.int .i64 2)
  have hd8 := hd7.other (i := 7) ha7 (by decide) (.int .i64 2)
  have hk8 : Kept [p] w1 (w7.setCell ⟨lg, 7, none⟩ (.int .i64 2)) := hk7.trans ((Kept.refl [lg] w7).setCell ⟨lg, 7, none⟩ (.int .i64 2) (.inl (by simp))) (by simp; exact .inr hs5)
  have HS7 := Lib.hid s7
  have HD8 := Lib.hid hd8
  have HK8 := Lib.hid hk8
  simp only [List.getElem?_toArray, List.getElem?_cons_zero, List.getElem?_cons_succ] at e7
  clear ha7 hd7 hk7 s7 hd8 hk8 hw7 HTP
  go_upto_region 14 with fail
  generalize w7.setCell ⟨lg, 7, none⟩ (.int .i64 2) = w8 at *
  have d7 : w8.cell? ⟨lg, 7, none⟩ = some (.int .i64 2) := cell_whole HS7.out 7
  have d6 : w8.cell? ⟨lg, 6, none⟩ = some (.int .i64 4) := cell_whole HS7.out 6
  have dl := lt_whole HS7.out
  have HAT := Lib.hid (rat_walk HD8.out hS lg L 2 2 HS7.out hL.1 hLS HZ.out)
  clear e7 f7 el
  go_wp2
  go_loopw [20, 21, 22] (fun v20 _ _ wr => v20 = .slice none 0 0 ∧ wr = w8) (fun _ _ _ _ => 0)
  case atStart => exact ⟨rfl, rfl⟩
  case round =>
    obtain ⟨rfl, rfl⟩ := hrel
    go_wp2_with fail
    refine HAT.out.mono ?_
    rintro e w9 ⟨rfl, hw9⟩
    have HFL := Lib.hid (rflush_walk (HD8.out.below hw9) (by omega))
    have HK9 := Lib.hid (HK8.out.trans (Kept.of_below (F := []) hw9) (by simp))
    clear hw9
    go_wp2_with fail
    refine HFL.out.mono ?_
    rintro e wa ⟨rfl, hda, hka⟩
    have HEND := Lib.hid (show RWOpenPost B p S im w1 (.returned (.tuple #[.pointer (some ⟨lg, 0, none⟩), .slice none 0 0, .int .i64 0])) wa from ⟨lg, rfl, hda, HK9.out.trans hka (by simp)⟩)
    clear hda hka
    go_wp2
    refine bodyPost_ret (results_tmp3 rfl _ _ _) rfl ?_
    exact HEND.out
end
end Go.Proofs.YtikfphojehgpjaaGreatDoor
/- vellumref2: lay, Plan, EncodeSuper, DecodeSuper. -/
namespace Go.Proofs.YtikfphojehgpjaaGreatDoor
open Go.RowKit Vl Go.Maps Go.ChangeMaps
set_option linter.unusedVariables false
set_option maxRecDepth 100000 in
set_option maxHeartbeats 1000000 in
theorem rlay_walk (l : List UInt8) (g c at_ n v len : Nat) (w : World) (h : Bytes w g l) (hll : l.length = len) (hf : at_ + n ≤ len) (hl : len ≤ 100000) (hc : len ≤ c) (hv : v ≤ 1152921504606846976) :
    Calls Tryz.prog 169 #[.slice (some ⟨g, 0, none⟩) len c, .int .i64 at_, .int .i64 n, .int .i64 v] w fun e w' => e = .returned (.tuple #[]) ∧ Bytes w' g (over l at_ (leB v n)) ∧ Kept [g] w w' := by
  have H := Lib.hid h
  have HL := Lib.hid hll
  clear h hll
  go_enter Tryz.func169, Tryz.ntmps169
  go_wp2
  go_loopw [3, 8] (fun v3 v8 wr => ∃ (k y : Nat) (m : List UInt8), k ≤ n ∧ v8 = .int .i64 k ∧ v3 = .int .i64 y ∧ y ≤ 1152921504606846976 ∧ m.length = k ∧ m ++ leB y (n - k) = leB v n ∧ Bytes wr g (over l at_ m) ∧ Kept [g] w wr) (fun _ v8 _ => n - (intOf v8).toNat)
  case atStart => exact ⟨0, v, [], by omega, rfl, rfl, hv, rfl, rfl, by rw [over_nil]; exact H.out, Kept.refl _ _⟩
  case round =>
    obtain ⟨k, y, m, hk, rfl, rfl, hy, hml, hm, hb, hkk⟩ := hrel
    have HB := Lib.hid hb
    have HK := Lib.hid hkk
    have HM := Lib.hid hm
    have HML := Lib.hid hml
    by_cases hlt : k < n
    · have hol : (over l at_ m).length = len := by rw [over_length (by rw [hml, HL.out]; omega), HL.out]
      have hcell := hb.cell (i := at_ + k) (by rw [hol]; omega)
      have hfz := hb.frozen (at_ + k)
      have hgl := lt_whole hb
      have hset := hb.set (at_ + k) (UInt8.ofNat (y % 256))
      have hby : ((UInt8.ofNat (y % 256)).toNat : Int) = (y : Int) % 256 := by rw [UInt8.toNat_ofNat']; omega
      rw [hby] at hset
      rw [show at_ + k = at_ + m.length by omega, over_snoc (UInt8.ofNat (y % 256)) (by rw [hml, HL.out]; omega), hml] at hset
      have HSET := Lib.hid hset
      have HK2 := Lib.hid (hkk.trans ((Kept.refl [g] wr).setCell ⟨g, at_ + k, none⟩ (.int .u8 ((y : Int) % 256)) (.inl (by simp))) (by simp))
      have hi2 : at_ + k < len := by omega
      generalize ((over l at_ m)[at_ + k]'(by rw [hol]; omega)) = x at *
      clear hset hb hkk hm hml hol hby
      go_wp2
      go_roundw
      case rel =>
        refine ⟨k + 1, y / 256, m ++ [UInt8.ofNat (y % 256)], by omega, by go_num, by go_num, by omega, by rw [List.length_append, HML.out]; rfl, ?_, HSET.out, HK2.out⟩
        rw [← HM.out, show n - k = (n - (k + 1)) + 1 by omega, leB_step, List.append_assoc]
        rfl
      case measure => simp [intOf]; omega
    · obtain rfl : k = n := by omega
      rw [Nat.sub_self, show leB y 0 = [] from rfl, List.append_nil] at hm
      rw [hm] at hb
      have HEND := Lib.hid (And.intro hb hkk)
      clear hb hkk hm hml
      go_wp2
      go_end0
      exact ⟨rfl, HEND.out⟩
def vellumB : List UInt8 := [118, 101, 108, 108, 117, 109]
set_option maxRecDepth 100000 in
theorem vellum_set (k : Nat) (hk : k < 6) : (over zsec 0 (vellumB.take k)).set k (vellumB.getD k 0) = over zsec 0 (vellumB.take (k + 1)) := by
  have : k = 0 ∨ k = 1 ∨ k = 2 ∨ k = 3 ∨ k = 4 ∨ k = 5 := by omega
  rcases this with rfl | rfl | rfl | rfl | rfl | rfl <;> decide +kernel
set_option maxRecDepth 100000 in
theorem vellum_end : (over zsec 0 vellumB).set 7 1 = over zsec 0 magicB := by decide +kernel
set_option maxRecDepth 100000 in
theorem vix (k : Nat) (hk : k < 6) (w : World) : (Instr.index 9 (.string ⟨#[118, 101, 108, 108, 117, 109]⟩) (.int .i64 k)).run Tryz.prog w = .ok (.int .u8 ((vellumB.getD k 0).toNat : Nat)) w := by
  have : k = 0 ∨ k = 1 ∨ k = 2 ∨ k = 3 ∨ k = 4 ∨ k = 5 := by omega
  rcases this with rfl | rfl | rfl | rfl | rfl | rfl <;> rfl
def REncPost (S L N : Nat) (w : World) (e : Ending) (w' : World) : Prop := ∃ g, w.heap.size ≤ g ∧ e = .returned (.tuple #[.slice (some ⟨g, 0, none⟩) 512 512, .int .i64 0]) ∧ Bytes w' g (superB S L N) ∧ Kept [] w w'
set_option maxRecDepth 100000 in
set_option maxHeartbeats 4000000 in
theorem rencSuper_walk (S L N : Nat) (w : World) (hg : Geo S L N) : Calls Tryz.prog 124 #[.agg #[.int .i64 S, .int .i64 L, .int .i64 N]] w (REncPost S L N w) := by
  have hm := heap_alloc_new w (.cells #[.int .i64 S, .int .i64 L, .int .i64 N] 53)
  have hk := (Kept.refl [] w).alloc (.cells #[.int .i64 S, .int .i64 L, .int .i64 N] 53)
  have hgo : geoOk S L N = true := by
    obtain ⟨l1, l2, n1, n2, n4, s1, s2⟩ := hg
    unfold geoOk
    simp only [Bool.and_eq_true, decide_eq_true_eq]
    omega
  obtain ⟨l1, l2, n1, n2, n4, s1, s2⟩ := hg
  have HP := Lib.hid (refPlan_walk S L N (w.alloc (.cells #[.int .i64 S, .int .i64 L, .int .i64 N] 53)) (by unfold IntOk; omega) (by unfold IntOk; omega) (by unfold IntOk; omega))
  go_enter Tryz.func124, Tryz.ntmps124
  go_upto_region 1 with fail
  generalize w.alloc (.cells #[.int .i64 S, .int .i64 L, .int .i64 N] 53) = w1 at *
  generalize hr : w.heap.size = r at *
  have HR := Lib.hid hr
  have HM := Lib.hid hm
  have HK := Lib.hid hk
  have c0 := cell_whole hm 0
  have c1 := cell_whole hm 1
  have c2 := cell_whole hm 2
  have ml := lt_whole hm
  simp only [List.getElem?_toArray, List.getElem?_cons_zero, List.getElem?_cons_succ] at c0 c1 c2
  clear hm hk hr
  go_wp2_with fail
  refine HP.out.mono ?_
  rintro e w2 ⟨rfl, hk2⟩
  rw [if_pos hgo]
  have hlc : layCells S L N = #[.int .i64 L, .int .i64 (3 + L), .int .i64 (S - (3 + L)), .int .i64 N, .int .i64 (2 + N / 4)] := if_pos hgo
  rw [hlc]
  have HM2 := Lib.hid (hk2.keep HM.out (by simp))
  have HK2 := Lib.hid (HK.out.trans hk2 (by simp))
  clear hk2 hlc c0 c1 c2 ml HP
  go_upto_region 4 with fail
  have hka := (Kept.refl [] w2).alloc (.cells #[.int .i64 L, .int .i64 (3 + L), .int .i64 (S - (3 + L)), .int .i64 N, .int .i64 (2 + N / 4)] 94)
  have hm3 := hka.keep HM2.out (by simp)
  have hk3 := HK2.out.trans hka (by simp)
  generalize w2.alloc (.cells #[.int .i64 L, .int .i64 (3 + L), .int .i64 (S - (3 + L)), .int .i64 N, .int .i64 (2 + N / 4)] 94) = w3 at *
  have hms := make_sector w3
  have hk4 := (Kept.refl [] w3).alloc (.cells (bcells zsec).toArray 5)
  have hz : Bytes (w3.alloc (.cells (bcells zsec).toArray 5)) w3.heap.size zsec := heap_alloc_new w3 _
  have HM4 := Lib.hid (hk4.keep hm3 (by simp))
  have HK4 := Lib.hid (hk3.trans hk4 (by simp))
  have hgs : w.heap.size ≤ w3.heap.size := hk3.size
  have hrg : r ≠ w3.heap.size := fun e => by
    have := lt_whole hm3
    omega
  have HZ := Lib.hid hz
  clear hka hm3 hk3 hk4 hz
  go_upto_region 7 with fail
  generalize w3.alloc (.cells (bcells zsec).toArray 5) = w4 at *
  generalize w3.heap.size = g at *
  clear hms
  go_loopw [8] (fun v8 wr => ∃ k : Nat, k ≤ 6 ∧ v8 = .int .i64 k ∧ Bytes wr g (over zsec 0 (vellumB.take k)) ∧ Kept [g] w4 wr) (fun v8 _ => 6 - (intOf v8).toNat)
  case atStart => exact ⟨0, by omega, rfl, by rw [List.take_zero, over_nil]; exact HZ.out, Kept.refl _ _⟩
  case round =>
    obtain ⟨k, hk, rfl, hb, hkk⟩ := hrel
    by_cases hlt : k < 6
    · have hv := vix k hlt wr
      have hol : (over zsec 0 (vellumB.take k)).length = 512 := by rw [over_length (by rw [List.length_take, zsec_length]; omega), zsec_length]
      have hcell := hb.cell (i := k) (by rw [hol]; omega)
      have hfz := hb.frozen k
      have hgl := lt_whole hb
      have HSET := Lib.hid (vellum_set k hlt ▸ hb.set k (vellumB.getD k 0))
      have HK2 := Lib.hid (hkk.trans ((Kept.refl [g] wr).setCell ⟨g, k, none⟩ (.int .u8 ((vellumB.getD k 0).toNat : Nat)) (.inl (by simp))) (by simp))
      generalize ((over zsec 0 (vellumB.take k))[k]'(by rw [hol]; omega)) = x at *
      generalize vellumB.getD k 0 = y at *
      clear hb hkk hol
      go_wp2
      go_roundw
      case rel => exact ⟨k + 1, by omega, by go_num, HSET.out, HK2.out⟩
      case measure => simp [intOf]; omega
    · obtain rfl : k = 6 := by omega
      have hb6 : Bytes wr g (over zsec 0 vellumB) := hb
      have hol : (over zsec 0 vellumB).length = 512 := by rw [over_length (by rw [zsec_length]; decide), zsec_length]
      have hcell := hb6.cell (i := 7) (by rw [hol]; omega)
      have hfz := hb6.frozen 7
      have hgl := lt_whole hb6
      have hset := hb6.set 7 1
      rw [vellum_end] at hset
      have HSET := Lib.hid (show Bytes (wr.setCell ⟨g, 7, none⟩ (.int .u8 1)) g (over zsec 0 magicB) from hset)
      have hk7 : Kept [g] w4 (wr.setCell ⟨g, 7, none⟩ (.int .u8 1)) := hkk.trans ((Kept.refl [g] wr).setCell ⟨g, 7, none⟩ (.int .u8 1) (.inl (by simp))) (by simp)
      have HM7 := Lib.hid (hk7.keep HM4.out (by simp; exact hrg))
      have HK7 := Lib.hid hk7
      generalize ((over zsec 0 vellumB)[7]'(by rw [hol]; omega)) = x at *
      clear hb hb6 hset hk7 hkk hol hk hlt
      go_upto_region 11 with fail
      generalize wr.setCell ⟨g, 7, none⟩ (.int .u8 1) = w7 at *
      have HS0 := Lib.hid (show Bytes w7 g (stage S L N 0) from HSET.out)
      clear hcell hfz hgl
      have s0 : w7.cell? ⟨r, 0, none⟩ = some (.int .i64 S) := cell_whole HM7.out 0
      have sl0 := lt_whole HM7.out
      have HC0 := Lib.hid (rlay_walk (stage S L N 0) g 512 8 4 S 512 w7 HS0.out (stage_length _ _ _ _) (by omega) (by omega) (by omega) (by omega))
      go_wp2_with fail
      refine HC0.out.mono ?_
      rintro e w8 ⟨rfl, hb0, hq0⟩
      have HB0 := Lib.hid (show Bytes w8 g (stage S L N 1) from hb0)
      have HMw8 := Lib.hid (hq0.keep HM7.out (by simp; exact hrg))
      have HKw8 := Lib.hid (HK7.out.trans hq0 (by simp))
      clear hb0 hq0 HC0 s0 sl0
      have s1 : w8.cell? ⟨r, 1, none⟩ = some (.int .i64 L) := cell_whole HMw8.out 1
      have sl1 := lt_whole HMw8.out
      have HC1 := Lib.hid (rlay_walk (stage S L N 1) g 512 12 4 L 512 w8 HB0.out (stage_length _ _ _ _) (by omega) (by omega) (by omega) (by omega))
      go_wp2_with fail
      refine HC1.out.mono ?_
      rintro e w9 ⟨rfl, hb1, hq1⟩
      have HB1 := Lib.hid (show Bytes w9 g (stage S L N 2) from hb1)
      have HMw9 := Lib.hid (hq1.keep HMw8.out (by simp; exact hrg))
      have HKw9 := Lib.hid (HKw8.out.trans hq1 (by simp))
      clear hb1 hq1 HC1 s1 sl1
      have s2 : w9.cell? ⟨r, 2, none⟩ = some (.int .i64 N) := cell_whole HMw9.out 2
      have sl2 := lt_whole HMw9.out
      have HC2 := Lib.hid (rlay_walk (stage S L N 2) g 512 16 4 N 512 w9 HB1.out (stage_length _ _ _ _) (by omega) (by omega) (by omega) (by omega))
      go_wp2_with fail
      refine HC2.out.mono ?_
      rintro e wa ⟨rfl, hb2, hq2⟩
      have HB2 := Lib.hid (show Bytes wa g (stage S L N 3) from hb2)
      have HMwa := Lib.hid (hq2.keep HMw9.out (by simp; exact hrg))
      have HKwa := Lib.hid (HKw9.out.trans hq2 (by simp))
      clear hb2 hq2 HC2 s2 sl2
      have hl508 : ((stage S L N 3).take 508).length = 508 := by rw [List.length_take, stage_length]; omega
      have hat : BytesAt wa (some ⟨g, 0, none⟩) ((stage S L N 3).take 508) := by
        have := (Bytes.at HB2.out).sub 0 508
        rw [List.drop_zero] at this
        exact this
      have hsm := refSum_walk ((stage S L N 3).take 508) (some ⟨g, 0, none⟩) 512 wa hat (by rw [hl508]; omega)
      rw [hl508] at hsm
      have HSM := Lib.hid hsm
      have hcr := crcOf_lt ((stage S L N 3).take 508)
      have HC3 := Lib.hid (rlay_walk (stage S L N 3) g 512 508 4 (crcOf ((stage S L N 3).take 508)) 512 wa HB2.out (stage_length _ _ _ _) (by omega) (by omega) (by omega) (by omega))
      clear hl508 hat hsm
      go_wp2_with fail
      refine HSM.out.mono ?_
      rintro e wb ⟨rfl, rfl⟩
      go_wp2_with fail
      refine HC3.out.mono ?_
      rintro e wc ⟨rfl, hbc, hqc⟩
      have HEND := Lib.hid (show REncPost S L N w (.returned (.tuple #[.slice (some ⟨g, 0, none⟩) 512 512, .int .i64 0])) wc from ⟨g, hgs, rfl, by
        unfold superB sealedB
        rw [stage_length]
        exact hbc, (HK4.out.trans (HKwa.out.trans hqc (by simp)) (by simp; exact hgs))⟩)
      clear hbc hqc
      go_wp2
      refine bodyPost_ret (results_tmp2 rfl _ _ _) rfl ?_
      exact HEND.out
set_option maxRecDepth 100000 in
set_option maxHeartbeats 2000000 in
theorem rdecSuper_walk (S L N : Nat) (w : World) (a : Option Addr) (c : Nat) (h : BytesAt w a (superB S L N)) (hg : Geo S L N) (q1 : leV (cutB (superB S L N) 8 4) = S) (q2 : leV (cutB (superB S L N) 12 4) = L) (q3 : leV (cutB (superB S L N) 16 4) = N) :
    Calls Tryz.prog 70 #[.slice a 512 c] w fun e w' => e = .returned (.tuple #[.agg #[.int .i64 S, .int .i64 L, .int .i64 N], .int .i64 0]) ∧ Kept [] w w' := by
  have hsl := superB_length S L N
  have hz := heap_alloc_new w (.cells #[.int .i64 0, .int .i64 0, .int .i64 0] 53)
  have hk := (Kept.refl [] w).alloc (.cells #[.int .i64 0, .int .i64 0, .int .i64 0] 53)
  have h1 := h.below hk.below
  have hl512 : S ≤ 2048 ∧ L ≤ 256 ∧ N ≤ 1024 := ⟨hg.s1, hg.l2, hg.n2⟩
  have T1 := reftake_walk (superB S L N) a c 8 4 512 (w.alloc (.cells #[.int .i64 0, .int .i64 0, .int .i64 0] 53)) h1 hsl (by omega) (by omega) (by rw [q1]; omega)
  have T2 := reftake_walk (superB S L N) a c 12 4 512 (w.alloc (.cells #[.int .i64 0, .int .i64 0, .int .i64 0] 53)) h1 hsl (by omega) (by omega) (by rw [q2]; omega)
  have T3 := reftake_walk (superB S L N) a c 16 4 512 (w.alloc (.cells #[.int .i64 0, .int .i64 0, .int .i64 0] 53)) h1 hsl (by omega) (by omega) (by rw [q3]; omega)
  rw [q1] at T1
  rw [q2] at T2
  rw [q3] at T3
  have HT1 := Lib.hid T1
  have HT2 := Lib.hid T2
  have HT3 := Lib.hid T3
  have HSL := Lib.hid hsl
  have H1 := Lib.hid h1
  have HG := Lib.hid hg
  clear h h1 hg q1 q2 q3 T1 T2 T3 hsl
  go_enter Tryz.func70, Tryz.ntmps70
  go_wp2_with fail
  generalize w.alloc (.cells #[.int .i64 0, .int .i64 0, .int .i64 0] 53) = w1 at *
  generalize hr : w.heap.size = r at *
  have HZ := Lib.hid hz
  have HK := Lib.hid hk
  clear hz hk
  refine HT1.out.mono ?_
  rintro e w2 ⟨rfl, rfl⟩
  go_wp2_with fail
  refine HT2.out.mono ?_
  rintro e w3 ⟨rfl, rfl⟩
  go_wp2_with fail
  refine HT3.out.mono ?_
  rintro e w4 ⟨rfl, rfl⟩
  go_upto_region 4 with fail
  have hka := (Kept.refl [] w4).alloc (.cells #[.int .i64 S, .int .i64 L, .int .i64 N] 53)
  have hs5 := heap_alloc_new w4 (.cells #[.int .i64 S, .int .i64 L, .int .i64 N] 53)
  have hz5 := hka.keep HZ.out (by simp)
  have hk5 := HK.out.trans hka (by simp)
  have h15 := H1.out.below hka.below
  generalize w4.alloc (.cells #[.int .i64 S, .int .i64 L, .int .i64 N] 53) = w5 at *
  generalize hq : w4.heap.size = q at *
  have c0 := cell_whole hs5 0
  have c1 := cell_whole hs5 1
  have c2 := cell_whole hs5 2
  have ql := lt_whole hs5
  simp only [List.getElem?_toArray, List.getElem?_cons_zero, List.getElem?_cons_succ] at c0 c1 c2
  have HS5 := Lib.hid hs5
  have HZ5 := Lib.hid hz5
  have HK5 := Lib.hid hk5
  have H15 := Lib.hid h15
  have HE := Lib.hid (rencSuper_walk S L N w5 HG.out)
  clear hka hs5 hz5 hk5 h15 hq HT1 HT2 HT3
  go_wp2_with fail
  refine HE.out.mono ?_
  rintro e w6 ⟨g, hgg, rfl, hb6, hk6⟩
  have hsm := same2_walk (superB S L N) (superB S L N) (some ⟨g, 0, none⟩) a 512 c w6 hb6.at (H15.out.below hk6.below) (by rw [HSL.out]; omega) (by rw [HSL.out]; omega)
  rw [HSL.out, decide_eq_true rfl] at hsm
  have HSM := Lib.hid hsm
  have HS6 := Lib.hid (hk6.keep HS5.out (by simp))
  have HZ6 := Lib.hid (hk6.keep HZ5.out (by simp))
  have HK6 := Lib.hid (HK5.out.trans hk6 (by simp))
  clear hsm hb6 hk6 HE c0 c1 c2 ql
  go_wp2_with fail
  refine HSM.out.mono ?_
  rintro e w7 ⟨rfl, hw7⟩
  have hk7 : Kept [] w6 w7 := Kept.of_below hw7
  have hs7 := hk7.keep HS6.out (by simp)
  have hz7 := hk7.keep HZ6.out (by simp)
  have hk8 := HK6.out.trans hk7 (by simp)
  have c0 := cell_whole hs7 0
  have c1 := cell_whole hs7 1
  have c2 := cell_whole hs7 2
  have ql := lt_whole hs7
  simp only [List.getElem?_toArray, List.getElem?_cons_zero, List.getElem?_cons_succ] at c0 c1 c2
  have zl := lt_whole hz7
  have f0 := frozen_whole hz7 0
  have z0 := cell_whole hz7 0
  have t1 := set_whole (i := 0) hz7 (.int .i64 (S : Nat))
  have z1 := cell_whole t1 1
  have f1 := frozen_whole t1 1
  have t2 := set_whole (i := 1) t1 (.int .i64 (L : Nat))
  have z2 := cell_whole t2 2
  have f2 := frozen_whole t2 2
  have t3 := set_whole (i := 2) t2 (.int .i64 (N : Nat))
  have HT := Lib.hid t3
  have hks : Kept [r] w7 (((w7.setCell ⟨r, 0, none⟩ (.int .i64 S)).setCell ⟨r, 1, none⟩ (.int .i64 L)).setCell ⟨r, 2, none⟩ (.int .i64 N)) := (((Kept.refl [r] w7).setCell _ _ (.inl (by simp))).setCell _ _ (.inl (by simp))).setCell _ _ (.inl (by simp))
  have HEND := Lib.hid (hk8.trans hks (by simp [hr]))
  clear t1 t2 t3 hks hk8 hk7 hw7 hs7 hz7 HSM
  go_wp2
  refine bodyPost_ret (results_row_tmp (P := Tryz.prog) (p := 2) (u := 3) (ty := 53) rfl _ _ r 53 #[.int .i64 S, .int .i64 L, .int .i64 N] (0, 0) _ rfl HT.out Tryz.underlying53 rfl (by kernel_rfl)) rfl ?_
  exact ⟨rfl, HEND.out⟩
end Go.Proofs.YtikfphojehgpjaaGreatDoor
