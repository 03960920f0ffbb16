/- wal: row's loop and scan, where nothing lies at the tail. -/
import Derived.Test.YtikfphojehgpjaaGreatDoorM16
import Derived.RangeFuncNested
import Derived.RangeFuncBound
import Derived.RangeFuncCalls
import Derived.RangeFuncLeaves
import Derived.RangeFuncFrom
import Derived.Shelf.Abstract
import Derived.Shelf.RegionOpen
import Derived.WalkKit
import Derived.OwnWalkIn
import Derived.TacticsInMore
import Derived.LoopNIn
import Derived.LoopIn
import Derived.WalkMore
import Derived.Test.YtikfphojehgpjaaGreatDoorM15
import Derived.Recover
import Derived.Laws.Pointers
set_option linter.unusedSimpArgs false
set_option linter.unusedVariables false
namespace Go.Proofs.YtikfphojehgpjaaGreatDoor
open Go.RowKit Go.Shelf Vl Go.Maps Go.ChangeMaps
set_option linter.unusedVariables false

/-- The loop over the ring: at once at its end. -/
theorem row1_walk (y : Nat) (b c g d gr : Nat) (L : Lg) (w : World) (hL : LogAt w g d L) (hP : Pieces w gr L.n) (hb : w.cell? ⟨b, 0, none⟩ = some (.pointer (some ⟨g, 0, none⟩))) (hc : w.cell? ⟨c, 0, none⟩ = some (.slice (some ⟨gr, 0, none⟩) L.n L.n)) (hep : 1 ≤ L.epoch) :
    Calls Tryz.prog 189 #[.func (.yield y) #[] #[], .pointer (some ⟨b, 0, none⟩), .pointer (some ⟨c, 0, none⟩)] w fun e w' => e = .returned (.tuple #[]) ∧ w.grownBy w' none := by
  obtain ⟨_, _, c2, _, c4, _, c6, _⟩ := hL.cells
  have hn := hL.n
  have hlt := lt_whole hL.blk
  obtain ⟨C, hC, hp⟩ := hP
  have ht := hL.tail
  have hmod : L.tail % L.n < L.n := Nat.mod_lt _ (by omega)
  obtain ⟨p0, p1, p2, p3, p4⟩ := hp (L.tail % L.n) hmod
  have q0 := cell_whole hC (L.tail % L.n * 5)
  have q1 := cell_whole hC (L.tail % L.n * 5 + 1)
  have q2 := cell_whole hC (L.tail % L.n * 5 + 2)
  have q3 := cell_whole hC (L.tail % L.n * 5 + 3)
  have q4 := cell_whole hC (L.tail % L.n * 5 + 4)
  rw [p0] at q0
  rw [p1] at q1
  rw [p2] at q2
  rw [p3] at q3
  rw [p4] at q4
  have hltc := lt_whole hC
  have hr : (L.tail : Int).tmod (L.n : Int) = ((L.tail % L.n : Nat) : Int) := by rw [Int.tmod_eq_emod_of_nonneg (by omega)]; rfl
  have hepq : ((0 : Int) != (L.epoch : Int)) = true := by rw [bne_iff_ne]; omega
  have hbl := World.block_lt_of_cell? w _ hb
  have hcl := World.block_lt_of_cell? w _ hc
  clear hL hC hp p0 p1 p2 p3 p4
  generalize L.tail % L.n = m at *
  generalize L.tail = t at *
  generalize L.n = n at *
  generalize L.epoch = ep at *
  go_enter Tryz.func189, Tryz.ntmps189
  go_wp2_with fail
  go_loopw [4] (fun v4 wr => v4 = .int .i64 t ∧ wr = w) (fun _ _ => 0)
  case atStart => exact ⟨rfl, rfl⟩
  case round =>
    obtain ⟨rfl, rfl⟩ := hrel
    go_wp2_with fail
    refine wp_canon (by kernel_rfl) (by kernel_rfl) ?_
    go_wp2
    refine ⟨rfl, ?_⟩
    have hnew : (wr.alloc (.cells #[.int .i64 0, .int .i64 0, .int .i64 0, .int .i64 0, .slice none 0 0] 252)).drew.heap[wr.heap.size]? = _ := heap_alloc_new wr (.cells #[.int .i64 0, .int .i64 0, .int .i64 0, .int .i64 0, .slice none 0 0] 252)
    have hkk := ((Kept.refl [] wr).alloc (.cells #[.int .i64 0, .int .i64 0, .int .i64 0, .int .i64 0, .slice none 0 0] 252)).drew
    have n0 := cell_whole hnew 0
    simp only [List.getElem?_toArray, List.getElem?_cons_zero] at n0
    have b2 := (cell_kept hkk hbl (i := 0) (by simp)).trans hb
    have e4 := (cell_kept hkk hlt (i := 4) (by simp)).trans c4
    have hl2 := lt_whole hnew
    have HG : Hid (∀ k, wr.grownBy ((wr.alloc (.cells #[.int .i64 0, .int .i64 0, .int .i64 0, .int .i64 0, .slice none 0 0] 252)).drew.drewN k) none) := Lib.hid (fun k => ⟨rfl, rfl, rfl, hkk.size, fun i hi _ => hkk.block i hi (by simp)⟩)
    generalize (wr.alloc (.cells #[.int .i64 0, .int .i64 0, .int .i64 0, .int .i64 0, .slice none 0 0] 252)).drew = w2 at *
    clear q0 q1 q2 q3 q4 hr hb hc c2 c4 c6 hnew hkk
    go_wp2_with fail
    go_quiet (fail)
    go_wp2
    refine bodyPost_ret (results_none rfl _ _ _) rfl ?_
    exact ⟨rfl, HG.out _⟩

theorem row_walk (g : Nat) (v : Value) (hv : v.oneCell' = true) (w : World) :
    Calls Tryz.prog 150 #[.pointer (some ⟨g, 0, none⟩), v] w fun e w' => e = .returned (.func (.func 189) #[] #[.pointer (some ⟨w.heap.size, 0, none⟩), .pointer (some ⟨w.heap.size + 1, 0, none⟩)]) ∧ w' = (w.alloc (.cells #[.pointer (some ⟨g, 0, none⟩)] 113)).alloc (.cells #[v] 186) := by
  have hmf : ∀ (fn : Fn) (first cap : Array Value) (w : World), (Instr.makeFunc fn first cap).run Tryz.prog w = .ok (.func fn first cap) w := fun _ _ _ _ => rfl
  have hvc : v.cells = #[v] := by
    cases v <;> first | rfl | (simp [Value.oneCell'] at hv)
  go_enter Tryz.func150, Tryz.ntmps150
  go_wp2
  go_ret
  exact ⟨rfl, rfl⟩
def ScanPost (g d : Nat) (L : Lg) (w : World) (e : Ending) (w' : World) : Prop := e = .returned (.slice none 0 0) ∧ LogAt w' g d { L with head := L.tail } ∧ Kept [g] w w'
set_option maxRecDepth 100000 in
set_option maxHeartbeats 2000000 in
theorem scan_walk (g d gr : Nat) (L : Lg) (w : World) (hL : LogAt w g d L) (hP : Pieces w gr L.n) (hep : 1 ≤ L.epoch) (hne : g ≠ gr) :
    Calls Tryz.prog 98 #[.pointer (some ⟨g, 0, none⟩), .slice (some ⟨gr, 0, none⟩) L.n L.n] w (ScanPost g d L w) := by
  have H := Lib.hid hL
  have HP := Lib.hid hP
  have hlt := lt_whole hL.blk
  have hgr : gr < w.heap.size := by obtain ⟨C, hC, _⟩ := hP; exact lt_whole hC
  clear hL hP
  refine callsIn_wide.1 (callsIn_of_wp_marks (n := 3) Tryz.func98 rfl trivial (wpIn_wide.2 ?_))
  simp only [Tryz.ntmps98, List.size_toArray, List.length_cons, List.length_nil, Nat.reduceAdd, Nat.reduceSub, Array.replicate_succ, Array.replicate_zero, List.push_toArray, List.append_toArray, List.nil_append, List.cons_append]
  go_wp2_with fail
  go_step3
  go_upto_region 3 with fail
  have hb2 : (((w.alloc (.cells #[.pointer (some ⟨g, 0, none⟩)] 113)).alloc (.cells #[.slice none 0 0] 95)).alloc (.cells #[.slice none 0 0] 22)).heap[w.heap.size]? = some (.cells #[.pointer (some ⟨g, 0, none⟩)] 113 (0, 0)) := alloc_whole (alloc_whole (heap_alloc_new w _))
  have hb5 : (((w.alloc (.cells #[.pointer (some ⟨g, 0, none⟩)] 113)).alloc (.cells #[.slice none 0 0] 95)).alloc (.cells #[.slice none 0 0] 22)).heap[w.heap.size + 1]? = some (.cells #[.slice none 0 0] 95 (0, 0)) := by
    refine alloc_whole ?_
    rw [← size_alloc w (.cells #[.pointer (some ⟨g, 0, none⟩)] 113)]; exact heap_alloc_new _ _
  have hk3 := (((Kept.refl [] w).alloc (.cells #[.pointer (some ⟨g, 0, none⟩)] 113)).alloc (.cells #[.slice none 0 0] 95)).alloc (.cells #[.slice none 0 0] 22)
  generalize (((w.alloc (.cells #[.pointer (some ⟨g, 0, none⟩)] 113)).alloc (.cells #[.slice none 0 0] 95)).alloc (.cells #[.slice none 0 0] 22)) = w3 at *
  generalize hb : w.heap.size = b at *
  have HBW := Lib.hid (Nat.le_of_eq hb)
  have hL3 := H.out.kept hk3 (by simp)
  obtain ⟨_, _, _, _, _, _, c6, c7, _⟩ := hL3.cells
  have f7 := frozen_whole hL3.blk 7
  have l3 := lt_whole hL3.blk
  have c2 := cell_whole hb2 0
  have l2 := lt_whole hb2
  simp only [List.getElem?_toArray, List.getElem?_cons_zero] at c2
  have hk4 := (Kept.refl [g] w3).setCell ⟨g, 7, none⟩ (.int .i64 L.tail) (.inl (by simp))
  have hL4 : LogAt (w3.setCell ⟨g, 7, none⟩ (.int .i64 L.tail)) g d { L with head := L.tail } := ⟨by rw [set_whole (i := 7) hL3.blk]; rfl, hL3.first, hL3.n, hL3.life, hL3.epoch, hL3.top, hL3.tail, hL3.tail⟩
  have hk6 := (((Kept.refl [] (w3.setCell ⟨g, 7, none⟩ (.int .i64 L.tail))).alloc (.cells #[.int .i64 0] 3)).alloc (.cells #[.int .i64 0] 3)).drew
  have HL4 := Lib.hid (hL4.kept hk6 (by simp))
  have HB5 := Lib.hid (hk6.keep (hk4.keep (show w3.heap[b + 1]? = _ from hb5) (by simp; omega)) (by simp))
  have HB2 := Lib.hid (hk6.keep (hk4.keep (show w3.heap[b]? = _ from hb2) (by simp; omega)) (by simp))
  have HP4 := Lib.hid (((HP.out.kept hk3 (by simp)).kept hk4 (by simp; exact fun e => hne e.symm)).kept hk6 (by simp))
  have HK4 := Lib.hid (((hk3.mono (G := [g]) (by simp)).trans hk4 (by simp)).trans (hk6.mono (G := [g]) (by simp)) (by simp))
  clear hL3 hb2 hb5 hk3 hL4 hk4 hb hk6
  generalize ht : L.tail = t at *
  refine wp_canon (by kernel_rfl) (by kernel_rfl) ?_
  go_wp2
  refine ⟨rfl, ?_⟩
  go_wp2_with fail
  generalize ((((w3.setCell ⟨g, 7, none⟩ (.int .i64 t)).alloc (.cells #[.int .i64 0] 3)).alloc (.cells #[.int .i64 0] 3)).drew) = w4 at *
  clear c6 c7 f7 l3 c2 l2
  go_step3
  have c2 := cell_whole HB2.out 0
  simp only [List.getElem?_toArray, List.getElem?_cons_zero] at c2
  go_wp2_with fail
  refine (row_walk g _ rfl w4).mono ?_
  rintro e5 w5 ⟨rfl, hw5⟩
  have hk5 := ((Kept.refl [] w4).alloc (.cells #[.pointer (some ⟨g, 0, none⟩)] 113)).alloc (.cells #[.slice (some ⟨gr, 0, none⟩) L.n L.n] 186)
  have d0 := heap_alloc_new w4 (.cells #[.pointer (some ⟨g, 0, none⟩)] 113)
  have d1 := heap_alloc_new (w4.alloc (.cells #[.pointer (some ⟨g, 0, none⟩)] 113)) (.cells #[.slice (some ⟨gr, 0, none⟩) L.n L.n] 186)
  rw [size_alloc] at d1
  have d0' := alloc_whole (o' := .cells #[.slice (some ⟨gr, 0, none⟩) L.n L.n] 186) d0
  rw [← hw5] at hk5 d1 d0'
  have HL5 := Lib.hid (HL4.out.kept hk5 (by simp))
  have HB55 := Lib.hid (hk5.keep HB5.out (by simp))
  have HP5 := Lib.hid (HP4.out.kept hk5 (by simp))
  have HK5 := Lib.hid (HK4.out.trans (hk5.mono (G := [g]) (by simp)) (by simp))
  have s0 := lt_whole d0'
  have s1 := lt_whole d1
  have e0 := cell_whole d0' 0
  have e1 := cell_whole d1 0
  simp only [List.getElem?_toArray, List.getElem?_cons_zero] at e0 e1
  have HE0 := Lib.hid e0
  have HE1 := Lib.hid e1
  clear d0 d1 d0' hk5 HL4 HB5 HP4 HK4 hw5 HB2 HP H e0 e1
  generalize w4.heap.size = c at *
  go_wp2_with fail
  have hfrom : ∀ W, Below w5.heap.size w5 W → Kept [] w5 W := fun W h => ⟨h.os, h.tape, h.output, h.size, fun k hk _ => h.block k hk⟩
  have hseq : SeqStopsK (α := Empty) Fence.wide (3 - 1) Tryz.prog 189 #[.pointer (some ⟨c, 0, none⟩), .pointer (some ⟨c + 1, 0, none⟩)] (fun x => x.elim) (Below w5.heap.size) (fun xs => xs = []) (fun _ => False) 0 w5 := by
    intro l J Jx W hW hJ hJx hY h0
    have hkW := hfrom W hW
    refine callsIn_wide.2 ((row1_walk l c (c + 1) g d gr _ W (HL5.out.kept hkW (by simp)) (HP5.out.kept hkW (by simp)) ((cell_kept hkW s0 (i := 0) (by simp)).trans HE0.out) ((cell_kept hkW s1 (i := 0) (by simp)).trans HE1.out) hep).mono ?_)
    rintro e W' ⟨rfl, hg'⟩
    exact ⟨⟨_, rfl⟩, .inl ⟨[], rfl, hJ [] W W' none h0 hg' (fun r e => by cases e)⟩⟩
  refine wpIn_wide.1 (wpIn_rangeFunc_ownF (F := Fence.wide) (n := 3) rfl (by omega) (gf := 189) (lb := #[.pointer (some ⟨c, 0, none⟩), .pointer (some ⟨c + 1, 0, none⟩)]) rfl trivial (enters_of Tryz.func189 (by kernel_rfl) rfl)
    hseq belowK_t (belowK_b (Nat.le_refl _)) (Below.refl _ _) (fun x => x.elim) (fun _ W => Below w5.heap.size w5 W) (fun _ _ _ => False) (ownFrom_below (Nat.le_refl _) (Nat.le_refl _)) (fun _ _ _ _ _ hs _ _ => hs) (Below.refl _ _) (fun x => x.elim)
    (fun l x => x.elim) (fun l pre x => x.elim) ?done ?stop)
  case stop =>
    rintro D c pre W hD ⟨⟩
  case done =>
    rintro D ys W hD _ hB hK
    have hkW := hfrom W hB
    have e5 := cell_whole (hkW.keep HB55.out (by simp)) 0
    simp only [List.getElem?_toArray, List.getElem?_cons_zero] at e5
    dsimp only
    go_wp2_with fail
    rw [Exit.noGoto_ret]
    refine ⟨by simp, .inl ⟨_, _, rfl, run_takeDeferred hK, ?_⟩⟩
    subst ht
    have hput := hfrom _ (hB.trans (belowK_b (w := w5) (Nat.le_refl _) W D _ (.deferred none) hD hK rfl rfl))
    exact ⟨_, results_tmp rfl _ _ _, rfl, HL5.out.kept hput (by simp), HK5.out.trans (hput.mono (G := [g]) (by simp)) (by simp)⟩
end Go.Proofs.YtikfphojehgpjaaGreatDoor
/- wal: Open, over a log that holds nothing. -/
namespace Go.Proofs.YtikfphojehgpjaaGreatDoor
open Go.RowKit Vl Go.Maps Go.ChangeMaps
set_option linter.unusedVariables false

def opLog (first n life : Nat) : Lg := { first := first, n := n, life := life, epoch := 1, top := 1, tail := 0, head := 0, started := false }
def WOpenPost (d du mp : Nat) (D : Dk) (first n : Nat) (w : World) (e : Ending) (w' : World) : Prop :=
  (D.burnt = true ∧ e = .returned (.tuple #[.pointer none, .slice none 0 0, .int .i64 3]) ∧ Dead d du mp D w w') ∨
  (∃ g base D', e = .returned (.tuple #[.pointer (some ⟨g, 0, none⟩), .slice none 0 0, .int .i64 0]) ∧ w.heap.size ≤ g ∧ g < base ∧ DiskAt w' d du mp base D' ∧ Sim D.take D' ∧ Flushed D' D.now ∧ LogAt w' g d (opLog first n (D.life + 1)) ∧ Kept [d, du, mp] w w')
structure WOpenIn (d du mp base : Nat) (D : Dk) (first n : Nat) (w : World) : Prop where
  disk : DiskAt w d du mp base D
  hf : first < D.S
  hn : 18 ≤ n ∧ n ≤ 256
  fit : first + 2 + n ≤ D.S
  life : D.life < 1000000
  pend : ∀ i, D.pend i = none
  left : Bodied (D.now first) ∧ anchorN (D.now first) = 4294967296 ∧ anchorD (D.now first) = []
  right : Bodied (D.now (first + 1)) ∧ anchorN (D.now (first + 1)) = 0
  ring : ∀ j, j < n → D.now (first + 2 + j) = zsec
theorem shr32 : (4294967296 : Int) >>> 32 = 1 := by decide
set_option maxRecDepth 100000 in
set_option maxHeartbeats 2000000 in
theorem wopen_walk (d du mp base : Nat) (D : Dk) (first n : Nat) (w : World) (h : WOpenIn d du mp base D first n w) :
    Calls Tryz.prog 44 #[.pointer (some ⟨d, 0, none⟩), .int .i64 first, .int .i64 n] w (WOpenPost d du mp D first n w) := by
  have H := Lib.hid h
  have HPL := Lib.hid (place_walk d du mp base D w h.disk first n h.hf h.hn h.fit)
  have HT := Lib.hid (take_walk d du mp base D w h.disk h.life)
  have hS := h.disk.pos
  have hn := h.hn
  have hfit := h.fit
  have hlf := h.life
  have hlow := h.disk.low
  have hbl := h.disk.base_le
  have hdl := lt_whole h.disk.blk
  clear h
  cases hb : D.burnt with
  | true =>
    rw [hb] at HPL
    go_enter Tryz.func44, Tryz.ntmps44
    go_wp2_with fail
    refine HPL.out.mono ?_
    rintro e w1 ⟨rfl, rfl⟩
    simp only [if_true]
    go_wp2
    refine bodyPost_ret (results_tmp3 rfl _ _ _) rfl ?_
    exact .inl ⟨hb, rfl, base, D, H.out.disk, hb, rfl, Nat.le_refl _, Kept.refl _ _⟩
  | false =>
    rw [hb] at HPL
    go_enter Tryz.func44, Tryz.ntmps44
    go_wp2_with fail
    refine HPL.out.mono ?_
    rintro e w1 ⟨rfl, rfl⟩
    simp only [Bool.false_eq_true, if_false]
    go_wp2_with fail
    refine HT.out.mono ?_
    rintro e w2 ⟨rfl, hD2, hk2⟩
    have HD2 := Lib.hid hD2
    have HK2 := Lib.hid hk2
    clear hD2 hk2 HT HPL
    go_upto_region 5 with fail
    have hl0 : LogAt (w2.alloc (.cells #[.pointer (some ⟨d, 0, none⟩), .int .i64 first, .int .i64 n, .int .i64 ((D.life : Int) + 1), .int .i64 0, .int .i64 0, .int .i64 0, .int .i64 0, .bool false] 174)) w2.heap.size d (fmtLog first n (D.life + 1)) :=
      ⟨heap_alloc_new w2 _, by show first ≤ 4096; omega, hn, by show D.life + 1 ≤ 1000000; omega, Nat.zero_le _, Nat.zero_le _, Nat.zero_le _, Nat.zero_le _⟩
    have hk3 := HK2.out.alloc (.cells #[.pointer (some ⟨d, 0, none⟩), .int .i64 first, .int .i64 n, .int .i64 ((D.life : Int) + 1), .int .i64 0, .int .i64 0, .int .i64 0, .int .i64 0, .bool false] 174)
    have hd3 := HD2.out.kept0 ((Kept.refl [] w2).alloc (.cells #[.pointer (some ⟨d, 0, none⟩), .int .i64 first, .int .i64 n, .int .i64 ((D.life : Int) + 1), .int .i64 0, .int .i64 0, .int .i64 0, .int .i64 0, .bool false] 174))
    have hw2 := HK2.out.size
    have hlg : w2.heap.size < (w2.alloc (.cells #[.pointer (some ⟨d, 0, none⟩), .int .i64 first, .int .i64 n, .int .i64 ((D.life : Int) + 1), .int .i64 0, .int .i64 0, .int .i64 0, .int .i64 0, .bool false] 174)).heap.size := by rw [size_alloc]; omega
    generalize w2.alloc (.cells #[.pointer (some ⟨d, 0, none⟩), .int .i64 first, .int .i64 n, .int .i64 ((D.life : Int) + 1), .int .i64 0, .int .i64 0, .int .i64 0, .int .i64 0, .bool false] 174) = w3 at *
    have hd3b := hd3.rebase (show ∀ i, D.take.pend i = none from H.out.pend) (b := w3.heap.size) hd3.base_le (Nat.le_refl _)
    generalize hg : w2.heap.size = g at *
    have HGW := Lib.hid hw2
    have hgd : g ≠ d := by have := hw2; omega
    have HL3 := Lib.hid hl0
    have HD3 := Lib.hid hd3b
    have HK3 := Lib.hid hk3
    generalize hbs : w3.heap.size = base3 at *
    have HPR := Lib.hid (pairL_walk d du mp base3 g D.take _ w3 HD3.out HL3.out hgd (by show first + 1 < D.S; omega))
    have HGB := Lib.hid hlg
    clear hl0 hk3 hd3 hd3b hw2 hg hlg hbs HD2 HK2
    go_wp2_with fail
    refine HPR.out.mono ?_
    rintro e w4 (⟨hb4, _, _⟩ | ⟨hb4, g1, g2, hg1, hg2, rfl, hB1, hB2, hD4, hk4⟩)
    · exact absurd (hb4.symm.trans hb) (by decide)
    have HNW := Lib.hid (newest_walk (D.now first) (D.now (first + 1)) g1 0 512 g2 0 512 w4 hB1.at hB2.at H.out.left.1 H.out.right.1)
    have HD4 := Lib.hid hD4
    have HK4 := Lib.hid hk4
    clear hg1 hg2 hB1 hB2 hD4 hk4 HPR
    go_wp2_with fail
    refine HNW.out.mono ?_
    rintro e w5 ⟨hk5, hpost⟩
    obtain ⟨a5, c5, rfl⟩ : ∃ a c, e = .returned (.tuple #[.int .i64 0, .int .i64 4294967296, .slice a 0 c, .int .i64 0]) := by
      rcases hpost with ⟨h1, _⟩ | ⟨h1, _⟩ | ⟨_, _, a, c, he, _⟩
      · rw [H.out.left.2.1] at h1; cases h1
      · rw [H.out.left.2.1, H.out.right.2] at h1; omega
      · exact ⟨a, c, by rw [he, H.out.left.2.1, H.out.left.2.2]; rfl⟩
    have HD5 := Lib.hid (HD4.out.kept0 hk5)
    have HK5 := Lib.hid (HK4.out.trans (hk5.mono (G := [d]) (by simp)) (by simp))
    have HL5 := Lib.hid ((HL3.out.kept HK4.out (by simp; exact hgd)).kept hk5 (by simp))
    clear hk5 hpost HNW HD4 HK4 HL3
    obtain ⟨_, _, _, _, c4, c5', c6, _⟩ := HL5.out.cells
    have f4 := frozen_whole HL5.out.blk 4
    have f6 := frozen_whole HL5.out.blk 6
    go_wp2_with fail
    have hbits : bits BinOp.and IntKind.i64 4294967296 4294967295 = 0 := by kernel_rfl
    rw [hbits]
    have hl6 : LogAt ((w5.setCell ⟨g, 4, none⟩ (.int .i64 1)).setCell ⟨g, 6, none⟩ (.int .i64 0)) g d { fmtLog first n (D.life + 1) with epoch := 1 } :=
      ⟨by
        have s1 := set_whole (i := 4) HL5.out.blk (.int .i64 1)
        have s2 := set_whole (i := 6) s1 (.int .i64 0)
        rw [s2]; rfl, HL5.out.first, HL5.out.n, HL5.out.life, by show 1 ≤ 1073741824; omega, HL5.out.top, HL5.out.tail, HL5.out.head⟩
    have hk6 := ((Kept.refl [g] w5).setCell ⟨g, 4, none⟩ (.int .i64 1) (.inl (by simp))).setCell ⟨g, 6, none⟩ (.int .i64 0) (.inl (by simp))
    have hd6 := HD5.out.kept hk6 (by simp; exact fun e => hgd e.symm) (by simp; have := HGW.out; omega) (by simp; have := HGW.out; omega) (by simp; exact HGB.out)
    generalize ((w5.setCell ⟨g, 4, none⟩ (.int .i64 1)).setCell ⟨g, 6, none⟩ (.int .i64 0)) = w6 at *
    have HRG := Lib.hid (ring_walk d du mp base3 g D.take.read.read _ w6 hd6 hl6 hgd (by show first + 2 + n ≤ D.S; omega) hb H.out.ring)
    have HK6 := Lib.hid ((HK5.out.mono (G := [d, g]) (by simp)).trans hk6 (by simp))
    have HL6 := Lib.hid hl6
    clear hl6 hk6 hd6 HL5 HK5 HD5 c4 c5' c6 f4 f6 hbits
    refine HRG.out.mono ?_
    rintro e w7 ⟨gr, x7, hgr, rfl, hp7, hd7, hk7⟩
    have HL7 := Lib.hid (HL6.out.kept hk7 (by simp; exact hgd))
    have HK7 := Lib.hid (HK6.out.trans hk7 (by simp))
    have HD7 := Lib.hid hd7
    have HP7 := Lib.hid hp7
    have hlg6 := lt_whole HL6.out.blk
    have hgne : g ≠ gr := by omega
    obtain ⟨_, _, _, _, c4, c5', c6, _⟩ := HL7.out.cells
    have f5 := frozen_whole HL7.out.blk 5
    have HTP := Lib.hid (top_walk 1 gr n w7 hp7 (by omega) (by omega))
    clear hgr hp7 hd7 hk7 HL6 HK6 HRG hlg6
    go_wp2_with fail
    refine HTP.out.mono ?_
    rintro e w8 ⟨rfl, hk8⟩
    have hl8 := HL7.out.kept hk8 (by simp)
    have hl9 : LogAt (w8.setCell ⟨g, 5, none⟩ (.int .i64 1)) g d { fmtLog first n (D.life + 1) with epoch := 1, top := 1 } :=
      ⟨by
        have s1 := set_whole (i := 5) hl8.blk (.int .i64 1)
        rw [s1]; rfl, hl8.first, hl8.n, hl8.life, hl8.epoch, by show 1 ≤ 1073741824; omega, hl8.tail, hl8.head⟩
    have hk9 := (hk8.mono (G := [g]) (by simp)).setCell ⟨g, 5, none⟩ (.int .i64 1) (.inl (by simp))
    have hd9 := HD7.out.kept hk9 (by simp; exact fun e => hgd e.symm) (by simp; have := HGW.out; omega) (by simp; have := HGW.out; omega) (by simp; exact HGB.out)
    have HP9 := Lib.hid (HP7.out.kept hk9 (by simp; exact fun e => hgne e.symm))
    have HK9 := Lib.hid (HK7.out.trans hk9 (by simp))
    obtain ⟨_, _, _, _, c4, c5', c6, _⟩ := hl8.cells
    have f5 := frozen_whole hl8.blk 5
    have hg8 := lt_whole hl8.blk
    have e5 : (w8.setCell ⟨g, 5, none⟩ (.int .i64 1)).cell? ⟨g, 5, none⟩ = some (.int .i64 1) := cell_whole hl9.blk 5
    have HL9 := Lib.hid hl9
    have HD9 := Lib.hid hd9
    have HSC := Lib.hid (scan_walk g d gr _ _ hl9 HP9.out (by show 1 ≤ 1; omega) hgne)
    clear hk8 hl8 hl9 hk9 hd9 HL7 HD7 HP7 HK7 HTP HP9
    go_wp2_with fail
    refine HSC.out.mono ?_
    rintro e w10 ⟨rfl, hl10, hk10⟩
    have hd10 := HD9.out.kept hk10 (by simp; exact fun e => hgd e.symm) (by simp; have := HGW.out; omega) (by simp; have := HGW.out; omega) (by simp; exact HGB.out)
    have HFL := Lib.hid (flush_walk d du mp base3 _ w10 hd10)
    have HD10 := Lib.hid hd10
    have HL10 := Lib.hid hl10
    have HK10 := Lib.hid (HK9.out.trans hk10 (by simp))
    clear hl10 hk10 hd10 HD9 HK9 HL9 HSC c4 c5' c6 f5 e5
    generalize w8.setCell ⟨g, 5, none⟩ (.int .i64 1) = w9 at *
    go_wp2_with fail
    refine HFL.out.mono ?_
    rintro e w11 (⟨hb11, _, _⟩ | ⟨_, rfl, hd11, hk11⟩)
    · exact absurd (hb11.symm.trans hb) (by decide)
    have HD11 := Lib.hid (hd11.rebase (fun _ => rfl) (b := w11.heap.size) hd11.base_le (Nat.le_refl _))
    have HL11 := Lib.hid (HL10.out.kept hk11 (by simp; have := HGW.out; refine ⟨hgd, ?_, ?_⟩ <;> omega))
    have HK11 := Lib.hid ((HK10.out.mono (G := [d, du, mp, g]) (by simp)).trans hk11 (by simp))
    have hlt11 := lt_whole HL11.out.blk
    clear hd11 hk11 HD10 HL10 HK10 HFL
    go_wp2
    refine bodyPost_ret (results_tmp3 rfl _ _ _) rfl ?_
    refine .inr ⟨g, w11.heap.size, _, rfl, HGW.out, hlt11, HD11.out, ⟨rfl, rfl, rfl⟩, ⟨fun _ => rfl, rfl, rfl, rfl⟩, HL11.out, (HK3.out.mono (G := [d, du, mp]) (by simp)).trans HK11.out (by simp; exact .inr HGW.out)⟩
end Go.Proofs.YtikfphojehgpjaaGreatDoor
/- wal: alive, ready, free, Start, Room, Sync, Trim, put. -/
namespace Go.Proofs.YtikfphojehgpjaaGreatDoor
open Go.RowKit Vl Go.Maps Go.ChangeMaps
set_option linter.unusedVariables false
theorem Dead.from {d du mp : Nat} {D D1 : Dk} {w w1 w2 : World} {F : List Nat} (h : Dead d du mp D1 w1 w2) (hS : D1.S = D.S) (hl : D.life ≤ D1.life) (hk : Kept F w w1) (hF : ∀ x ∈ F, x ∈ [d, du, mp] ∨ w.heap.size ≤ x) : Dead d du mp D w w2 := by
  obtain ⟨b, D', h1, h2, h3, h4, h5⟩ := h
  exact ⟨b, D', h1, h2, h3.trans hS, Nat.le_trans hl h4, (hk.mono (G := [d, du, mp]) hF).trans h5 (fun x hx => .inl hx)⟩
theorem Dead.to {d du mp : Nat} {D : Dk} {w w1 w2 : World} {F : List Nat} (h : Dead d du mp D w w1) (hk : Kept F w1 w2) (hF : ∀ x ∈ F, x ∈ [d, du, mp] ∨ w.heap.size ≤ x) (h0 : ∀ x ∈ F, x ≠ d ∧ x ≠ du ∧ x ≠ mp) (hB : ∀ x ∈ F, ∀ b D', DiskAt w1 d du mp b D' → x < b) : Dead d du mp D w w2 := by
  obtain ⟨b, D', h1, h2, h3, h4, h5⟩ := h
  exact ⟨b, D', h1.kept hk (fun hd => (h0 d hd).1 rfl) (fun hd => (h0 du hd).2.1 rfl) (fun hd => (h0 mp hd).2.2 rfl) (fun x hx => hB x hx b D' h1), h2, h3, h4, h5.trans hk hF⟩
theorem Dead.same {d du mp : Nat} {D : Dk} {w w1 w2 : World} (h : Dead d du mp D w w1) (hk : Kept [] w1 w2) : Dead d du mp D w w2 := h.to hk (by simp) (by simp) (by simp)
theorem Dead.now {d du mp base : Nat} {D D1 : Dk} {w w1 : World} {F : List Nat} (h : DiskAt w1 d du mp base D1) (hb : D1.burnt = true) (hS : D1.S = D.S) (hl : D.life ≤ D1.life) (hk : Kept F w w1) (hF : ∀ x ∈ F, x ∈ [d, du, mp] ∨ w.heap.size ≤ x) : Dead d du mp D w w1 :=
  ⟨base, D1, h, hb, hS, hl, hk.mono hF⟩
section
variable {d du mp base g : Nat} {D : Dk} {L : Lg}

theorem alive_walk (w : World) (h : DiskAt w d du mp base D) (hL : LogAt w g d L) (hl : L.life = D.life) :
    Calls Tryz.prog 102 #[.pointer (some ⟨g, 0, none⟩)] w fun e w' => e = .returned (.int .i64 (if D.burnt = true then 3 else 0)) ∧ ∃ n, w' = w.drewN n := by
  have hbw := fun n => burnt_walk d du mp base D (w.drewN n) (h.kept0 ((Kept.refl [] w).drewN n))
  have hlw := fun n => life_walk d du mp base D (w.drewN n) (h.kept0 ((Kept.refl [] w).drewN n))
  obtain ⟨c0, _, _, c3, _⟩ := hL.cells
  have HBW := Lib.hid hbw
  have HLW := Lib.hid hlw
  have hlt := lt_whole hL.blk
  have hdl := lt_whole h.blk
  rw [hl] at c3
  clear hbw hlw h hL
  cases hb : D.burnt with
  | true =>
    rw [hb] at HBW
    go_enter Tryz.func102, Tryz.ntmps102
    go_wp2_with fail
    go_quiet (first | (go_at_call 12; exact Calls.quiet_of_same (HBW.out _)) | (go_at_call 7; exact Calls.quiet_of_same (HLW.out _)))
    go_wp2
    go_ret
    exact ⟨rfl, _, rfl⟩
  | false =>
    rw [hb] at HBW
    go_enter Tryz.func102, Tryz.ntmps102
    go_wp2_with fail
    go_quiet (first | (go_at_call 12; exact Calls.quiet_of_same (HBW.out _)) | (go_at_call 7; exact Calls.quiet_of_same (HLW.out _)))
    go_wp2
    go_ret
    exact ⟨rfl, _, rfl⟩
theorem ready_walk (w : World) (h : DiskAt w d du mp base D) (hL : LogAt w g d L) (hl : L.life = D.life) (hs : L.started = true) :
    Calls Tryz.prog 121 #[.pointer (some ⟨g, 0, none⟩)] w fun e w' => e = .returned (.int .i64 (if D.burnt = true then 3 else 0)) ∧ ∃ n, w' = w.drewN n := by
  have HA := Lib.hid (alive_walk w h hL hl)
  have hc := fun n => (hL.kept ((Kept.refl [] w).drewN n) (by simp)).cells
  have hg := lt_whole hL.blk
  have HC := Lib.hid hc
  clear h hL hc
  cases hb : D.burnt with
  | true =>
    rw [hb] at HA
    go_enter Tryz.func121, Tryz.ntmps121
    go_wp2_with fail
    refine HA.out.mono ?_
    rintro e w' ⟨rfl, n, rfl⟩
    simp only [if_true]
    go_wp2
    go_ret
    exact ⟨rfl, _, rfl⟩
  | false =>
    rw [hb] at HA
    go_enter Tryz.func121, Tryz.ntmps121
    go_wp2_with fail
    refine HA.out.mono ?_
    rintro e w' ⟨rfl, n, rfl⟩
    simp only [Bool.false_eq_true, if_false]
    obtain ⟨_, _, _, _, _, _, _, _, c8⟩ := HC.out n
    rw [hs] at c8
    go_wp2
    go_ret
    exact ⟨rfl, _, rfl⟩
theorem free_walk (w : World) (hL : LogAt w g d L) :
    Calls Tryz.prog 167 #[.pointer (some ⟨g, 0, none⟩)] w fun e w' => e = .returned (.int .i64 ((L.n : Int) - ((L.head : Int) - (L.tail : Int)))) ∧ ∃ n, w' = w.drewN n := by
  obtain ⟨_, _, c2, _, _, _, c6, c7, _⟩ := hL.cells
  have hn := hL.n
  have ht := hL.tail
  have hh := hL.head
  have hlt := lt_whole hL.blk
  clear hL
  generalize L.n = n at *
  generalize L.tail = t at *
  generalize L.head = hd at *
  go_enter Tryz.func167, Tryz.ntmps167
  go_wp2_with fail
  go_quiet (fail)
  go_wp2
  go_ret
  exact ⟨rfl, _, rfl⟩
theorem room_walk (w : World) (h : DiskAt w d du mp base D) (hL : LogAt w g d L) (hl : L.life = D.life) (hs : L.started = true) (hb : D.burnt = false) :
    Calls Tryz.prog 119 #[.pointer (some ⟨g, 0, none⟩)] w fun e w' => e = .returned (.tuple #[.int .i64 ((L.n : Int) - ((L.head : Int) - (L.tail : Int))), .int .i64 0]) ∧ Kept [] w w' := by
  have HA := Lib.hid (ready_walk w h hL hl hs)
  have HF := Lib.hid (fun n => free_walk _ (hL.kept ((Kept.refl [] w).drewN n) (by simp)))
  rw [hb] at HA
  clear h hL
  go_enter Tryz.func119, Tryz.ntmps119
  go_wp2_with fail
  refine HA.out.mono ?_
  rintro e w' ⟨rfl, n, rfl⟩
  simp only [Bool.false_eq_true, if_false]
  go_wp2_with fail
  refine (HF.out _).mono ?_
  rintro e w' ⟨rfl, n, rfl⟩
  go_wp2
  refine bodyPost_ret (results_tmp2 rfl _ _ _) rfl ?_
  exact ⟨rfl, (Kept.refl [] w).drewN _⟩
def Lg.start (L : Lg) : Lg := { L with epoch := L.top + 1, tail := 0, head := 0, started := true }
def StartPost (d du mp base g : Nat) (D : Dk) (L : Lg) (w : World) (e : Ending) (w' : World) : Prop :=
  (e = .returned (.int .i64 3) ∧ Dead d du mp D w w') ∨
  (e = .returned (.int .i64 0) ∧ ∃ D', DiskAt w' d du mp base D' ∧ Sim D D' ∧ Flushed D' (anchNow D.now L.first ((L.top + 1) * 4294967296)) ∧ LogAt w' g d L.start ∧ Kept [d, du, mp, g] w w')
set_option maxRecDepth 100000 in
set_option maxHeartbeats 1000000 in
theorem start_walk (w : World) (h : AnchIn d du mp base g D L (L.top + 1) 0 w) (hl : L.life = D.life) (hs : L.started = false) :
    Calls Tryz.prog 47 #[.pointer (some ⟨g, 0, none⟩)] w (StartPost d du mp base g D L w) := by
  have HA := Lib.hid (alive_walk w h.disk h.log hl)
  have hN : ∀ n, AnchIn d du mp base g D L (L.top + 1) 0 (w.drewN n) := fun n =>
    have hk := (Kept.refl [] w).drewN n
    { h with disk := h.disk.kept0 hk, log := h.log.kept hk (by simp) }
  have HN := Lib.hid hN
  have H := Lib.hid h
  have htop := h.epB
  have hlt := lt_whole h.log.blk
  clear h hN
  cases hb : D.burnt with
  | true =>
    rw [hb] at HA
    go_enter Tryz.func47, Tryz.ntmps47
    go_wp2_with fail
    refine HA.out.mono ?_
    rintro e w' ⟨rfl, n, rfl⟩
    simp only [if_true]
    go_wp2
    go_ret
    exact .inl ⟨rfl, base, D, (HN.out n).disk, hb, rfl, Nat.le_refl _, (Kept.refl _ w).drewN n⟩
  | false =>
    rw [hb] at HA
    go_enter Tryz.func47, Tryz.ntmps47
    go_wp2_with fail
    refine HA.out.mono ?_
    rintro e w' ⟨rfl, n, rfl⟩
    simp only [Bool.false_eq_true, if_false]
    obtain ⟨_, _, _, _, _, c5, _, _, c8⟩ := (HN.out n).log.cells
    rw [hs] at c8
    have han := anchor_walk d du mp base g D L (L.top + 1) 0 (w.drewN n) (HN.out n)
    have hcast : ((L.top + 1 : Nat) : Int) = (L.top : Int) + 1 := by omega
    rw [hcast] at han
    have HAN := Lib.hid han
    have HK := Lib.hid ((Kept.refl [d, du, mp, g] w).drewN n)
    clear han hcast HN
    go_wp2_with fail
    refine HAN.out.mono ?_
    rintro e w2 (⟨rfl, hdead⟩ | ⟨rfl, D', hd2, hsim, hfl, hl2, hk2⟩)
    · have HD := Lib.hid hdead
      clear hdead
      go_wp2
      go_ret
      exact .inl ⟨rfl, HD.out.from rfl (Nat.le_refl _) ((Kept.refl [d, du, mp] w).drewN n) (fun x hx => .inl hx)⟩
    · have HD2 := Lib.hid hd2
      have HS2 := Lib.hid hsim
      have HF2 := Lib.hid hfl
      have HK2 := Lib.hid hk2
      have HL2 := Lib.hid hl2
      have f7 := frozen_whole hl2.blk 7
      have f8 := frozen_whole hl2.blk 8
      obtain ⟨_, _, _, _, _, _, _, c7', c8'⟩ := hl2.cells
      clear hd2 hsim hfl hk2 hl2
      have hk3 := ((Kept.refl [g] w2).setCell ⟨g, 7, none⟩ (.int .i64 0) (.inl (by simp))).setCell ⟨g, 8, none⟩ (.bool true) (.inl (by simp))
      have hl3 : LogAt ((w2.setCell ⟨g, 7, none⟩ (.int .i64 0)).setCell ⟨g, 8, none⟩ (.bool true)) g d L.start :=
        ⟨by
          have s1 := set_whole (i := 7) HL2.out.blk (.int .i64 0)
          have s2 := set_whole (i := 8) s1 (.bool true)
          rw [s2]; rfl, HL2.out.first, HL2.out.n, HL2.out.life, HL2.out.epoch, HL2.out.top, HL2.out.tail, Nat.zero_le _⟩
      have hgd := H.out.gd
      have hd3 := HD2.out.kept hk3 (by simp; exact fun e => hgd.1 e.symm) (by simp; exact fun e => hgd.2.1 e.symm) (by simp; exact fun e => hgd.2.2.1 e.symm) (by simp; exact hgd.2.2.2)
      have HEND := Lib.hid (show StartPost d du mp base g D L w (.returned (.int .i64 0)) _ from .inr ⟨rfl, D', hd3, HS2.out, by simpa using HF2.out, hl3, (HK.out.trans HK2.out (by simp)).trans hk3 (by simp)⟩)
      clear hk3 hl3 hd3
      go_wp2
      go_ret
      exact HEND.out
theorem sync_walk (w : World) (h : DiskAt w d du mp base D) (hL : LogAt w g d L) (hl : L.life = D.life) (hs : L.started = true) :
    Calls Tryz.prog 67 #[.pointer (some ⟨g, 0, none⟩)] w (FlushPost d du mp base D w) := by
  have HA := Lib.hid (ready_walk w h hL hl hs)
  have hc := fun n => (hL.kept ((Kept.refl [] w).drewN n) (by simp)).cells
  have HFL := Lib.hid (fun n => flush_walk d du mp base D (w.drewN n) (h.kept0 ((Kept.refl [] w).drewN n)))
  have hg := lt_whole hL.blk
  have HC := Lib.hid hc
  clear h hL hc
  cases hb : D.burnt with
  | true =>
    rw [hb] at HA
    go_enter Tryz.func67, Tryz.ntmps67
    go_wp2_with fail
    refine HA.out.mono ?_
    rintro e w' ⟨rfl, n, rfl⟩
    simp only [if_true]
    go_wp2
    go_ret
    exact .inl ⟨hb, rfl, (Kept.refl [] w).drewN n⟩
  | false =>
    rw [hb] at HA
    go_enter Tryz.func67, Tryz.ntmps67
    go_wp2_with fail
    refine HA.out.mono ?_
    rintro e w' ⟨rfl, n, rfl⟩
    simp only [Bool.false_eq_true, if_false]
    obtain ⟨c0, _⟩ := HC.out n
    go_wp2_with fail
    refine (HFL.out n).mono ?_
    rintro e w2 (⟨hb2, _, _⟩ | ⟨_, rfl, hd2, hk2⟩)
    · exact absurd (hb2.symm.trans hb) (by decide)
    have HEND := Lib.hid (show FlushPost d du mp base D w (.returned (.int .i64 0)) w2 from .inr ⟨hb, rfl, hd2, ((Kept.refl [d, du, mp] w).drewN n).trans hk2 (by simp)⟩)
    clear hd2 hk2
    go_wp2
    go_ret
    exact HEND.out
def TrimPost (d du mp base g : Nat) (D : Dk) (L : Lg) (w : World) (e : Ending) (w' : World) : Prop :=
  (e = .returned (.int .i64 3) ∧ Dead d du mp D w w') ∨
  (e = .returned (.int .i64 0) ∧ ∃ D', DiskAt w' d du mp base D' ∧ Sim D D' ∧ Flushed D' (anchNow D.now L.first (L.epoch * 4294967296 + L.head)) ∧ LogAt w' g d (L.anch L.epoch L.head) ∧ Kept [d, du, mp, g] w w')
set_option maxRecDepth 100000 in
set_option maxHeartbeats 1000000 in
theorem trim_walk (w : World) (h : DiskAt w d du mp base D) (hL : LogAt w g d L) (hl : L.life = D.life) (hs : L.started = true) (hne : L.tail ≠ L.head) (hgd : g ≠ d ∧ g ≠ du ∧ g ≠ mp ∧ g < base)
    (hA : ∀ w', DiskAt w' d du mp base D.flush → LogAt w' g d L → AnchIn d du mp base g D.flush L L.epoch L.head w') :
    Calls Tryz.prog 68 #[.pointer (some ⟨g, 0, none⟩)] w (TrimPost d du mp base g D L w) := by
  have HS := Lib.hid (sync_walk w h hL hl hs)
  have H := Lib.hid h
  have HL := Lib.hid hL
  have HA := Lib.hid hA
  have hg := lt_whole hL.blk
  clear h hL hA
  go_enter Tryz.func68, Tryz.ntmps68
  go_wp2_with fail
  refine HS.out.mono ?_
  rintro e w1 (⟨hb1, rfl, hk1⟩ | ⟨hb1, rfl, hd1, hk1⟩)
  · have HEND := Lib.hid (show TrimPost d du mp base g D L w (.returned (.int .i64 3)) w1 from .inl ⟨rfl, Dead.now (H.out.kept0 hk1) hb1 rfl (Nat.le_refl _) hk1 (by simp)⟩)
    have HQ : Hid (∀ n, TrimPost d du mp base g D L w (.returned (.int .i64 3)) (w1.drewN n)) := Lib.hid (fun n => .inl ⟨rfl, Dead.now (H.out.kept0 (hk1.drewN n)) hb1 rfl (Nat.le_refl _) (hk1.drewN n) (by simp)⟩)
    clear hk1
    go_wp2_with fail
    go_quiet (fail)
    go_wp2
    go_ret
    exact HQ.out _
  · have hl1 := HL.out.kept hk1 (by simp; exact ⟨hgd.1, hgd.2.1, hgd.2.2.1⟩)
    have hc := fun n => (hl1.kept ((Kept.refl [] w1).drewN n) (by simp)).cells
    have han : ∀ n, Calls Tryz.prog 87 #[.pointer (some ⟨g, 0, none⟩), .int .i64 L.epoch, .int .i64 L.head] (w1.drewN n) (AnchPost d du mp base g D.flush L L.epoch L.head (w1.drewN n)) := fun n =>
      anchor_walk d du mp base g D.flush L L.epoch L.head (w1.drewN n) (HA.out _ (hd1.kept0 ((Kept.refl [] w1).drewN n)) (hl1.kept ((Kept.refl [] w1).drewN n) (by simp)))
    have HAN := Lib.hid han
    have HK1 := Lib.hid hk1
    have HC := Lib.hid hc
    obtain ⟨_, _, _, _, c4, _, c6, c7, _⟩ := hl1.cells
    have hne' : ((L.tail : Int) == (L.head : Int)) = false := by rw [beq_eq_false_iff_ne]; omega
    have hg1 := lt_whole hl1.blk
    clear hk1 hd1 hl1 hc han
    go_wp2_with fail
    go_quiet (fail)
    go_wp2_with fail
    refine wp_canon (by kernel_rfl) (by kernel_rfl) ?_
    go_wp2_with fail
    refine (HAN.out _).mono ?_
    rintro e w2 (⟨rfl, hdead⟩ | ⟨rfl, D', hd2, hsim, hfl, hl2, hk2⟩)
    · have HEND := Lib.hid (show TrimPost d du mp base g D L w (.returned (.int .i64 3)) w2 from .inl ⟨rfl, hdead.from rfl (Nat.le_refl _) (HK1.out.drewN _) (fun x hx => .inl hx)⟩)
      clear hdead
      go_wp2
      refine ⟨rfl, ?_⟩
      go_wp2
      go_ret
      exact HEND.out
    · have HEND := Lib.hid (show TrimPost d du mp base g D L w (.returned (.int .i64 0)) w2 from .inr ⟨rfl, D', hd2, (Sim.flush D).trans hsim, by rw [(Flushed.flush D).now] at hfl; exact hfl, hl2, ((HK1.out.mono (G := [d, du, mp, g]) (by simp)).drewN _).trans hk2 (by simp)⟩)
      clear hd2 hsim hfl hl2 hk2
      go_wp2
      refine ⟨rfl, ?_⟩
      go_wp2
      go_ret
      exact HEND.out
end
end Go.Proofs.YtikfphojehgpjaaGreatDoor
/- store: Open's deferred function, demand. -/
namespace Go.Proofs.YtikfphojehgpjaaGreatDoor
open Go.RowKit Vl Go.Maps Go.ChangeMaps
set_option linter.unusedVariables false

theorem hta24 (n : Int) (w : World) : (Instr.typeAssert (.iface 24 (.int .i64 n)) 20 24 true).run Tryz.prog w = .ok (.tuple #[.int .i64 n, .bool true]) w := by kernel_rfl
def caughtO (r0 r1 : Nat) (n : Int) (w : World) : World := (w.setCell ⟨r0, 0, none⟩ (.pointer none)).setCell ⟨r1, 0, none⟩ (.int .i64 n)
set_option maxRecDepth 100000 in
set_option maxHeartbeats 1000000 in
theorem catchO (r0 r1 : Nat) (v0 v1 : Value) (n : Int) (w : World) (h0 : w.heap[r0]? = some (.cells #[v0] 54 (0, 0))) (h1 : w.heap[r1]? = some (.cells #[v1] 24 (0, 0))) (hne : r0 ≠ r1) :
    CallsD Tryz.prog 39 #[.pointer (some ⟨r0, 0, none⟩), .pointer (some ⟨r1, 0, none⟩)] (.panicking [{ v := .iface 24 (.int .i64 n), recovered := false }]) w fun e u' w' =>
      e = .returned (.tuple #[]) ∧ u' = .panicking [{ v := .iface 24 (.int .i64 n), recovered := true }] ∧ w' = caughtO r0 r1 n w := by
  have h3 := set_other (p := ⟨r0, 0, none⟩) (v := .pointer none) h1 hne
  have c0 := cell_whole h0 0
  have f0 := frozen_whole h0 0
  have c1 := cell_whole h3 0
  have f1 := frozen_whole h3 0
  simp only [List.getElem?_toArray, List.getElem?_cons_zero] at c0 c1
  have ht := hta24 n
  refine callsD_of_wpS Tryz.func39 rfl fun c₀ cs hu => ?_
  apply wpS_seq
  apply wpS_region
  simp [wpOpsS, go_sem, recoverD, hu, Tryz.ntmps39, Exit.thenS]
  refine wpS_of_wp ?_
  simp only [Array.replicate_succ, Array.replicate_zero, List.push_toArray, List.append_toArray, List.nil_append, List.cons_append, Array.setIfInBounds, List.size_toArray, List.length_cons, List.length_nil, Nat.reduceAdd, Nat.reduceLT, dite_true, Array.set, List.set_cons_succ, List.set_cons_zero]
  generalize hW : caughtO r0 r1 n w = W
  unfold caughtO at hW
  clear h0 h1 h3
  go_wp2
  cases c₀
  simp_all [bodyPostS, results, Tryz.results39]
set_option maxRecDepth 100000 in
set_option maxHeartbeats 1000000 in
theorem catchO_idle (r0 r1 : Nat) (w : World) :
    CallsD Tryz.prog 39 #[.pointer (some ⟨r0, 0, none⟩), .pointer (some ⟨r1, 0, none⟩)] .returning w fun e u' w' => e = .returned (.tuple #[]) ∧ u' = .returning ∧ w' = w := by
  refine callsD_of_wpS Tryz.func39 rfl fun c₀ cs hu => ?_
  apply wpS_seq
  apply wpS_region
  simp [wpOpsS, go_sem, recoverD, hu, Tryz.ntmps39, Exit.thenS]
  refine wpS_of_wp ?_
  simp only [Array.replicate_succ, Array.replicate_zero, List.push_toArray, List.append_toArray, List.nil_append, List.cons_append, Array.setIfInBounds, List.size_toArray, List.length_cons, List.length_nil, Nat.reduceAdd, Nat.reduceLT, dite_true, Array.set, List.set_cons_succ, List.set_cons_zero]
  go_wp2
  cases c₀
  simp_all [bodyPostS, results, Tryz.results39]

theorem res17 (tmps : Array Value) (w : World) (b0 b1 : Nat) (v0 v1 : Value) (h0 : tmps.getD 2 undef = .pointer (some ⟨b0, 0, none⟩)) (h1 : tmps.getD 3 undef = .pointer (some ⟨b1, 0, none⟩))
    (c0 : w.cell? ⟨b0, 0, none⟩ = some v0) (c1 : w.cell? ⟨b1, 0, none⟩ = some v1) : (results Tryz.f17 tmps).run Tryz.prog w = .ok (.tuple #[v0, v1]) w := by
  have h0' : tmps[2]?.getD undef = .pointer (some ⟨b0, 0, none⟩) := by simpa using h0
  have h1' : tmps[3]?.getD undef = .pointer (some ⟨b1, 0, none⟩) := by simpa using h1
  simp [results, Tryz.results17, h0', h1', asAddr, loadVar, c0, c1, go_sem]
/-- The way out, where a panic of an error comes to the door. -/
theorem doorO {tmps : Array Value} {R : Ending → World → Prop} {w : World} {b0 b1 : Nat} {v0 v1 : Value} {n : Int} (t0 : tmps.getD 2 undef = .pointer (some ⟨b0, 0, none⟩)) (t1 : tmps.getD 3 undef = .pointer (some ⟨b1, 0, none⟩))
    (h0 : w.heap[b0]? = some (.cells #[v0] 54 (0, 0))) (h1 : w.heap[b1]? = some (.cells #[v1] 24 (0, 0))) (hne : b0 ≠ b1) (hR : R (.returned (.tuple #[.pointer none, .int .i64 n])) (caughtO b0 b1 n w)) :
    Leaves Tryz.prog Tryz.f17 tmps R [{ target := .fn (.func 39) #[.pointer (some ⟨b0, 0, none⟩), .pointer (some ⟨b1, 0, none⟩)], args := #[] }] (.panicking [{ v := .iface 24 (.int .i64 n), recovered := false }]) w := by
  refine leaves_cons (f := 39) (args := #[.pointer (some ⟨b0, 0, none⟩), .pointer (some ⟨b1, 0, none⟩)]) (by simp) (by simp [go_sem]) ?_
  refine (catchO b0 b1 v0 v1 n w h0 h1 hne).mono ?_
  rintro e u' w'' ⟨rfl, rfl, rfl⟩
  have h2 := set_whole (i := 0) h0 (.pointer none)
  have h3 := set_other (p := ⟨b1, 0, none⟩) (v := .int .i64 n) h2 (fun e => hne e.symm)
  have h4 := set_whole (i := 0) (set_other (p := ⟨b0, 0, none⟩) (v := .pointer none) h1 hne) (.int .i64 n)
  have hr := res17 tmps (caughtO b0 b1 n w) b0 b1 _ _ t0 t1 (cell_whole h3 0) (cell_whole h4 0)
  exact ⟨_, hr, hR⟩
theorem doorO_idle {tmps : Array Value} {R : Ending → World → Prop} {w : World} {b0 b1 : Nat} {v0 v1 : Value} (t0 : tmps.getD 2 undef = .pointer (some ⟨b0, 0, none⟩)) (t1 : tmps.getD 3 undef = .pointer (some ⟨b1, 0, none⟩))
    (h0 : w.heap[b0]? = some (.cells #[v0] 54 (0, 0))) (h1 : w.heap[b1]? = some (.cells #[v1] 24 (0, 0))) (hR : R (.returned (.tuple #[v0, v1])) w) :
    Leaves Tryz.prog Tryz.f17 tmps R [{ target := .fn (.func 39) #[.pointer (some ⟨b0, 0, none⟩), .pointer (some ⟨b1, 0, none⟩)], args := #[] }] .returning w := by
  refine leaves_cons (f := 39) (args := #[.pointer (some ⟨b0, 0, none⟩), .pointer (some ⟨b1, 0, none⟩)]) (by simp) (by simp [go_sem]) ?_
  refine (catchO_idle b0 b1 w).mono ?_
  rintro e u' w'' ⟨rfl, rfl, rfl⟩
  exact ⟨_, res17 tmps w'' b0 b1 _ _ t0 t1 (cell_whole h0 0) (cell_whole h1 0), hR⟩
theorem demand_ok (w : World) : Calls Tryz.prog 41 #[.int .i64 0] w fun e w' => e = .returned (.tuple #[]) ∧ w' = w := by
  go_enter Tryz.func41, Tryz.ntmps41
  go_wp2
  go_end0
  exact ⟨rfl, rfl⟩
theorem demand_bad (n : Int) (hn : (n == 0) = false) (w : World) : Calls Tryz.prog 41 #[.int .i64 n] w fun e w' => e = .panicked [{ v := .iface 24 (.int .i64 n), recovered := false }] ∧ w' = w := by
  go_enter Tryz.func41, Tryz.ntmps41
  go_wp2
  exact ⟨rfl, rfl, rfl⟩
end Go.Proofs.YtikfphojehgpjaaGreatDoor
/- wal: put. -/
namespace Go.Proofs.YtikfphojehgpjaaGreatDoor
open Go.RowKit Vl Go.Maps Go.ChangeMaps
set_option linter.unusedVariables false

theorem new_cells (w : World) (xs : List Value) (e : TypeId) (n : Nat) (hn : n = w.heap.size) : ∀ j u, xs[j]? = some u → (w.alloc (.cells xs.toArray e)).cell? ((⟨n, 0, none⟩ : Addr).add j) = some u := by
  intro j u hj
  subst hn
  rw [Addr.add_lit, cell_whole (heap_alloc_new w (.cells xs.toArray e)), Nat.zero_add]
  simpa using hj
theorem own_pushed {w w1 : World} {B : Nat} {l m : List UInt8} {v v' : Value} (hle : B ≤ w.heap.size) (hw : Vl.Own w B 5 v l.length (bcells l))
    (h1 : w1.ownsRow B 5 1 v' (l.length + m.length) (bcells l ++ bcells m)) (hg : w.grownBy w1 v.ownBlock) :
    Vl.Own w1 B 5 v' (l ++ m).length (bcells (l ++ m)) ∧ Below B w w1 := by
  constructor
  · rw [bcells_append, List.length_append]; exact h1
  · exact (Below.refl B w).grown hg hle (fun k hk => (hw.block hk).1)
theorem leB_step (v n : Nat) : leB v (n + 1) = UInt8.ofNat (v % 256) :: leB (v / 256) n := rfl
def PutPost (B : Nat) (l : List UInt8) (w : World) (e : Ending) (w' : World) : Prop := ∃ v, e = .returned v ∧ Vl.Own w' B 5 v l.length (bcells l) ∧ Below B w w'
set_option maxRecDepth 100000 in
set_option maxHeartbeats 2000000 in
theorem put_walk (l : List UInt8) (v : Value) (x n B : Nat) (w : World) (h : Vl.Own w B 5 v l.length (bcells l)) (hB : B ≤ w.heap.size) (hx : x ≤ 1073741824) (hn : n ≤ 8) (hl : l.length ≤ 100000) :
    Calls Tryz.prog 196 #[v, .int .i64 x, .int .i64 n] w (PutPost B (l ++ leB x n) w) := by
  obtain ⟨i0, hi, hz0, hz1, hz2⟩ := info_parts info5
  have H := Lib.hid h
  clear h
  go_enter Tryz.func196, Tryz.ntmps196
  go_wp2
  go_loopw [0, 1, 8] (fun v0 v1 v8 wr => ∃ (m : List UInt8) (y k : Nat), k ≤ n ∧ v8 = .int .i64 k ∧ y ≤ 1073741824 ∧ v1 = .int .i64 y ∧ m ++ leB y (n - k) = l ++ leB x n ∧ m.length = l.length + k ∧ Vl.Own wr B 5 v0 m.length (bcells m) ∧ Below B w wr) (fun _ _ v8 _ => n - (intOf v8).toNat)
  case atStart => exact ⟨l, x, 0, by omega, rfl, hx, rfl, rfl, rfl, H.out, Below.refl _ _⟩
  case round =>
    obtain ⟨m, y, k, hk, rfl, hy, rfl, hm, hml, ho, hbw⟩ := hrel
    have HM := Lib.hid hm
    have HML := Lib.hid hml
    have hmb : m.length ≤ 100008 := by omega
    clear hml
    have HW := Lib.hid hbw
    have hsz := hbw.size
    clear hm hbw
    by_cases hlt : k < n
    · obtain ⟨av, cv, hv⟩ := ho.form
      have HO := Lib.hid ho
      have hbyte : ((UInt8.ofNat (y % 256)).toNat : Int) = (y : Int) % 256 := by rw [UInt8.toNat_ofNat']; omega
      have HBY := Lib.hid (show bcells [UInt8.ofNat (y % 256)] = [.int .u8 ((y : Int) % 256)] by unfold bcells; simp only [List.map_cons, List.map_nil, hbyte])
      clear ho hbyte
      subst hv
      go_wp2_with (at_builtin; refine wpList_append_own _ rfl _ _ 22 rfl B 5 i0 (.int .u8 0) 1 1 Tryz.underlying22 hi hz0 hz1 hz2 rfl (by decide) _ _ _ rfl (HO.out.alloc _) ⟨wr.heap.size, 0, none⟩ 1 1 [.int .u8 ((y : Int) % 256)] rfl rfl (new_cells _ [.int .u8 ((y : Int) % 256)] _ _ rfl) (Vl.one_cell rfl) (by unfold maxLen; omega) (by omega) (le_alloc (Nat.le_trans hB hsz) _) ?_)
      intro v2 w2 h2 hg2 _
      rw [← HBY.out] at h2
      obtain ⟨ho2, hb2⟩ := own_pushed (l := m) (m := [UInt8.ofNat (y % 256)]) (le_alloc (Nat.le_trans hB hsz) _) (HO.out.alloc _) h2 hg2
      have HO2 := Lib.hid ho2
      have HB2 := Lib.hid ((HW.out.trans ((Below.refl B wr).alloc (Nat.le_trans hB hsz) _)).trans hb2)
      clear ho2 hb2 h2 hg2
      go_wp2
      go_roundw
      case rel =>
        refine ⟨m ++ [UInt8.ofNat (y % 256)], y / 256, k + 1, by omega, by go_num, by omega, by go_num, ?_, by have := HML.out; simp; omega, HO2.out, HB2.out⟩
        rw [← HM.out, show n - k = (n - (k + 1)) + 1 by omega, leB_step, List.append_assoc]
        rfl
      case measure => simp [intOf]; omega
    · obtain rfl : k = n := by omega
      have hm' := HM.out
      rw [Nat.sub_self, show leB y 0 = [] from rfl, List.append_nil] at hm'
      have HEND := Lib.hid (show PutPost B (l ++ leB x k) w _ wr from ⟨_, rfl, hm' ▸ ho, HW.out⟩)
      clear ho hm'
      go_wp2
      go_ret
      exact HEND.out
end Go.Proofs.YtikfphojehgpjaaGreatDoor
