/- vellumref13: alike, Same: of the empty tree. -/
import Derived.Test.YtikfphojehgpjaaGreatDoorM38
import Derived.StillTailTactics
set_option linter.unusedSimpArgs false
set_option linter.unusedVariables false
namespace Go.Proofs.YtikfphojehgpjaaGreatDoor
open Go.RowKit Vl Go.Maps Go.ChangeMaps
set_option linter.unusedVariables false
set_option maxRecDepth 100000 in
set_option maxHeartbeats 2000000 in
theorem alike_walk (k l p : Int) (w : World) :
    Calls Tryz.prog 28 #[.agg (thingC k l p), .agg (thingC k l p)] w fun e w' => e = .returned (.bool true) ∧ Kept [] w w' := by
  have hx := alloc_whole (heap_alloc_new w (.cells (thingC k l p) 50)) (o' := .cells (thingC k l p) 50)
  have hy := heap_alloc_new (w.alloc (.cells (thingC k l p) 50)) (.cells (thingC k l p) 50)
  rw [size_alloc] at hy
  have hk := ((Kept.refl [] w).alloc (.cells (thingC k l p) 50)).alloc (.cells (thingC k l p) 50)
  unfold thingC at *
  go_enter Tryz.func28, Tryz.ntmps28
  go_upto_region 1 with fail
  generalize (w.alloc (.cells #[.int .i64 k, .int .i64 l, .int .i64 p, .int .i64 0, .slice none 0 0, .slice none 0 0, .int .i64 0] 50)).alloc (.cells #[.int .i64 k, .int .i64 l, .int .i64 p, .int .i64 0, .slice none 0 0, .slice none 0 0, .int .i64 0] 50) = w1 at *
  generalize w.heap.size = b at *
  have c0 := cell_whole hx 0
  have c1 := cell_whole hx 1
  have c2 := cell_whole hx 2
  have c3 := cell_whole hx 3
  have c4 := cell_whole hx 4
  have c5 := cell_whole hx 5
  have d0 := cell_whole hy 0
  have d1 := cell_whole hy 1
  have d2 := cell_whole hy 2
  have d3 := cell_whole hy 3
  have d4 := cell_whole hy 4
  have d5 := cell_whole hy 5
  have xl := lt_whole hx
  have yl := lt_whole hy
  simp only [List.getElem?_toArray, List.getElem?_cons_zero, List.getElem?_cons_succ] at c0 c1 c2 c3 c4 c5 d0 d1 d2 d3 d4 d5
  have HK := Lib.hid hk
  clear hx hy hk
  go_wp2
  go_loopw [5] (fun v5 wr => v5 = .int .i64 0 ∧ wr = w1) (fun _ _ => 0)
  case atStart => exact ⟨rfl, rfl⟩
  case round =>
    obtain ⟨rfl, rfl⟩ := hrel
    go_wp2
    go_loopw [6, 7, 8] (fun v6 _ _ wr2 => v6 = .int .i64 0 ∧ wr2 = wr) (fun _ _ _ _ => 0)
    case atStart => exact ⟨rfl, rfl⟩
    case round =>
      obtain ⟨rfl, rfl⟩ := hrel
      go_wp2
      go_ret
      exact ⟨rfl, HK.out⟩
theorem alikeI_walk (i : Nat) (w : World) : Calls Tryz.prog 28 #[.agg (thingI i), .agg (thingI i)] w fun e w' => e = .returned (.bool true) ∧ Kept [] w w' := by
  obtain ⟨a, b, c, h⟩ := thingI_form i
  rw [h]
  exact alike_walk a b c w
set_option maxRecDepth 100000 in
set_option maxHeartbeats 2000000 in
theorem same_walk (cap : Int) (a b n ca cb : Nat) (w : World) (ha : Things w a n) (hb : Things w b n) (hn : n ≤ 1024) :
    Calls Tryz.prog 15 #[.agg (treeC cap a n ca), .agg (treeC cap b n cb)] w fun e w' => e = .returned (.bool true) ∧ Kept [] w w' := by
  have hx := alloc_whole (heap_alloc_new w (.cells (treeC cap a n ca) 32)) (o' := .cells (treeC cap b n cb) 32)
  have hy := heap_alloc_new (w.alloc (.cells (treeC cap a n ca) 32)) (.cells (treeC cap b n cb) 32)
  rw [size_alloc] at hy
  have hk := ((Kept.refl [] w).alloc (.cells (treeC cap a n ca) 32)).alloc (.cells (treeC cap b n cb) 32)
  have HA := Lib.hid (ha.kept hk)
  have HB := Lib.hid (hb.kept hk)
  clear ha hb
  unfold treeC at *
  go_enter Tryz.func15, Tryz.ntmps15
  go_upto_region 1 with fail
  generalize (w.alloc (.cells #[.int .i64 cap, .slice (some ⟨a, 0, none⟩) n ca] 32)).alloc (.cells #[.int .i64 cap, .slice (some ⟨b, 0, none⟩) n cb] 32) = w1 at *
  generalize w.heap.size = p at *
  have HK := Lib.hid hk
  have HX := Lib.hid hx
  have HY := Lib.hid hy
  clear hx hy hk
  have c0 := cell_whole HX.out 0
  have c1 := cell_whole HX.out 1
  have d0 := cell_whole HY.out 0
  have d1 := cell_whole HY.out 1
  have xl := lt_whole HX.out
  have yl := lt_whole HY.out
  simp only [List.getElem?_toArray, List.getElem?_cons_zero, List.getElem?_cons_succ] at c0 c1 d0 d1
  go_wp2
  go_loopw [5] (fun v5 wr => ∃ k : Nat, k ≤ n ∧ v5 = .int .i64 k ∧ Kept [] w1 wr) (fun v5 _ => n - (intOf v5).toNat)
  case atStart => exact ⟨0, by omega, rfl, Kept.refl _ _⟩
  case round =>
    obtain ⟨k, hk, rfl, hkr⟩ := hrel
    have HKR := Lib.hid hkr
    clear c0 c1 d0 d1
    have hx := hkr.keep HX.out (by simp)
    have hy := hkr.keep HY.out (by simp)
    have c1 := cell_whole hx 1
    have d1 := cell_whole hy 1
    have xl := lt_whole hx
    have yl := lt_whole hy
    simp only [List.getElem?_toArray, List.getElem?_cons_zero, List.getElem?_cons_succ] at c1 d1
    clear hx hy
    by_cases hlt : k < n
    · have hra := (HA.out.kept hkr) k hlt
      have hrb := (HB.out.kept hkr) k hlt
      have al := hra.1
      have bl := hrb.1
      obtain ⟨x, y, z, hxyz⟩ := thingI_form k
      have HAL := Lib.hid (alike_walk x y z wr.drew)
      have hca : ∀ (j : Nat) (v : Value), (thingC x y z)[j]? = some v → wr.cell? ⟨a, k * 7 + j, none⟩ = some v := fun j v hv => (HA.out.kept hkr).cell hlt j v (by rw [hxyz]; exact hv)
      have hcb : ∀ (j : Nat) (v : Value), (thingC x y z)[j]? = some v → wr.cell? ⟨b, k * 7 + j, none⟩ = some v := fun j v hv => (HB.out.kept hkr).cell hlt j v (by rw [hxyz]; exact hv)
      have a0 : wr.cell? ⟨a, k * 7, none⟩ = some (.int .i64 x) := hca 0 _ rfl
      have a1 := hca 1 _ rfl
      have a2 := hca 2 _ rfl
      have a3 := hca 3 _ rfl
      have a4 := hca 4 _ rfl
      have a5 := hca 5 _ rfl
      have a6 := hca 6 _ rfl
      have b0 : wr.cell? ⟨b, k * 7, none⟩ = some (.int .i64 x) := hcb 0 _ rfl
      have b1 := hcb 1 _ rfl
      have b2 := hcb 2 _ rfl
      have b3 := hcb 3 _ rfl
      have b4 := hcb 4 _ rfl
      have b5 := hcb 5 _ rfl
      have b6 := hcb 6 _ rfl
      clear hca hcb hxyz hra hrb hkr
      unfold thingC at HAL
      go_wp2_with fail
      go_still_tail 10, (by kernel_rfl)
      change wpList _ _ _ _ _ wr.drew
      go_wp2_with fail
      refine HAL.out.mono ?_
      rintro e w2 ⟨rfl, hk2⟩
      have HK2 := Lib.hid (HKR.out.trans ((Kept.refl [] wr).drew.trans hk2 (by simp)) (by simp))
      clear hk2
      go_wp2
      refine ⟨⟨k + 1, by omega, by go_num, HK2.out⟩, ?_⟩
      simp [intOf]; omega
    · obtain rfl : k = n := by omega
      clear hkr
      go_wp2
      go_ret
      exact ⟨rfl, HK.out.trans HKR.out (by simp)⟩
end Go.Proofs.YtikfphojehgpjaaGreatDoor
/- vellumref13: Fresh. -/
namespace Go.Proofs.YtikfphojehgpjaaGreatDoor
open Go.RowKit Vl Go.Maps Go.ChangeMaps
set_option linter.unusedVariables false
/-- Cells of things that are free. -/
def zthings (m : Nat) : Array Value := madeCells (thingC 0 0 0) (m * 7)
theorem zthings_get (m i j : Nat) (hi : i < m) (hj : j < 7) : (zthings m)[i * 7 + j]? = (thingC 0 0 0)[j]? := by
  have hlt : i * 7 + j < m * 7 := by omega
  have h7 : (i * 7 + j) % 7 = j := by omega
  unfold zthings madeCells
  rw [Array.getElem?_map, Array.getElem?_range, if_pos hlt]
  show some ((thingC 0 0 0)[(i * 7 + j) % 7]!) = _
  rw [h7]
  have : j = 0 ∨ j = 1 ∨ j = 2 ∨ j = 3 ∨ j = 4 ∨ j = 5 ∨ j = 6 := by omega
  rcases this with rfl | rfl | rfl | rfl | rfl | rfl | rfl <;> rfl
theorem make_things (w : World) (m : Nat) (hm : m ≤ 100000) : (Instr.makeSlice 30 (.int .i64 m) (.int .i64 m)).run Tryz.prog w = .ok (.slice (some ⟨w.heap.size, 0, none⟩) m m) (w.alloc (.cells (zthings m) 50)) := by
  have hi := info50
  cases hq : Tryz.prog.info? 50 with
  | none => rw [hq] at hi; simp at hi
  | some i =>
    rw [hq] at hi
    simp only [Option.map_some, Option.some.injEq, Prod.mk.injEq] at hi
    obtain ⟨hz, hsz, hby⟩ := hi
    have := run_make (P := Tryz.prog) w 30 50 i _ Tryz.underlying30 hq hz .i64 .i64 m m (by omega) (by omega) (by rw [hby]; omega) (by omega)
    rw [this, hsz, Int.toNat_natCast]
    rfl
theorem kept_setCells (w : World) (b : Nat) : ∀ (vs : List Value) (o : Nat) (w0 : World), Kept [b] w0 w → Kept [b] w0 (w.setCells b o vs)
  | [], _, _, h => h
  | v :: r, o, w0, h => by
    rw [World.setCells]
    exact kept_setCells _ b r (o + 1) w0 (h.setCell ⟨b, o, none⟩ v (.inl (by simp)))
/-- The first thing becomes the root. -/
theorem things_rooted {w : World} {a n : Nat} (h : w.heap[a]? = some (.cells (zthings n) 50 (0, 0))) (hn : 1 ≤ n) : w.there a 0 7 ∧ Things (w.setCells a 0 (thingC 2 2 1).toList) a n := by
  have hl : ∀ i j, i < n → j < 7 → w.cell? ⟨a, i * 7 + j, none⟩ = (thingC 0 0 0)[j]? := fun i j hi hj => (cell_whole h (i * 7 + j)).trans (zthings_get n i j hi hj)
  have ht : w.there a 0 7 := fun j hj => by
    refine ⟨?_, frozen_whole h (0 + j)⟩
    have := hl 0 j (by omega) hj
    rw [Nat.zero_mul] at this
    rw [this]
    have : j = 0 ∨ j = 1 ∨ j = 2 ∨ j = 3 ∨ j = 4 ∨ j = 5 ∨ j = 6 := by omega
    rcases this with rfl | rfl | rfl | rfl | rfl | rfl | rfl <;> rfl
  refine ⟨ht, fun i hi => ⟨Nat.lt_of_lt_of_le (lt_whole h) (kept_setCells w a _ 0 w (Kept.refl _ _)).size, ?_⟩⟩
  by_cases h0 : i = 0
  · subst h0
    exact World.rangeAt_setCells_same w a 0 _ ht
  · refine World.rangeAt_setCells_apart (fun j v hv => ?_) a 0 _ (.inr (.inr (by show 0 + 7 ≤ i * 7; omega)))
    have hj : j < 7 := by
      have := (List.getElem?_eq_some_iff.1 hv).1
      rw [Array.length_toList, thingI_size] at this; exact this
    rw [hl i j hi hj, ← hv, Array.getElem?_toList]
    unfold thingI
    rw [if_neg h0]
theorem freshZ (w : World) : (w.alloc (.cells #[.int .i64 0, .slice none 0 0] 32)).heap[w.heap.size]? = some (.cells #[.int .i64 0, .slice none 0 0] 32 (0, 0)) := heap_alloc_new w _
set_option maxRecDepth 100000 in
set_option maxHeartbeats 4000000 in
theorem fresh_bad (S : Nat) (log nodes : Int) (w : World) (hS : S ≤ 2048) (h2 : IntOk log) (h3 : IntOk nodes) (hg : geoOk S log nodes = false) :
    Calls Tryz.prog 8 #[.int .i64 S, .int .i64 log, .int .i64 nodes] w fun e w' => e = .returned (.tuple #[.agg #[.int .i64 0, .slice none 0 0], .int .i64 22]) ∧ Kept [] w w' := by
  unfold IntOk at h2 h3
  have hz := freshZ w
  have hk := (Kept.refl [] w).alloc (.cells #[.int .i64 0, .slice none 0 0] 32)
  have HSET := Lib.hid (setRow_heap _ w.heap.size _ #[.int .i64 0, .slice none 0 0] 32 (0, 0) hz)
  have HZ := Lib.hid hz
  have HK := Lib.hid hk
  have HK2 := Lib.hid (hk.trans (kept_setRow _ w.heap.size #[.int .i64 0, .slice none 0 0]) (by simp))
  have HONE := Lib.hid (show ((#[.int .i64 0, .slice none 0 0] : Array Value).all (·.oneCell') = true) by simp [Value.oneCell'])
  have hcase : log < 18 ∨ (18 ≤ log ∧ 256 < log) ∨ (18 ≤ log ∧ log ≤ 256 ∧ nodes < 4) ∨ (18 ≤ log ∧ log ≤ 256 ∧ 4 ≤ nodes ∧ 1024 < nodes) ∨ (18 ≤ log ∧ log ≤ 256 ∧ 4 ≤ nodes ∧ nodes ≤ 1024 ∧ nodes % 4 ≠ 0) ∨
      (18 ≤ log ∧ log ≤ 256 ∧ 4 ≤ nodes ∧ nodes ≤ 1024 ∧ nodes % 4 = 0 ∧ (S : Int) < 3 + log + (2 + nodes / 4) + 1) := by
    unfold geoOk at hg
    simp only [Bool.and_eq_false_iff, decide_eq_false_iff_not] at hg
    omega
  have HS := Lib.hid hS
  clear hz hk hg
  rcases hcase with g1 | ⟨g1, g2⟩ | ⟨g1, g2, g3⟩ | ⟨g1, g2, g3, g4⟩ | ⟨g1, g2, g3, g4, g5⟩ | ⟨g1, g2, g3, g4, g5, g6⟩
  case' inl =>
    have t1 : decide (log < 18) = true := decide_eq_true g1
  case' inr.inl =>
    have t1 : decide (log < 18) = false := decide_eq_false (by omega)
    have t2 : decide (256 < log) = true := decide_eq_true g2
  case' inr.inr.inl =>
    have t1 : decide (log < 18) = false := decide_eq_false (by omega)
    have t2 : decide (256 < log) = false := decide_eq_false (by omega)
    have t3 : decide (nodes < 4) = true := decide_eq_true g3
  case' inr.inr.inr.inl =>
    have t1 : decide (log < 18) = false := decide_eq_false (by omega)
    have t2 : decide (256 < log) = false := decide_eq_false (by omega)
    have t3 : decide (nodes < 4) = false := decide_eq_false (by omega)
    have t4 : decide (1024 < nodes) = true := decide_eq_true g4
  case' inr.inr.inr.inr.inl =>
    have t1 : decide (log < 18) = false := decide_eq_false (by omega)
    have t2 : decide (256 < log) = false := decide_eq_false (by omega)
    have t3 : decide (nodes < 4) = false := decide_eq_false (by omega)
    have t4 : decide (1024 < nodes) = false := decide_eq_false (by omega)
    have htm : nodes.tmod 4 = nodes % 4 := Int.tmod_eq_emod_of_nonneg (by omega)
    have t5 : (nodes % 4 != 0) = true := bne_iff_ne.2 g5
  case' inr.inr.inr.inr.inr =>
    have t1 : decide (log < 18) = false := decide_eq_false (by omega)
    have t2 : decide (256 < log) = false := decide_eq_false (by omega)
    have t3 : decide (nodes < 4) = false := decide_eq_false (by omega)
    have t4 : decide (1024 < nodes) = false := decide_eq_false (by omega)
    have htm : nodes.tmod 4 = nodes % 4 := Int.tmod_eq_emod_of_nonneg (by omega)
    have t5 : (nodes % 4 != 0) = false := by simpa using g5
    have t6 : decide (2048 < (S : Int)) = false := decide_eq_false (by have := HS.out; omega)
    have htd : nodes.tdiv 4 = nodes / 4 := Int.tdiv_eq_ediv_of_nonneg (by omega)
    have hq1 : 0 ≤ nodes / 4 := by omega
    have hq2 : nodes / 4 ≤ 256 := by omega
    have t7 : decide ((S : Int) - 3 - log < 2 + nodes / 4 + 1) = true := decide_eq_true (by omega)
    have hs9 : (S : Int) ≤ 2048 := by have := HS.out; omega
    clear g5 g6
  all_goals
    go_enter Tryz.func8, Tryz.ntmps8
    go_wp2_with (refine wpList_store_row rfl 32 _ _ rfl w.heap.size #[.int .i64 0, .slice none 0 0] rfl rfl 32 _ HZ.out size32 rfl HONE.out ?_)
    refine bodyPost_ret (results_row_tmp (P := Tryz.prog) (p := 6) (u := 7) (ty := 32) rfl _ _ w.heap.size 32 #[.int .i64 0, .slice none 0 0] (0, 0) _ rfl HSET.out Tryz.underlying32 rfl size32) rfl ?_
    exact ⟨rfl, HK2.out⟩
set_option maxRecDepth 100000 in
set_option maxHeartbeats 4000000 in
theorem fresh_walk (S L N : Nat) (w : World) (hg : geoOk S L N = true) :
    Calls Tryz.prog 8 #[.int .i64 S, .int .i64 L, .int .i64 N] w fun e w' => ∃ a c, e = .returned (.tuple #[.agg (treeC (((layOf S L N).blocks : Int) - (layOf S L N).data) a N c), .int .i64 0]) ∧ w.heap.size ≤ a ∧ Things w' a N ∧ Kept [] w w' := by
  have hG := Geo.of hg
  obtain ⟨g1, g2, g3, g4, g5, g6, g7⟩ := hG
  have hz := freshZ w
  have hk := (Kept.refl [] w).alloc (.cells #[.int .i64 0, .slice none 0 0] 32)
  have t1 : decide ((L : Int) < 18) = false := decide_eq_false (by omega)
  have t2 : decide (256 < (L : Int)) = false := decide_eq_false (by omega)
  have t3 : decide ((N : Int) < 4) = false := decide_eq_false (by omega)
  have t4 : decide (1024 < (N : Int)) = false := decide_eq_false (by omega)
  have htm : (N : Int).tmod 4 = 0 := by rw [Int.tmod_eq_emod_of_nonneg (by omega)]; omega
  have t6 : decide (2048 < (S : Int)) = false := decide_eq_false (by omega)
  obtain ⟨q, hq⟩ : ∃ q, N / 4 = q := ⟨_, rfl⟩
  have htd : (N : Int).tdiv 4 = (q : Int) := by rw [Int.tdiv_eq_ediv_of_nonneg (by omega)]; omega
  have hq4 : q ≤ 256 := by omega
  have t7 : decide ((S : Int) - 3 - L < 2 + (q : Int) + 1) = false := decide_eq_false (by omega)
  have hcap : (((layOf S L N).blocks : Int) - (layOf S L N).data) = (S : Int) - 3 - L - (2 + (q : Int)) := by
    show ((S - (3 + L) : Nat) : Int) - ((2 + N / 4 : Nat) : Int) = _
    rw [hq]; omega
  rw [hcap]
  have hn1 : 1 ≤ N := by omega
  have hN4 : N ≤ 1024 := g4
  have hL4 : L ≤ 256 := g2
  have hS4 : S ≤ 2048 := g6
  clear hcap hg g1 g2 g3 g4 g5 g6 g7 hq
  unfold treeC
  go_enter Tryz.func8, Tryz.ntmps8
  go_upto_region 7 with fail
  generalize w.alloc (.cells #[.int .i64 0, .slice none 0 0] 32) = w1 at *
  generalize hwb : w.heap.size = b at *
  have hbl := lt_whole hz
  generalize hcap : (S : Int) - 3 - L - (2 + (q : Int)) = cap at *
  have hmt := make_things w1 N (by omega)
  have hA := alloc_whole (heap_alloc_new w1 (.cells (zthings N) 50)) (o' := .cells #[.int .i64 0, .slice none 0 0] 32)
  have hnew := heap_alloc_new (w1.alloc (.cells (zthings N) 50)) (.cells #[.int .i64 0, .slice none 0 0] 32)
  rw [size_alloc] at hnew
  have hrow := setRow_heap _ (w1.heap.size + 1) _ #[.int .i64 cap, .slice (some ⟨w1.heap.size, 0, none⟩) N N] 32 (0, 0) hnew
  have hks := kept_setRow ((w1.alloc (.cells (zthings N) 50)).alloc (.cells #[.int .i64 0, .slice none 0 0] 32)) (w1.heap.size + 1) #[.int .i64 cap, .slice (some ⟨w1.heap.size, 0, none⟩) N N]
  have hA2 := hks.keep hA (by simp)
  have hk13 := (((Kept.refl [] w1).alloc (.cells (zthings N) 50)).alloc (.cells #[.int .i64 0, .slice none 0 0] 32)).trans hks (by simp)
  have HNEW := Lib.hid hnew
  have HONE := Lib.hid (show ((#[.int .i64 cap, .slice (some ⟨w1.heap.size, 0, none⟩) N N] : Array Value).all (·.oneCell') = true) by simp [Value.oneCell'])
  have HA := Lib.hid hA2
  have HROW := Lib.hid hrow
  have HK := Lib.hid hk
  have HK13 := Lib.hid hk13
  have HZ := Lib.hid hz
  have HWB := Lib.hid hwb
  have hmt2 : (Instr.makeSlice 30 (.int .i64 N) (.int .i64 N)).run Tryz.prog w1.drew = .ok (.slice (some ⟨w1.heap.size, 0, none⟩) N N) (w1.drew.alloc (.cells (zthings N) 50)) := make_things w1.drew N (by omega)
  clear hA hnew hrow hks hA2 hk13 hk hz hwb
  go_upto_region 8 with (refine wpList_store_row rfl 32 _ _ rfl (w1.heap.size + 1) #[.int .i64 cap, .slice (some ⟨w1.heap.size, 0, none⟩) N N] rfl rfl 32 _ HNEW.out size32 rfl HONE.out ?_)
  generalize hta : w1.heap.size = ta at *
  generalize ((w1.alloc (.cells (zthings N) 50)).alloc (.cells #[.int .i64 0, .slice none 0 0] 32)).setRow (ta + 1) #[.int .i64 cap, .slice (some ⟨ta, 0, none⟩) N N] = w3 at *
  have c1 := cell_whole HROW.out 1
  have rl := lt_whole HROW.out
  have al := lt_whole HA.out
  simp only [List.getElem?_toArray, List.getElem?_cons_zero, List.getElem?_cons_succ] at c1
  obtain ⟨hth, hT⟩ := things_rooted HA.out hn1
  have hks := kept_setCells w3 ta (thingC 2 2 1).toList 0 w3 (Kept.refl _ _)
  have hrow4 := hks.keep HROW.out (by simp)
  have hz4 := hks.keep (HK13.out.keep HZ.out (by simp)) (by simp; omega)
  have HTH := Lib.hid hth
  have HBT := Lib.hid (show b ≤ ta by omega)
  have HTR := Lib.hid (show ((thingC 2 2 1).all (·.oneCell') = true) by simp [thingC, Value.oneCell'])
  have hk4 := ((HK.out.trans HK13.out (by simp)).trans hks (by simp; rw [← hta] at hbl ⊢; have := HK.out.size; omega))
  have HK4 := Lib.hid hk4
  have HT4 := Lib.hid hT
  have HROW4 := Lib.hid hrow4
  have HZ4 := Lib.hid hz4
  have HTC : Hid (#[Value.int .i64 2, .int .i64 2, .int .i64 1, .int .i64 0, .slice none 0 0, .slice none 0 0, .int .i64 0] = thingC 2 2 1) := Lib.hid rfl
  clear hth hT hks hrow4 hz4 hk4 hta
  go_upto_region 9 with (refine wpList_store_mid rfl 50 _ _ rfl ta 0 (thingC 2 2 1) rfl rfl HTH.out size50 HTR.out ?_)
  generalize w3.setCells ta 0 (thingC 2 2 1).toList = w4 at *
  have hks := kept_setRow w4 b #[.int .i64 cap, .slice (some ⟨ta, 0, none⟩) N N]
  have HRR := Lib.hid (setRow_heap _ b _ #[.int .i64 cap, .slice (some ⟨ta, 0, none⟩) N N] 32 (0, 0) HZ4.out)
  have HT5 := Lib.hid (HT4.out.keep2 hks (by simp; omega))
  have HK5 := Lib.hid (HK4.out.trans hks (by simp; have := HWB.out; omega))
  clear hks c1
  go_wp2_with (first | (refine wpList_load_row rfl 32 _ rfl (ta + 1) rfl 32 _ (0, 0) _ HROW4.out Tryz.underlying32 rfl size32 ?_) | (refine wpList_store_row rfl 32 _ _ rfl b #[.int .i64 cap, .slice (some ⟨ta, 0, none⟩) N N] rfl rfl 32 _ HZ4.out size32 rfl HONE.out ?_))
  refine bodyPost_ret (results_row_tmp (P := Tryz.prog) (p := 6) (u := 7) (ty := 32) rfl _ _ b 32 #[.int .i64 cap, .slice (some ⟨ta, 0, none⟩) N N] (0, 0) _ rfl HRR.out Tryz.underlying32 rfl size32) rfl ?_
  exact ⟨ta, N, by rw [hcap]; rfl, by rw [HWB.out]; exact HBT.out, HT5.out, HK5.out⟩
end Go.Proofs.YtikfphojehgpjaaGreatDoor
