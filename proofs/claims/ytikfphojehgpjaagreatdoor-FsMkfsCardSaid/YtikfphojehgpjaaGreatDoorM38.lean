/- vellumref13: maps. -/
import Derived.Test.YtikfphojehgpjaaGreatDoorM36
import Derived.Test.YtikfphojehgpjaaGreatDoorM37
import Derived.Test.YtikfphojehgpjaaGreatDoorM32
set_option linter.unusedSimpArgs false
set_option linter.unusedVariables false
namespace Go.Proofs.YtikfphojehgpjaaGreatDoor
open Go.RowKit Vl Go.Maps Go.ChangeMaps
set_option linter.unusedVariables false
/-- Marks that are all false. -/
def Marks (w : World) (a n : Nat) : Prop := ∀ i, i < n → a < w.heap.size ∧ w.cell? ⟨a, i, none⟩ = some (.bool false)
theorem Marks.kept {w w' : World} {a n : Nat} (h : Marks w a n) (hk : Kept [] w w') : Marks w' a n := fun i hi => ⟨Nat.lt_of_lt_of_le (h i hi).1 hk.size, (cell_kept hk (h i hi).1 (by simp)).trans (h i hi).2⟩
def takenC (Y : Lay) (ma mc : Nat) : Array Value := #[.int .i64 Y.log, .int .i64 Y.home, .int .i64 Y.blocks, .int .i64 Y.nodes, .int .i64 Y.data, .slice (some ⟨ma, 0, none⟩) Y.blocks mc]
set_option maxRecDepth 100000 in
set_option maxHeartbeats 4000000 in
theorem maps_walk (Y : Lay) (t ma mc ba nb cb a n c : Nat) (cap : Int) (f : Nat → List UInt8) (w : World) (htk : w.heap[t]? = some (.cells (takenC Y ma mc) 152 (0, 0))) (hm : Marks w ma Y.blocks) (hh : RHome w ba nb f) (h2 : 2 ≤ nb) (hth : Things w a n) (hn : 1 ≤ n ∧ n ≤ 1024)
    (hd1 : 0 < Y.data) (hY : Y.data ≤ 4000 ∧ Y.blocks ≤ 4000) (f0 : ∀ i, i < 4096 → bitOf (f 0) i = decide (i < Y.data)) (f1 : ∀ i, i < 4096 → bitOf (f 1) i = decide (i = 0)) :
    Calls Tryz.prog 76 #[.pointer (some ⟨t, 0, none⟩), .agg (homeC Y ba nb cb), .agg (treeC cap a n c)] w fun e w' => e = .returned (.bool true) ∧ Kept [] w w' := by
  have hka := ((Kept.refl [] w).alloc (.cells (homeC Y ba nb cb) 97)).alloc (.cells (treeC cap a n c) 32)
  have hho := alloc_whole (heap_alloc_new w (.cells (homeC Y ba nb cb) 97)) (o' := .cells (treeC cap a n c) 32)
  have htr := heap_alloc_new (w.alloc (.cells (homeC Y ba nb cb) 97)) (.cells (treeC cap a n c) 32)
  rw [size_alloc] at htr
  have HTK := Lib.hid (hka.keep htk (by simp))
  have HM := Lib.hid (hm.kept hka)
  have HH := Lib.hid (hh.kept hka)
  have HTH := Lib.hid (hth.kept hka)
  have HF0 := Lib.hid f0
  have HF1 := Lib.hid f1
  unfold homeC treeC at *
  clear htk hm hh hth f0 f1
  go_enter Tryz.func76, Tryz.ntmps76
  go_upto_region 1 with fail
  generalize (w.alloc (.cells #[.int .i64 Y.log, .int .i64 Y.home, .int .i64 Y.blocks, .int .i64 Y.nodes, .int .i64 Y.data, .slice (some ⟨ba, 0, none⟩) nb cb] 97)).alloc (.cells #[.int .i64 cap, .slice (some ⟨a, 0, none⟩) n c] 32) = w1 at *
  generalize w.heap.size = b at *
  have HK := Lib.hid hka
  obtain ⟨hf0, g0, o0, k0, q0, hk0, hb0, hy0⟩ := HH.out 0 (by omega)
  obtain ⟨hf1, g1, o1, k1, q1, hk1, hb1, hy1⟩ := HH.out 1 (by omega)
  have HBA := Lib.hid hy0
  have HBB := Lib.hid hy1
  have p5 := cell_whole hho 5
  have pl := lt_whole hho
  have r1 := cell_whole htr 1
  have rl := lt_whole htr
  have s4 : w1.cell? ⟨t, 4, none⟩ = some (.int .i64 Y.data) := cell_whole HTK.out 4
  have s5 : w1.cell? ⟨t, 5, none⟩ = some (.slice (some ⟨ma, 0, none⟩) Y.blocks mc) := cell_whole HTK.out 5
  have sl := lt_whole HTK.out
  simp only [List.getElem?_toArray, List.getElem?_cons_zero, List.getElem?_cons_succ] at p5 r1
  have HL0 := Lib.hid hf0
  have HL1 := Lib.hid hf1
  clear hka hho htr hy0 hy1 hf0 hf1
  go_wp2
  go_loopw [7, 8, 9] (fun v7 _ _ wr => ∃ i : Nat, i ≤ 4096 ∧ v7 = .int .i64 i ∧ wr = w1) (fun v7 _ _ _ => 4096 - (intOf v7).toNat)
  case atStart => exact ⟨0, by omega, rfl, rfl⟩
  case round =>
    obtain ⟨i, hi, rfl, rfl⟩ := hrel
    by_cases hlt : i < 4096
    · have b0 := bit_walk (f 0) g0 o0 k0 i wr HBA.out HL0.out hlt
      have b1 := bit_walk (f 1) g1 o1 k1 i wr HBB.out HL1.out hlt
      rw [HF0.out i hlt] at b0
      rw [HF1.out i hlt] at b1
      have HB0 := Lib.hid b0
      have HB1 := Lib.hid b1
      clear b0 b1
      by_cases hz : i = 0
      · subst hz
        have kc : wr.cell? ⟨a, 0, none⟩ = some (.int .i64 2) := HTH.out.cell (i := 0) (by omega) 0 (.int .i64 2) rfl
        have al := (HTH.out 0 (by omega)).1
        have hA : 0 < Y.data := hd1
        rw [decide_eq_true hA] at HB0
        rw [decide_eq_true rfl] at HB1
        go_wp2_with fail
        refine HB0.out.mono ?_
        rintro e u1 ⟨rfl, hu1⟩
        subst hu1
        go_wp2_with fail
        refine HB1.out.mono ?_
        rintro e u2 ⟨rfl, hu2⟩
        subst hu2
        go_wp2
        go_roundw
        case rel => exact ⟨1, by omega, by go_num, trivial⟩
        case measure => simp [intOf]
      · rw [decide_eq_false hz] at HB1
        by_cases hA : i < Y.data
        · rw [decide_eq_true hA] at HB0
          by_cases hn2 : i < n
          · have kc : wr.cell? ⟨a, i * 7, none⟩ = some (.int .i64 0) := by
              have := HTH.out.cell hn2 0 (.int .i64 0) (by unfold thingI; rw [if_neg hz]; rfl)
              rw [Nat.add_zero] at this; exact this
            have al := (HTH.out i hn2).1
            go_wp2_with fail
            refine HB0.out.mono ?_
            rintro e u1 ⟨rfl, hu1⟩
            subst hu1
            go_wp2_with fail
            refine HB1.out.mono ?_
            rintro e u2 ⟨rfl, hu2⟩
            subst hu2
            go_wp2
            go_roundw
            case rel => exact ⟨i + 1, by omega, by go_num, trivial⟩
            case measure => simp [intOf]; omega
          · go_wp2_with fail
            refine HB0.out.mono ?_
            rintro e u1 ⟨rfl, hu1⟩
            subst hu1
            go_wp2_with fail
            refine HB1.out.mono ?_
            rintro e u2 ⟨rfl, hu2⟩
            subst hu2
            go_wp2
            go_roundw
            case rel => exact ⟨i + 1, by omega, by go_num, trivial⟩
            case measure => simp [intOf]; omega
        · rw [decide_eq_false hA] at HB0
          by_cases hM : i < Y.blocks
          · have mk := (HM.out i hM).2
            have mal := (HM.out i hM).1
            by_cases hn2 : i < n
            · have kc : wr.cell? ⟨a, i * 7, none⟩ = some (.int .i64 0) := by
                have := HTH.out.cell hn2 0 (.int .i64 0) (by unfold thingI; rw [if_neg hz]; rfl)
                rw [Nat.add_zero] at this; exact this
              have al := (HTH.out i hn2).1
              go_wp2_with fail
              refine HB0.out.mono ?_
              rintro e u1 ⟨rfl, hu1⟩
              subst hu1
              go_wp2_with fail
              refine HB1.out.mono ?_
              rintro e u2 ⟨rfl, hu2⟩
              subst hu2
              go_wp2
              go_roundw
              case rel => exact ⟨i + 1, by omega, by go_num, trivial⟩
              case measure => simp [intOf]; omega
            · go_wp2_with fail
              refine HB0.out.mono ?_
              rintro e u1 ⟨rfl, hu1⟩
              subst hu1
              go_wp2_with fail
              refine HB1.out.mono ?_
              rintro e u2 ⟨rfl, hu2⟩
              subst hu2
              go_wp2
              go_roundw
              case rel => exact ⟨i + 1, by omega, by go_num, trivial⟩
              case measure => simp [intOf]; omega
          · by_cases hn2 : i < n
            · have kc : wr.cell? ⟨a, i * 7, none⟩ = some (.int .i64 0) := by
                have := HTH.out.cell hn2 0 (.int .i64 0) (by unfold thingI; rw [if_neg hz]; rfl)
                rw [Nat.add_zero] at this; exact this
              have al := (HTH.out i hn2).1
              go_wp2_with fail
              refine HB0.out.mono ?_
              rintro e u1 ⟨rfl, hu1⟩
              subst hu1
              go_wp2_with fail
              refine HB1.out.mono ?_
              rintro e u2 ⟨rfl, hu2⟩
              subst hu2
              go_wp2
              go_roundw
              case rel => exact ⟨i + 1, by omega, by go_num, trivial⟩
              case measure => simp [intOf]; omega
            · go_wp2_with fail
              refine HB0.out.mono ?_
              rintro e u1 ⟨rfl, hu1⟩
              subst hu1
              go_wp2_with fail
              refine HB1.out.mono ?_
              rintro e u2 ⟨rfl, hu2⟩
              subst hu2
              go_wp2
              go_roundw
              case rel => exact ⟨i + 1, by omega, by go_num, trivial⟩
              case measure => simp [intOf]; omega
    · obtain rfl : i = 4096 := by omega
      go_wp2
      go_ret
      exact ⟨rfl, HK.out⟩
end Go.Proofs.YtikfphojehgpjaaGreatDoor
/- vellumref13: Grown: the list of things that it makes. -/
namespace Go.Proofs.YtikfphojehgpjaaGreatDoor
open Go.RowKit Vl Go.Maps Go.ChangeMaps
set_option linter.unusedVariables false
def thingsL : Nat → List Value
  | 0 => []
  | k + 1 => thingsL k ++ (thingI k).toList
theorem thingsL_length (k : Nat) : (thingsL k).length = k * 7 := by
  induction k with
  | zero => rfl
  | succ k ih => rw [thingsL, List.length_append, ih, Array.length_toList, thingI_size]; omega
theorem thingsL_get (n i j : Nat) (hi : i < n) (hj : j < 7) : (thingsL n)[i * 7 + j]? = (thingI i).toList[j]? := by
  induction n with
  | zero => omega
  | succ n ih =>
    rw [thingsL]
    by_cases h : i = n
    · subst h
      rw [List.getElem?_append_right (by rw [thingsL_length]; omega), thingsL_length, Nat.add_sub_cancel_left]
    · rw [List.getElem?_append_left (by rw [thingsL_length]; omega)]
      exact ih (by omega)
theorem things_own {w : World} {B g n c : Nat} (h : w.ownsRow B 50 7 (.slice (some ⟨g, 0, none⟩) n c) n (thingsL n)) : Things w g n := fun i hi => by
  refine ⟨?_, fun j v hv => ?_⟩
  · rcases h.2 with ⟨h', _⟩ | ⟨g', cap', cur, h', _, hg, _⟩
    · simp at h'
    · simp only [Value.slice.injEq, Option.some.injEq, Addr.mk.injEq, and_true, true_and] at h'
      obtain ⟨rfl, rfl⟩ := h'
      exact lt_whole hg
  · have hj : j < 7 := by
      have := (List.getElem?_eq_some_iff.1 hv).1
      rw [Array.length_toList, thingI_size] at this; exact this
    rw [h.cellAt (i * 7 + j) (by omega), thingsL_get n i j hi hj]; exact hv
theorem row_keep {w w' : World} {B e s n : Nat} {v : Value} {xs : List Value} (h : w.ownsRow B e s v n xs) (hb : ∀ k, v.ownBlock = some k → w'.heap[k]? = w.heap[k]?) : w'.ownsRow B e s v n xs := by
  refine ⟨h.1, ?_⟩
  rcases h.2 with ⟨h1, h2⟩ | ⟨g, cap, cur, rfl, h3, h4, h5⟩
  · exact .inl ⟨h1, h2⟩
  · exact .inr ⟨g, cap, cur, rfl, h3, (hb g rfl).trans h4, h5⟩
theorem row_blk {w : World} {B e s n k : Nat} {v : Value} {xs : List Value} (h : w.ownsRow B e s v n xs) (hk : v.ownBlock = some k) : B ≤ k ∧ k < w.heap.size := by
  rcases h.2 with ⟨rfl, h0⟩ | ⟨g, cap, cur, rfl, hb, hg, _⟩
  · simp [Value.ownBlock] at hk
  · simp only [Value.ownBlock, Option.some.injEq] at hk
    subst hk
    exact ⟨hb, lt_whole hg⟩
theorem row_form {w : World} {B e s n : Nat} {v : Value} {xs : List Value} (h : w.ownsRow B e s v n xs) : ∃ a c, v = .slice a n c := by
  rcases h.2 with ⟨rfl, h0⟩ | ⟨g, cap, cur, rfl, _⟩
  · exact ⟨none, 0, by rw [h0]⟩
  · exact ⟨_, cap, rfl⟩
theorem row_kept {w w' : World} {F : List Nat} {B e s n : Nat} {v : Value} {xs : List Value} (h : w.ownsRow B e s v n xs) (hk : Kept F w w') (hF : ∀ x ∈ F, x < B) : w'.ownsRow B e s v n xs :=
  row_keep h fun k hk' => by
    obtain ⟨h1, h2⟩ := row_blk h hk'
    exact hk.block k h2 (fun hm => by have := hF k hm; omega)
theorem thingI_form (q : Nat) : ∃ a b c : Int, thingI q = thingC a b c := by
  unfold thingI
  split
  · exact ⟨2, 2, 1, rfl⟩
  · exact ⟨0, 0, 0, rfl⟩
theorem thing_cells (a b c : Int) : ∀ u ∈ (thingC a b c).toList, u.oneCell' = true := by
  intro u hu
  simp only [thingC, List.mem_cons, List.not_mem_nil, or_false] at hu
  rcases hu with rfl | rfl | rfl | rfl | rfl | rfl | rfl <;> rfl
theorem info50 : (Tryz.prog.info? 50).map (fun i => (i.zero, i.size, i.bytes)) = some (some (.agg #[.int .i64 0, .int .i64 0, .int .i64 0, .int .i64 0, .slice none 0 0, .slice none 0 0, .int .i64 0]), 7, 88) := by kernel_rfl
theorem info4 : (Tryz.prog.info? 4).map (fun i => (i.zero, i.size, i.bytes)) = some (some (.bool false), 1, 1) := by kernel_rfl
theorem size152 : (Tryz.prog.info? 152).map (·.size) = some 6 := by kernel_rfl
theorem make_marks (w : World) (m : Nat) (hm : m ≤ 100000) : (Instr.makeSlice 150 (.int .i64 m) (.int .i64 m)).run Tryz.prog w = .ok (.slice (some ⟨w.heap.size, 0, none⟩) m m) (w.alloc (.cells (List.replicate m (Value.bool false)).toArray 4)) := by
  have hi := info4
  cases hq : Tryz.prog.info? 4 with
  | none => rw [hq] at hi; simp at hi
  | some i =>
    rw [hq] at hi
    simp only [Option.map_some, Option.some.injEq, Prod.mk.injEq] at hi
    obtain ⟨hz, hsz, hby⟩ := hi
    have := run_make (P := Tryz.prog) w 150 4 i (.bool false) Tryz.underlying150 hq hz .i64 .i64 m m (by omega) (by omega) (by rw [hby]; omega) (by omega)
    rw [this, hsz]
    have e1 : madeCells (Value.cells (.bool false)) ((m : Int).toNat * 1) = (List.replicate m (Value.bool false)).toArray := by
      rw [Int.toNat_natCast, Nat.mul_one]
      apply Array.ext
      · simp [size_madeCells]
      · intro j h1 h2
        simp [madeCells, Value.cells, Nat.mod_one]
    rw [e1, Int.toNat_natCast]
theorem marks_row {w : World} {ma m : Nat} {Z : Array Value} (hz : Z = (List.replicate m (Value.bool false)).toArray) (h : w.heap[ma]? = some (.cells Z 4 (0, 0))) : Marks w ma m := fun i hi =>
  ⟨lt_whole h, by rw [cell_whole h i, hz]; simp [hi]⟩
theorem Marks.kept2 {w w' : World} {F : List Nat} {a n : Nat} (h : Marks w a n) (hk : Kept F w w') (hF : a ∉ F) : Marks w' a n := fun i hi => ⟨Nat.lt_of_lt_of_le (h i hi).1 hk.size, (cell_kept hk (h i hi).1 hF).trans (h i hi).2⟩
theorem row_some {w : World} {B e s n : Nat} {v : Value} {xs : List Value} (h : w.ownsRow B e s v n xs) (hn : 0 < n) : ∃ g c, v = .slice (some ⟨g, 0, none⟩) n c ∧ B ≤ g ∧ g < w.heap.size := by
  rcases h.2 with ⟨_, h0⟩ | ⟨g, cap, cur, hv, hb, hg, _⟩
  · omega
  · exact ⟨g, cap, hv, hb, lt_whole hg⟩
theorem Things.keep2 {w w' : World} {F : List Nat} {a n : Nat} (h : Things w a n) (hk : Kept F w w') (hF : a ∉ F) : Things w' a n := fun i hi => by
  obtain ⟨h1, h2⟩ := h i hi
  exact ⟨Nat.lt_of_lt_of_le h1 hk.size, fun j v hv => (cell_kept hk h1 hF).trans (h2 j v hv)⟩
end Go.Proofs.YtikfphojehgpjaaGreatDoor
/- vellumref13: Recover: what it reads. -/
namespace Go.Proofs.YtikfphojehgpjaaGreatDoor
open Go.RowKit Vl Go.Maps Go.ChangeMaps
set_option linter.unusedVariables false
theorem refplan_nat (S L N : Nat) (w : World) (h : geoOk S L N = true) :
    Calls Tryz.prog 71 #[.agg #[.int .i64 S, .int .i64 L, .int .i64 N]] w fun e w' => e = .returned (.tuple #[.agg (layOf S L N).vals, .int .i64 0]) ∧ Kept [] w w' := by
  have g := Geo.of h
  obtain ⟨g1, g2, g3, g4, g5, g6, g7⟩ := g
  refine (refPlan_walk S L N w (by unfold IntOk; omega) (by unfold IntOk; omega) (by unfold IntOk; omega)).mono ?_
  rintro e w' ⟨rfl, hk⟩
  refine ⟨?_, hk⟩
  unfold layCells
  rw [h]
  simp only [if_true]
  have e1 : ((S : Int) - (3 + (L : Int))) = ((S - (3 + L) : Nat) : Int) := by omega
  have e2 : (3 + (L : Int)) = ((3 + L : Nat) : Int) := by omega
  have e3 : (2 + (N : Int) / 4) = ((2 + N / 4 : Nat) : Int) := by omega
  rw [e1, e2, e3]
  rfl
theorem size53 : (Tryz.prog.info? 53).map (·.size) = some 3 := by kernel_rfl
/-- The image that Recover reads. -/
structure ImOk (l : List UInt8) (S L N : Nat) : Prop where
  geo : geoOk S L N = true
  len : l.length = 512 * S
  sup : chunk l 0 = superB S L N
  q1 : leV (cutB (superB S L N) 8 4) = S
  q2 : leV (cutB (superB S L N) 12 4) = L
  q3 : leV (cutB (superB S L N) 16 4) = N
  ring : RingOk (chunk l) L
  seven : chunk l 7 = zsec
  left : Anch (chunk l 1) 8589934596
  right : Anch (chunk l 2) 8589934592
/-- The slices of the home area. -/
def hslices (ga oa c h n : Nat) : List Value := (List.range n).map fun b => .slice (some ⟨ga, oa + 512 * (h + b), none⟩) 512 (c - 512 * (h + b))
theorem hslices_succ (ga oa c h n : Nat) : hslices ga oa c h (n + 1) = hslices ga oa c h n ++ [.slice (some ⟨ga, oa + 512 * (h + n), none⟩) 512 (c - 512 * (h + n))] := by
  unfold hslices
  rw [List.range_succ, List.map_append]; rfl
theorem home_of {w : World} {B ga oa c h n S g cb : Nat} {l : List UInt8} (ho : w.ownsRow B 22 1 (.slice (some ⟨g, 0, none⟩) n cb) n (hslices ga oa c h n)) (hb : BytesAt w (some ⟨ga, oa, none⟩) l) (hl : l.length = 512 * S) (hS : h + n ≤ S) (hc : 512 * S ≤ c) :
    RHome w g n (fun b => chunk l (h + b)) := fun b hbn => by
  refine ⟨chunk_length hl (by omega), ga, oa + 512 * (h + b), c - 512 * (h + b), ?_, by omega, ?_, hb.sub _ _⟩
  · rw [ho.cellAt b (by omega)]
    unfold hslices
    simp [hbn]
  · rcases ho.2 with ⟨h', _⟩ | ⟨g', cap', cur, h', _, hg, _⟩
    · simp at h'
    · simp only [Value.slice.injEq, Option.some.injEq, Addr.mk.injEq, and_true, true_and] at h'
      obtain ⟨rfl, rfl⟩ := h'
      exact lt_whole hg
end Go.Proofs.YtikfphojehgpjaaGreatDoor
