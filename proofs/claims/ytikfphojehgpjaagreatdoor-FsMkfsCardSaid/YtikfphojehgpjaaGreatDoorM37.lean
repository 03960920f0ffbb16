/- vellumref13: entries of the empty tree. -/
import Derived.Test.YtikfphojehgpjaaGreatDoorM36
import Derived.Deep.RegionHeld3
set_option linter.unusedSimpArgs false
set_option linter.unusedVariables false
namespace Go.Proofs.YtikfphojehgpjaaGreatDoor
open Go.RowKit Vl Go.Maps Go.ChangeMaps
set_option linter.unusedVariables false
set_option linter.unusedSimpArgs false
def REntPost (n : Nat) (w : World) (e : Ending) (w' : World) : Prop := ∃ ca fa da, e = .returned (.tuple #[.agg (namesC ca fa da (n + 1)), .bool true]) ∧ Zeros w' ca (n + 1) ∧ Zeros w' da (n + 1) ∧ Kept [] w w'
theorem make_ints (w : World) (m : Nat) (hm : m ≤ 100000) : (Instr.makeSlice 156 (.int .i64 m) (.int .i64 m)).run Tryz.prog w = .ok (.slice (some ⟨w.heap.size, 0, none⟩) m m) (w.alloc (.cells (List.replicate m (Value.int .i64 0)).toArray 3)) := by
  have hi := info3
  cases hq : Tryz.prog.info? 3 with
  | none => rw [hq] at hi; simp at hi
  | some i =>
    rw [hq] at hi
    simp only [Option.map_some, Option.some.injEq, Prod.mk.injEq] at hi
    obtain ⟨hz, hsz, hby⟩ := hi
    have := run_make (P := Tryz.prog) w 156 3 i (.int .i64 0) Tryz.underlying156 hq hz .i64 .i64 m m (by omega) (by omega) (by rw [hby]; omega) (by omega)
    rw [this, hsz]
    have e1 : madeCells (Value.cells (.int .i64 0)) ((m : Int).toNat * 1) = (List.replicate m (Value.int .i64 0)).toArray := by
      rw [Int.toNat_natCast, Nat.mul_one]
      apply Array.ext
      · simp [size_madeCells]
      · intro j h1 h2
        simp [madeCells, Value.cells, Nat.mod_one]
    rw [e1, Int.toNat_natCast]
theorem size158 : (Tryz.prog.info? 158).map (·.size) = some 3 := by kernel_rfl
theorem field_slots (q : Nat) (w : World) : (Instr.field 50 (.agg (thingI q)) 5).run Tryz.prog w = .ok (.slice none 0 0) w := by
  unfold thingI
  split
  · exact (show (Instr.field 50 (.agg (thingC 2 2 1)) 5).run Tryz.prog w = .ok (.slice none 0 0) w by kernel_rfl)
  · exact (show (Instr.field 50 (.agg (thingC 0 0 0)) 5).run Tryz.prog w = .ok (.slice none 0 0) w by kernel_rfl)
theorem zeros_set {w : World} {ca m b : Nat} (h : Zeros w ca m) (hb : ca ≠ b) (ds : Array Value) : Zeros (w.setRow b ds) ca m := fun i hi =>
  ⟨Nat.lt_of_lt_of_le (h i hi).1 (kept_setRow w b ds).size, (cell_kept (kept_setRow w b ds) (h i hi).1 (by simp; exact hb)).trans (h i hi).2⟩
theorem zeros_row {w : World} {ca m : Nat} {Z : Array Value} (hz : Z = (List.replicate m (Value.int .i64 0)).toArray) (h : w.heap[ca]? = some (.cells Z 3 (0, 0))) : Zeros w ca m := fun i hi =>
  ⟨lt_whole h, by rw [cell_whole h i, hz]; simp [hi]⟩
theorem alloc_get (w : World) (o : Obj) (k : Nat) : (w.alloc o).heap[k]? = if k = w.heap.size then some o else w.heap[k]? := by
  show (w.heap.push o)[k]? = _
  rw [Array.getElem?_push]
theorem drew_heap (w : World) : w.drew.heap = w.heap := rfl
theorem set_size (w : World) (p : Addr) (v : Value) : (w.setCell p v).heap.size = w.heap.size := by simp [World.setCell]
theorem alloc_hit {w : World} {o : Obj} {k : Nat} (hk : k = w.heap.size) : (w.alloc o).heap[k]? = some o := by
  rw [alloc_get, if_pos hk]
theorem set_other (w : World) (p : Addr) (v : Value) {k : Nat} (hk : k ≠ p.block) : (w.setCell p v).heap[k]? = w.heap[k]? :=
  Below.heap_setCell _ _ _ _ hk
theorem set_three (w : World) (b : Nat) (x y z : Value) (h : w.heap[b]? = some (.cells #[.slice none 0 0, .slice none 0 0, .slice none 0 0] 158 (0, 0))) :
    (((w.setCell ⟨b, 0, none⟩ x).setCell ⟨b, 1, none⟩ y).setCell ⟨b, 2, none⟩ z).heap[b]? = some (.cells #[x, y, z] 158 (0, 0)) :=
  (set_whole (i := 2) (set_whole (i := 1) (set_whole (i := 0) h _) _) _).trans rfl
set_option maxRecDepth 100000 in
set_option maxHeartbeats 4000000 in
theorem entries_walk (cap : Int) (a n c : Nat) (w : World) (h : Things w a n) (h1 : 1 ≤ n) (hn : n ≤ 1024) :
    Calls Tryz.prog 77 #[.agg (treeC cap a n c)] w (REntPost n w) := by
  have hka := ((Kept.refl [] w).alloc (.cells (treeC cap a n c) 32)).alloc (.cells #[.slice none 0 0, .slice none 0 0, .slice none 0 0] 158)
  have ht := alloc_whole (heap_alloc_new w (.cells (treeC cap a n c) 32)) (o' := .cells #[.slice none 0 0, .slice none 0 0, .slice none 0 0] 158)
  have hz := heap_alloc_new (w.alloc (.cells (treeC cap a n c) 32)) (.cells #[.slice none 0 0, .slice none 0 0, .slice none 0 0] 158)
  rw [size_alloc] at hz
  have HTH := Lib.hid (h.kept hka)
  unfold treeC at *
  clear h
  go_enter Tryz.func77, Tryz.ntmps77
  go_upto_region 2 with fail
  generalize (w.alloc (.cells #[.int .i64 cap, .slice (some ⟨a, 0, none⟩) n c] 32)).alloc (.cells #[.slice none 0 0, .slice none 0 0, .slice none 0 0] 158) = w1 at *
  generalize hwb : w.heap.size = b at *
  have hsm : w.heap.size = b := hwb
  clear hwb
  have hms : ∀ w' : World, (Instr.makeSlice 156 (.int .i64 ((n : Int) + 1)) (.int .i64 ((n : Int) + 1))).run Tryz.prog w' = .ok (.slice (some ⟨w'.heap.size, 0, none⟩) (n + 1) (n + 1)) (w'.alloc (.cells (List.replicate (n + 1) (Value.int .i64 0)).toArray 3)) := fun w' => make_ints w' (n + 1) (by omega)
  generalize hzz : (List.replicate (n + 1) (Value.int .i64 0)).toArray = Z at *
  have HZZ := Lib.hid hzz
  have hbl := lt_whole hz
  clear hzz
  have HT := Lib.hid ht
  have HZ := Lib.hid hz
  have HKA := Lib.hid hka
  have HSM := Lib.hid hsm
  clear ht hz hka hsm
  rename_i K hK
  have HCONT : ∀ (ca fa da nb : Nat) (W : World), ca ≠ b + 1 → da ≠ b + 1 → Zeros W ca (n + 1) → Zeros W da (n + 1) → W.heap[nb]? = some (.cells (namesC ca fa da (n + 1)) 158 (0, 0)) → Kept [] w1 W →
      Exit.then K (bodyPost Tryz.prog Tryz.f77 (REntPost n w)) Exit.normal { tmps := #[.agg #[.int .i64 cap, .slice (some ⟨a, 0, none⟩) n c], .pointer (some ⟨b, 0, none⟩), .pointer (some ⟨b + 1, 0, none⟩), .bool false, .int .i64 ((n : Int) + 1), .pointer (some ⟨nb, 0, none⟩), undef, undef, undef, undef, .pointer (some ⟨b, 1, none⟩), .slice (some ⟨a, 0, none⟩) n c, .int .i64 n, .int .i64 ((n : Int) + 1), .int .i64 ((n : Int) + 1), .slice (some ⟨ca, 0, none⟩) (n + 1) (n + 1), .int .i64 ((n : Int) + 1), .slice (some ⟨fa, 0, none⟩) (n + 1) (n + 1), .int .i64 ((n : Int) + 1), .slice (some ⟨da, 0, none⟩) (n + 1) (n + 1), .agg #[.slice (some ⟨ca, 0, none⟩) (n + 1) (n + 1), .slice (some ⟨fa, 0, none⟩) (n + 1) (n + 1), .slice (some ⟨da, 0, none⟩) (n + 1) (n + 1)], undef, undef, undef, undef, undef, undef, undef, undef, undef, undef, undef, undef, undef, undef, undef, undef, undef, undef, undef, undef, undef, undef, undef, undef, undef, undef, undef, undef, undef, undef, undef, undef, undef, undef, undef, undef, undef, undef, undef, undef, undef, undef, undef, undef, undef, undef, undef, undef, undef, undef, undef, undef, undef, undef, undef, undef, undef, undef, undef, undef, undef, undef, undef, undef], defers := [] } W := by
    intro ca fa da nb W hne1 hne2 hc hd hnb hk
    have HC := Lib.hid hc
    have HD := Lib.hid hd
    have HNB := Lib.hid hnb
    have HK := Lib.hid hk
    clear hc hd hnb hk
    go_wp2
    go_loopw [6, 7, 8, 9] (fun v6 _ _ _ wr => ∃ k : Nat, 1 ≤ k ∧ k ≤ n + 1 ∧ v6 = .int .i64 k ∧ Kept [] W wr) (fun v6 _ _ _ _ => n + 1 - (intOf v6).toNat)
    case atStart => exact ⟨1, by omega, by omega, rfl, Kept.refl _ _⟩
    case round =>
      obtain ⟨k, hk1, hk2, rfl, hkr⟩ := hrel
      have HKR := Lib.hid hkr
      have HTB := Lib.hid ((HK.out.trans hkr (by simp)).keep HT.out (by simp))
      clear hkr
      by_cases hlt : k < n + 1
      · have htw := thing_walk cap a n c k wr (HTH.out.kept (HK.out.trans HKR.out (by simp))) hk1 (by omega) hn
        unfold treeC at htw
        have HTW := Lib.hid htw
        have hfi := field_slots (k - 1)
        clear htw
        go_wp2_with (refine wpList_load_row rfl 32 _ rfl b rfl 32 _ (0, 0) _ HTB.out Tryz.underlying32 rfl size32 ?_)
        refine HTW.out.mono ?_
        rintro e v1 ⟨rfl, hk5⟩
        have HK5 := Lib.hid (HKR.out.trans hk5 (by simp))
        clear hk5
        go_wp2
        go_loopw [8, 9] (fun v8 _ wr2 => v8 = .int .i64 0 ∧ wr2 = v1) (fun _ _ _ => 0)
        case atStart => exact ⟨rfl, rfl⟩
        case round =>
          obtain ⟨rfl, rfl⟩ := hrel
          go_wp2
          go_roundw
          case rel => exact ⟨k + 1, by omega, by omega, by go_num, HK5.out⟩
          case measure => simp [intOf]; omega
      · obtain rfl : k = n + 1 := by omega
        have hnb2 := HKR.out.keep HNB.out (by simp)
        have hz2 := (HK.out.trans HKR.out (by simp)).keep HZ.out (by simp)
        have HN2 := Lib.hid hnb2
        have HZ2 := Lib.hid hz2
        have hone : (namesC ca fa da (n + 1)).all (·.oneCell') = true := by simp [namesC, Value.oneCell']
        have HONE := Lib.hid hone
        have HR := Lib.hid (setRow_heap wr (b + 1) _ (namesC ca fa da (n + 1)) 158 (0, 0) hz2)
        have hks := kept_setRow wr (b + 1) (namesC ca fa da (n + 1))
        have HKS := Lib.hid ((HKA.out.trans (HK.out.trans HKR.out (by simp)) (by simp)).trans hks (by simp; have := HSM.out; omega))
        have HCC := Lib.hid (zeros_set (HC.out.kept HKR.out) hne1 (namesC ca fa da (n + 1)))
        have HDD := Lib.hid (zeros_set (HD.out.kept HKR.out) hne2 (namesC ca fa da (n + 1)))
        clear hnb2 hz2 hone hks
        go_wp2_with (first | (refine wpList_load_row rfl 158 _ rfl nb rfl 158 _ (0, 0) _ HN2.out Tryz.underlying158 rfl size158 ?_) | (refine wpList_store_row rfl 158 _ _ rfl (b + 1) (namesC ca fa da (n + 1)) rfl rfl 158 _ HZ2.out size158 rfl HONE.out ?_))
        refine bodyPost_ret (results_row_tmp (P := Tryz.prog) (p := 2) (u := 3) (ty := 158) rfl _ _ (b + 1) 158 (namesC ca fa da (n + 1)) (0, 0) _ rfl HR.out Tryz.underlying158 rfl size158) rfl ?_
        exact ⟨ca, fa, da, rfl, HCC.out, HDD.out, HKS.out⟩
  clear hK
  have HCN := Lib.hid HCONT
  clear HCONT
  go_region_held3 (fun w' => True) (trivial) (fail)
  all_goals
    refine HCN.out _ _ _ _ _ (by omega) (by omega) (zeros_row HZZ.out.symm ?_) (zeros_row HZZ.out.symm ?_) ?_ ?_
    · rw [drew_heap]
      repeat first
        | (refine alloc_hit ?_; (first | rfl | omega | (simp only [size_alloc, set_size]; done) | (simp only [size_alloc, set_size]; omega)); done)
        | refine alloc_whole ?_
        | (refine (set_other _ _ _ ?_).trans ?_; (first | rfl | omega | (simp only [size_alloc, set_size]; done) | (simp only [size_alloc, set_size]; omega)))
    · rw [drew_heap]
      repeat first
        | (refine alloc_hit ?_; (first | rfl | omega | (simp only [size_alloc, set_size]; done) | (simp only [size_alloc, set_size]; omega)); done)
        | refine alloc_whole ?_
        | (refine (set_other _ _ _ ?_).trans ?_; (first | rfl | omega | (simp only [size_alloc, set_size]; done) | (simp only [size_alloc, set_size]; omega)))
    · rw [drew_heap]
      repeat first
        | (refine alloc_hit ?_; (first | rfl | omega | (simp only [size_alloc, set_size]; done) | (simp only [size_alloc, set_size]; omega)); done)
        | refine alloc_whole ?_
        | refine (set_three _ _ _ _ _ ?_).trans rfl
        | (refine (set_other _ _ _ ?_).trans ?_; (first | rfl | omega | (simp only [size_alloc, set_size]; done) | (simp only [size_alloc, set_size]; omega)))
    · refine Kept.drew ?_
      repeat first
        | exact Kept.refl [] w1
        | refine Kept.alloc ?_ _
        | (refine Kept.setCell ?_ _ _ (.inr ?_); rotate_left; (first | rfl | omega | (simp only [size_alloc, set_size]; done) | (simp only [size_alloc, set_size]; omega)))
end Go.Proofs.YtikfphojehgpjaaGreatDoor
