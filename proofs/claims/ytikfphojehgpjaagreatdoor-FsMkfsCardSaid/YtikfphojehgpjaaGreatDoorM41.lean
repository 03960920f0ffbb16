/- vellumref13: FromImage. -/
import Derived.Test.YtikfphojehgpjaaGreatDoorM39
import Derived.Test.YtikfphojehgpjaaGreatDoorM40
import Derived.Test.YtikfphojehgpjaaGreatDoorM30
set_option linter.unusedSimpArgs false
set_option linter.unusedVariables false
namespace Go.Proofs.YtikfphojehgpjaaGreatDoor
open Go.RowKit Vl Go.Maps Go.ChangeMaps
set_option linter.unusedVariables false
/-- What Grown wants of the home area. -/
structure HomeOk (f : Nat → List UInt8) (D N : Nat) : Prop where
  f0 : ∀ i, i < 4096 → bitOf (f 0) i = decide (i < D)
  f1 : ∀ i, i < 4096 → bitOf (f 1) i = decide (i = 0)
  root : cutB (f 2) 0 128 = rootB
  zero : ∀ k, 2 ≤ k → k ≤ N → cutB (f (2 + (k - 1) / 4)) ((k - 1) % 4 * 128) 128 = z128
def RFromPost (S L N : Nat) (w : World) (e : Ending) (w' : World) : Prop := ∃ a c, e = .returned (.tuple #[.agg (treeC (((layOf S L N).blocks : Int) - (layOf S L N).data) a N c), .int .i64 0]) ∧ Things w' a N ∧ Kept [] w w'
set_option maxRecDepth 100000 in
set_option maxHeartbeats 4000000 in
theorem rfrom_walk (l : List UInt8) (S L N ga oa c : Nat) (w : World) (h : BytesAt w (some ⟨ga, oa, none⟩) l) (hi : ImOk l S L N) (hf : HomeOk (fun b => chunk l ((layOf S L N).home + b)) (layOf S L N).data N) (hc : 512 * S ≤ c) (hc2 : c ≤ 1000000000) :
    Calls Tryz.prog 13 #[.slice (some ⟨ga, oa, none⟩) (512 * S : Nat) c] w (RFromPost S L N w) := by
  have HG := Lib.hid (Geo.of hi.geo)
  have HI := Lib.hid hi
  have HF := Lib.hid hf
  have hka := (Kept.refl [] w).alloc (.cells #[.int .i64 0, .slice none 0 0] 32)
  have hb0 := heap_alloc_new w (.cells #[.int .i64 0, .slice none 0 0] 32)
  have HRC := Lib.hid (recover_walk l S L N ga oa c (w.alloc (.cells #[.int .i64 0, .slice none 0 0] 32)) (h.below hka.below) hi hc hc2)
  clear h hi hf
  go_enter Tryz.func13, Tryz.ntmps13
  go_upto_region 1 with fail
  generalize w.alloc (.cells #[.int .i64 0, .slice none 0 0] 32) = w1 at *
  generalize hwb : w.heap.size = b at *
  have HSM := Lib.hid hwb
  have HK1 := Lib.hid hka
  have HB1 := Lib.hid hb0
  clear hka hb0 hwb
  go_wp2_with fail
  refine HRC.out.mono ?_
  rintro e w2 ⟨ba, cb, rfl, hh, hk2⟩
  obtain ⟨Y, hY⟩ : ∃ Y, layOf S L N = Y := ⟨_, rfl⟩
  have hy1 : 1 ≤ Y.blocks ∧ Y.blocks ≤ 2048 := by
    obtain ⟨g1, g2, g3, g4, g5, g6, g7⟩ := HG.out
    rw [← hY]; show 1 ≤ S - (3 + L) ∧ S - (3 + L) ≤ 2048; omega
  have hy2 : Y.nodes = N := by rw [← hY]; rfl
  have hy3 : 0 < Y.data ∧ Y.data ≤ Y.blocks ∧ 2 + (N + 3) / 4 ≤ Y.blocks ∧ 1 ≤ N ∧ N ≤ 1024 := by
    obtain ⟨g1, g2, g3, g4, g5, g6, g7⟩ := HG.out
    rw [← hY]; show 0 < 2 + N / 4 ∧ 2 + N / 4 ≤ S - (3 + L) ∧ 2 + (N + 3) / 4 ≤ S - (3 + L) ∧ 1 ≤ N ∧ N ≤ 1024; omega
  rw [hY] at hh HF ⊢
  have hgw := fun w' (hk : Kept [] w2 w') => grown_walk Y ba Y.blocks cb (fun b => chunk l (Y.home + b)) w' (hh.kept hk) (by rw [hy2]; omega) (by rw [hy2]; omega) (by omega) (by omega) HF.out.f0 HF.out.f1 HF.out.root (by rw [hy2]; exact HF.out.zero)
  unfold homeC at *
  have HY2 := Lib.hid hy2
  clear hy2
  have hnew := heap_alloc_new w2 (.cells #[.int .i64 0, .int .i64 0, .int .i64 0, .int .i64 0, .int .i64 0, .slice none 0 0] 97)
  have hrow := setRow_heap _ w2.heap.size _ #[.int .i64 Y.log, .int .i64 Y.home, .int .i64 Y.blocks, .int .i64 Y.nodes, .int .i64 Y.data, .slice (some ⟨ba, 0, none⟩) Y.blocks cb] 97 (0, 0) hnew
  have hk3 := ((Kept.refl [] w2).alloc (.cells #[.int .i64 0, .int .i64 0, .int .i64 0, .int .i64 0, .int .i64 0, .slice none 0 0] 97)).trans (kept_setRow _ w2.heap.size #[.int .i64 Y.log, .int .i64 Y.home, .int .i64 Y.blocks, .int .i64 Y.nodes, .int .i64 Y.data, .slice (some ⟨ba, 0, none⟩) Y.blocks cb]) (by simp)
  have HK3 := Lib.hid (HK1.out.trans (hk2.trans hk3 (by simp)) (by simp))
  have HB3 := Lib.hid ((hk2.trans hk3 (by simp)).keep HB1.out (by simp))
  have HGW := Lib.hid (hgw _ hk3)
  have HNEW := Lib.hid hnew
  have HHON := Lib.hid (show ((#[.int .i64 Y.log, .int .i64 Y.home, .int .i64 Y.blocks, .int .i64 Y.nodes, .int .i64 Y.data, .slice (some ⟨ba, 0, none⟩) Y.blocks cb] : Array Value).all (·.oneCell') = true) by simp [Value.oneCell'])
  have hbe : ((Y.blocks : Int) == 0) = false := by simp; omega
  clear hnew hk2 hk3 hgw hh HRC
  go_upto_region 2 with (refine wpList_store_row rfl 97 _ _ rfl w2.heap.size #[.int .i64 Y.log, .int .i64 Y.home, .int .i64 Y.blocks, .int .i64 Y.nodes, .int .i64 Y.data, .slice (some ⟨ba, 0, none⟩) Y.blocks cb] rfl rfl 97 _ HNEW.out size97 rfl HHON.out ?_)
  generalize w2.heap.size = n4 at *
  generalize (w2.alloc (.cells #[.int .i64 0, .int .i64 0, .int .i64 0, .int .i64 0, .int .i64 0, .slice none 0 0] 97)).setRow n4 #[.int .i64 Y.log, .int .i64 Y.home, .int .i64 Y.blocks, .int .i64 Y.nodes, .int .i64 Y.data, .slice (some ⟨ba, 0, none⟩) Y.blocks cb] = w3 at *
  have d5 := cell_whole hrow 5
  have ld := lt_whole hrow
  simp only [List.getElem?_toArray, List.getElem?_cons_zero, List.getElem?_cons_succ] at d5
  have HROW := Lib.hid hrow
  clear hrow HNEW
  go_wp2_with (refine wpList_load_row rfl 97 _ rfl n4 rfl 97 _ (0, 0) _ HROW.out Tryz.underlying97 rfl size97 ?_)
  refine HGW.out.mono ?_
  rintro e w4 ⟨a, c', rfl, hth, hk4⟩
  generalize hcap : (Y.blocks : Int) - Y.data = cap
  unfold treeC
  have hb4 := hk4.keep HB3.out (by simp)
  have hnew := heap_alloc_new w4 (.cells #[.int .i64 0, .slice none 0 0] 32)
  have hrow := setRow_heap _ w4.heap.size _ #[.int .i64 cap, .slice (some ⟨a, 0, none⟩) Y.nodes c'] 32 (0, 0) hnew
  have hk5 := ((Kept.refl [] w4).alloc (.cells #[.int .i64 0, .slice none 0 0] 32)).trans (kept_setRow _ w4.heap.size #[.int .i64 cap, .slice (some ⟨a, 0, none⟩) Y.nodes c']) (by simp)
  have HNEW := Lib.hid hnew
  have hb5 := hk5.keep hb4 (by simp)
  have HB5 := Lib.hid hb5
  have HRW := Lib.hid hrow
  have hks := kept_setRow ((w4.alloc (.cells #[.int .i64 0, .slice none 0 0] 32)).setRow w4.heap.size #[.int .i64 cap, .slice (some ⟨a, 0, none⟩) Y.nodes c']) b #[.int .i64 cap, .slice (some ⟨a, 0, none⟩) Y.nodes c']
  have HK5 := Lib.hid ((HK3.out.trans (hk4.trans hk5 (by simp)) (by simp)).trans hks (by have := HSM.out; simp; omega))
  have hne : a ≠ b := fun e => by
    have h1 : w4.cell? ⟨a, 0, none⟩ = some (.int .i64 2) := hth.cell (i := 0) (by rw [HY2.out]; omega) 0 (.int .i64 2) rfl
    have h2 := cell_whole hb4 0
    rw [e, h2] at h1
    simp at h1
  have HTH := Lib.hid ((hth.kept hk5).keep2 hks (by simpa using hne))
  have HRR := Lib.hid (setRow_heap _ b _ #[.int .i64 cap, .slice (some ⟨a, 0, none⟩) Y.nodes c'] 32 (0, 0) hb5)
  have HONE := Lib.hid (show ((#[.int .i64 cap, .slice (some ⟨a, 0, none⟩) Y.nodes c'] : Array Value).all (·.oneCell') = true) by simp [Value.oneCell'])
  have HYY := Lib.hid hY
  have HCP := Lib.hid hcap
  clear hb4 hnew hrow hk4 hk5 hb5 hks hth HGW d5 ld HROW
  go_wp2_with (first | (refine wpList_load_row rfl 32 _ rfl w4.heap.size rfl 32 _ (0, 0) _ HRW.out Tryz.underlying32 rfl size32 ?_) | (refine wpList_store_row rfl 32 _ _ rfl w4.heap.size #[.int .i64 cap, .slice (some ⟨a, 0, none⟩) Y.nodes c'] rfl rfl 32 _ HNEW.out size32 rfl HONE.out ?_) | (refine wpList_store_row rfl 32 _ _ rfl b #[.int .i64 cap, .slice (some ⟨a, 0, none⟩) Y.nodes c'] rfl rfl 32 _ HB5.out size32 rfl HONE.out ?_))
  refine bodyPost_ret (results_row_tmp (P := Tryz.prog) (p := 2) (u := 3) (ty := 32) rfl _ _ b 32 #[.int .i64 cap, .slice (some ⟨a, 0, none⟩) Y.nodes c'] (0, 0) _ rfl HRR.out Tryz.underlying32 rfl size32) rfl ?_
  exact ⟨a, c', by rw [HYY.out, HCP.out, ← HY2.out]; rfl, by rw [← HY2.out]; exact HTH.out, HK5.out⟩
end Go.Proofs.YtikfphojehgpjaaGreatDoor
/- The image that Mkfs leaves is one that FromImage reads: plain Lean. -/
namespace Go.Proofs.YtikfphojehgpjaaGreatDoor
open Go.RowKit Vl Go.Maps Go.ChangeMaps
set_option linter.unusedVariables false
theorem chunk_secs {f : Nat → List UInt8} {n i : Nat} (h : ∀ i, i < n → (f i).length = 512) (hi : i < n) : chunk (secs f n) i = f i := by
  induction n with
  | zero => omega
  | succ n ih =>
    have hl := secs_length (fun i hi => h i (Nat.lt_succ_of_lt hi))
    unfold chunk at ih ⊢
    rw [secs]
    by_cases e : i = n
    · subst e
      rw [List.drop_append_of_le_length (by omega), List.drop_eq_nil_of_le (by omega), List.nil_append, List.take_of_length_le (by rw [h i (by omega)]; omega)]
    · rw [List.drop_append_of_le_length (by omega), List.take_append_of_le_length (by rw [List.length_drop]; omega)]
      exact ih (fun j hj => h j (by omega)) (by omega)
theorem zcut {a : Nat} (h : a + 128 ≤ 512) : cutB zsec a 128 = z128 := zsec_cut a 128 h
theorem tbl_root : cutB tblB 0 128 = rootB := by
  have := over_here (l := zsec) (m := rootB) (a := 0) (by omega)
  rw [rootB_length] at this
  exact this
theorem tbl_rest {a : Nat} (h1 : 128 ≤ a) (h2 : a + 128 ≤ 512) : cutB tblB a 128 = z128 := by
  unfold cutB tblB over
  rw [List.take_zero, List.nil_append, Nat.zero_add, List.drop_append, List.drop_eq_nil_of_le (by rw [rootB_length]; omega), List.nil_append, List.drop_drop, rootB_length, show 128 + (a - 128) = a by omega]
  exact zsec_cut a 128 h2
theorem img_ok {f : Nat → List UInt8} {S L N : Nat} (h : FinIm f S L N) (hg : geoOk S L N = true) (hl : ∀ i, i < S → (f i).length = 512) :
    ImOk (secs f S) S L N ∧ HomeOk (fun b => chunk (secs f S) ((layOf S L N).home + b)) (layOf S L N).data N := by
  have hG := Geo.of hg
  obtain ⟨g1, g2, g3, g4, g5, g6, g7⟩ := hG
  have ck : ∀ i, i < S → chunk (secs f S) i = f i := fun i hi => chunk_secs hl hi
  have rg : RingOk (chunk (secs f S)) L := fun i hi => by
    rw [ck _ (by omega)]
    by_cases h4 : i < 4
    · obtain ⟨t, ht, he⟩ := h.ring i h4
      have hb : (pieceB 2 i i 4 (part (mkRec (2 + N / 4)) i)).length ≤ 504 := by rw [pieceB_length, part_length]; omega
      rw [he]
      refine ⟨sealSec_length t hb, .inr ⟨_, openB_seal ht hb, by rw [pieceB_length]; omega, ?_⟩⟩
      unfold cutB pieceB
      rw [List.drop_zero, List.append_assoc, List.append_assoc, List.append_assoc, List.take_left' (leB_length _ _), leV_leB _ _ (by omega)]
    · rw [h.rest i (by omega) hi]
      exact ⟨zsec_length, .inl openB_zero⟩
  refine ⟨⟨hg, secs_length hl, by rw [ck 0 (by omega)]; exact h.sup, ?_, ?_, ?_, rg, ?_, by rw [ck 1 (by omega)]; exact h.left, by rw [ck 2 (by omega)]; exact h.right⟩, ?_⟩
  · show leV (((superB S L N).drop 8).take 4) = S
    rw [super_S, leV_leB _ _ (by omega)]
  · show leV (((superB S L N).drop 12).take 4) = L
    rw [super_L, leV_leB _ _ (by omega)]
  · show leV (((superB S L N).drop 16).take 4) = N
    rw [super_N, leV_leB _ _ (by omega)]
  · rw [ck 7 (by omega)]
    exact h.rest 4 (by omega) (by omega)
  · have e0 : chunk (secs f S) (3 + L + 0) = bmB (2 + N / 4) := by rw [ck _ (by omega)]; exact h.bm
    have e1 : chunk (secs f S) (3 + L + 1) = oneB := by rw [ck _ (by omega)]; exact h.one
    have e2 : chunk (secs f S) (3 + L + 2) = tblB := by rw [ck _ (by omega)]; exact h.tbl
    refine ⟨fun i hi => ?_, fun i hi => ?_, ?_, fun k k2 kN => ?_⟩
    · show bitOf (chunk (secs f S) (3 + L + 0)) i = decide (i < 2 + N / 4)
      rw [e0]; exact bitOf_bm _ (by omega) i
    · show bitOf (chunk (secs f S) (3 + L + 1)) i = decide (i = 0)
      rw [e1]; exact bitOf_one i
    · show cutB (chunk (secs f S) (3 + L + 2)) 0 128 = rootB
      rw [e2]; exact tbl_root
    · show cutB (chunk (secs f S) (3 + L + (2 + (k - 1) / 4))) ((k - 1) % 4 * 128) 128 = z128
      by_cases hk : (k - 1) / 4 = 0
      · rw [hk, e2]
        exact tbl_rest (by omega) (by omega)
      · rw [ck _ (by omega), h.zero _ (by omega) (by omega)]
        exact zcut (by omega)
end Go.Proofs.YtikfphojehgpjaaGreatDoor
