/- FsMkfs: the law walked. -/
import Derived.Test.YtikfphojehgpjaaGreatDoorM30
import Derived.Test.YtikfphojehgpjaaGreatDoorM41
import Derived.Test.YtikfphojehgpjaaGreatDoorM42
set_option linter.unusedSimpArgs false
set_option linter.unusedVariables false
namespace Go.Proofs.YtikfphojehgpjaaGreatDoor
open Go.RowKit Vl Go.Maps Go.ChangeMaps
set_option linter.unusedVariables false
theorem fuse_is (S : Nat) (f : Nat → List UInt8) (n : Int) : (Dk.fresh S f).fuse n = { Dk.fresh S f with fused := decide (0 ≤ n), left := (max n 0).toNat } := by
  unfold Dk.fuse
  rw [if_neg (by show ¬ (false && _) = true; simp)]
theorem fuse_burnt (S : Nat) (f : Nat → List UInt8) (n : Int) : ((Dk.fresh S f).fuse n).burnt = decide (n = 0) := by
  rw [fuse_is]
  show (decide (0 ≤ n) && (max n 0).toNat == 0) = decide (n = 0)
  by_cases h : n = 0
  · subst h; rfl
  · rw [decide_eq_false h]
    by_cases h2 : 0 ≤ n
    · rw [decide_eq_true h2, Bool.true_and, beq_eq_false_iff_ne]; omega
    · rw [decide_eq_false h2, Bool.false_and]
def LawPost (w : World) (e : Ending) (w' : World) : Prop := e = .returned (.bool true) ∧ Kept [] w w'
theorem info5' : (Tryz.prog.info? 5).map (fun i => (i.zero, i.size, i.bytes)) = some (some (.int .u8 0), 1, 1) := by kernel_rfl
theorem size37 : (Tryz.prog.info? 37).map (·.size) = some 5 := by kernel_rfl
theorem geo_nat {S : Nat} {log nodes : Int} (h : geoOk S log nodes = true) : ∃ L N : Nat, log = L ∧ nodes = N := by
  unfold geoOk at h
  simp only [Bool.and_eq_true, decide_eq_true_eq] at h
  obtain ⟨⟨⟨⟨⟨⟨h1, h2⟩, h3⟩, h4⟩, h5⟩, h6⟩, h7⟩ := h
  exact ⟨log.toNat, nodes.toNat, by omega, by omega⟩
set_option maxRecDepth 100000 in
set_option maxHeartbeats 4000000 in
theorem fsMkfs_walk (sec log nodes fuse : Int) (l : List UInt8) (a : Option Addr) (c : Nat) (w : World) (hl : BytesAt w a l) (hm : l.length ≤ 140737488355328) (h1 : IntOk sec) (h2 : IntOk log) (h3 : IntOk nodes) (h4 : IntOk fuse) (hg : Glob w) :
    Calls Tryz.prog 3 #[.int .i64 sec, .slice a l.length c, .int .i64 log, .int .i64 nodes, .int .i64 fuse] w (LawPost w) := by
  have HN := Lib.hid (new_walk sec w h1)
  obtain ⟨m, hmm⟩ : ∃ m, m = l.length := ⟨_, rfl⟩
  have HL := Lib.hid hl
  have HG := Lib.hid hg
  have H1 := Lib.hid h1
  have H2 := Lib.hid h2
  have H3 := Lib.hid h3
  have H4 := Lib.hid h4
  have HLM := Lib.hid hmm
  rw [← hmm] at hm ⊢
  have HMM := Lib.hid hm
  clear hl hg h1 h2 h3 h4 hm hmm
  go_enter Tryz.func3, Tryz.ntmps3
  go_wp2_with fail
  refine HN.out.mono ?_
  rintro e w1 ⟨hk1, hc⟩
  have HK1 := Lib.hid hk1
  have HC := Lib.hid hc
  have HL1 := Lib.hid (HL.out.below hk1.below)
  clear hk1 hc HN
  by_cases h0 : m = 0
  case' pos =>
    subst h0
    rcases HC.out with ⟨hns, rfl⟩ | ⟨hs1, hs2, d, du, mp, hd, hdu, hmp, rfl, hD⟩
    case inl =>
      have HNS := Lib.hid hns
      clear hns HC
      by_cases hs : sec < 1
      · have t1 : decide (sec < 1) = true := decide_eq_true hs
        clear hs
        go_wp2
        go_ret
        exact ⟨rfl, HK1.out⟩
      · have t1 : decide (sec < 1) = false := decide_eq_false hs
        have t2 : decide (2048 < sec) = true := decide_eq_true (by have := HNS.out; omega)
        clear hs
        go_wp2
        go_ret
        exact ⟨rfl, HK1.out⟩
    case' inr =>
      generalize hSS : sec.toNat = S at hD
      obtain ⟨f, hf⟩ : ∃ f : Nat → List UInt8, f = fun _ => zsec := ⟨_, rfl⟩
      rw [← hf] at hD
      have HD := Lib.hid hD
      have HKW := Lib.hid HK1.out
      have HLO := Lib.hid (show w.heap.size ≤ d ∧ w.heap.size ≤ du ∧ w.heap.size ≤ mp from ⟨hd, hdu, hmp⟩)
      clear hD hf hd hdu hmp hs1 hs2 HC hSS
      go_upto_region 6 with fail
      generalize hB : w1.heap.size = B at *
      generalize w1 = W at *
      clear HL1 HL HLM HMM HK1 hB
  case' neg =>
    have hpos : 0 < m := by omega
    obtain ⟨v, k, rfl⟩ : ∃ v k, e = .returned (.tuple #[v, .int .i64 k]) := by
      rcases HC.out with ⟨_, rfl⟩ | ⟨_, _, d, du, mp, _, _, _, rfl, _⟩
      · exact ⟨_, _, rfl⟩
      · exact ⟨_, _, rfl⟩
    clear HC
    obtain ⟨ga, oa, rfl⟩ : ∃ ga oa, a = some ⟨ga, oa, none⟩ := by
      obtain ⟨ga, oa, hh, _⟩ := HL.out 0 (by have := HLM.out; omega)
      exact ⟨ga, oa, hh⟩
    go_upto_region 3 with fail
    obtain ⟨i0, hi5, hz0, hz1, hz2⟩ : ∃ i, Tryz.prog.info? 5 = some i ∧ i.zero = some (.int .u8 0) ∧ i.size = 1 ∧ i.bytes = 1 := by
      have := info5
      cases hq : Tryz.prog.info? 5 with
      | none => rw [hq] at this; simp at this
      | some i =>
        rw [hq] at this
        simp only [Option.map_some, Option.some.injEq, Prod.mk.injEq] at this
        exact ⟨i, rfl, this⟩
    have hka := (Kept.refl [] w1).alloc (.cells #[] 5)
    have HLA := Lib.hid (HL1.out.below hka.below)
    have HKA := Lib.hid hka
    have HOE := Lib.hid (show Vl.Own (w1.alloc (.cells #[] 5)) w1.heap.size 5 (.slice (some ⟨w1.heap.size, 0, none⟩) 0 0) 0 (bcells []) from ⟨rfl, .inr ⟨_, 0, #[], rfl, Nat.le_refl _, heap_alloc_new w1 _, Nat.le_refl _, by unfold maxLen; omega, rfl, rfl⟩⟩)
    have hsz : w1.heap.size ≤ (w1.alloc (.cells #[] 5)).heap.size := hka.size
    have hm := HMM.out
    clear hka
    go_wp2_with (at_builtin; refine wpList_append_own _ rfl _ _ 22 rfl w1.heap.size 5 i0 (.int .u8 0) 1 1 Tryz.underlying22 hi5 hz0 hz1 hz2 rfl (by decide) _ 0 _ rfl HOE.out ⟨ga, oa, none⟩ m c (bcells l) rfl (by rw [bcells_length]; have := HLM.out; omega) (fun j u hj => HLA.out.cells hj) (bcells_oneCell _) (by unfold maxLen; omega) (by omega) hsz ?_)
    intro v2 w2 hv2 hg2 _
    rw [HLM.out] at hv2
    have ho2 : Vl.Own w2 w1.heap.size 5 v2 l.length (bcells l) := hv2
    have hb2 : Below w1.heap.size (w1.alloc (.cells #[] 5)) w2 := (Below.refl _ _).grown hg2 hsz (fun k hk => (HOE.out.block hk).1)
    obtain ⟨a2, c2, rfl⟩ := ho2.form
    obtain ⟨_, hB2⟩ := BytesAt.of_own ho2
    have HK2 := Lib.hid (show Kept [] w w2 from (HK1.out.trans HKA.out (by simp)).past hb2 HK1.out.size)
    have HLD := Lib.hid (load_walk l a2 c2 w2 hB2 (by rw [← HLM.out]; exact hpos) (by rw [← HLM.out]; exact HMM.out))
    clear hv2 hg2 ho2 hb2 hB2 hsz HOE HKA HLA
    go_wp2_with fail
    refine HLD.out.mono ?_
    rintro e w3 ⟨hk3, hc⟩
    have HK3 := Lib.hid (HK2.out.trans hk3 (by simp))
    have HS2 := Lib.hid HK2.out.size
    clear hk3 HLD
    rcases hc with ⟨hn, rfl⟩ | ⟨hn1, hn2, rfl⟩ | ⟨hn, hs1, hs2, d, du, mp, hd, hdu, hmp, rfl, hD⟩
    case inl =>
      have t3 : decide (0 < (m : Int)) = true := decide_eq_true (by omega)
      rw [← HLM.out] at hn
      obtain ⟨r, hr⟩ : ∃ r, r = m % 512 := ⟨_, rfl⟩
      have e1 : (m : Int).tmod 512 = (r : Int) := by rw [Int.tmod_eq_emod_of_nonneg (by omega)]; omega
      have hr0 : ¬ r = 0 := by omega
      clear hr
      have HEND := Lib.hid (show LawPost w (.returned (.bool true)) w3 from ⟨rfl, HK3.out⟩)
      clear hn
      go_wp2
      go_ret
      exact HEND.out
    case inr.inl =>
      have t3 : decide (0 < (m : Int)) = true := decide_eq_true (by omega)
      rw [← HLM.out] at hn1 hn2
      have e1 : (m : Int).tmod 512 = 0 := by rw [Int.tmod_eq_emod_of_nonneg (by omega)]; omega
      have t4 : decide (1048576 < (m : Int)) = true := decide_eq_true (by omega)
      have HEND := Lib.hid (show LawPost w (.returned (.bool true)) w3 from ⟨rfl, HK3.out⟩)
      clear hn1 hn2
      go_wp2
      go_ret
      exact HEND.out
    case' inr.inr =>
      generalize hSS : l.length / 512 = S at hD hs1 hs2
      obtain ⟨f, hf⟩ : ∃ f : Nat → List UInt8, f = chunk l := ⟨_, rfl⟩
      rw [← hf] at hD
      have HD := Lib.hid hD
      have HKW := Lib.hid HK3.out
      have HLO := Lib.hid (show w.heap.size ≤ d ∧ w.heap.size ≤ du ∧ w.heap.size ≤ mp from ⟨Nat.le_trans HS2.out hd, Nat.le_trans HS2.out hdu, Nat.le_trans HS2.out hmp⟩)
      clear hD hf hd hdu hmp hs1 hs2 hSS hn h0 hpos
      go_upto_region 6 with fail
      generalize hB : w3.heap.size = B at *
      generalize w3 = W at *
      clear HL1 HL HLM HMM HK1 hB HS2 HK2 HK3
  all_goals
    have HFS := Lib.hid (fuse_walk d du mp B (Dk.fresh S f) W HD.out fuse H4.out rfl)
    go_wp2_with fail
    refine HFS.out.mono ?_
    rintro e W1 ⟨rfl, hD1, hkf⟩
    obtain ⟨D, hDD⟩ : ∃ D, D = (Dk.fresh S f).fuse fuse := ⟨_, rfl⟩
    have hfu := fuse_is S f fuse
    have hbu := fuse_burnt S f fuse
    rw [← hDD] at hD1 hfu hbu
    have ePE : ∀ i, D.pend i = none := fun i => by rw [hfu]; rfl
    have eNP : D.np = 0 := by rw [hfu]; rfl
    have eLF : D.life = 1 := by rw [hfu]; rfl
    have eWR : D.wr = 0 := by rw [hfu]; rfl
    have eFL : D.fl = 0 := by rw [hfu]; rfl
    have eRF : D.rf = 0 := by rw [hfu]; rfl
    have HFX := Lib.hid (show (∀ i, D.pend i = none) ∧ D.np = 0 ∧ D.life = 1 ∧ D.wr = 0 ∧ D.fl = 0 ∧ D.rf = 0 from ⟨ePE, eNP, eLF, eWR, eFL, eRF⟩)
    have HBU := Lib.hid hbu
    have HKA := Lib.hid (show Kept [] w W1 from HKW.out.trans hkf (by simp; exact HLO.out.1))
    have HD1 := Lib.hid hD1
    have HLF := Lib.hid (life_walk d du mp B D W1 hD1)
    have HSE := Lib.hid (sectors_walk d du mp B D W1 hD1)
    have hSp := hD1.pos
    clear hD1 hfu hbu ePE eNP eLF eWR eFL eRF hDD HFS hkf HD HKW
    go_wp2_with fail
    refine HLF.out.mono ?_
    rintro e W2 ⟨rfl, rfl⟩
    go_wp2_with fail
    refine HSE.out.mono ?_
    rintro e W3 ⟨rfl, rfl⟩
    clear HLF HSE
    by_cases hz : fuse = 0
    · have hdb : D.burnt = true := by rw [HBU.out]; exact decide_eq_true hz
      subst hz
      have HFR : Hid (Calls Tryz.prog 8 #[.int .i64 D.S, .int .i64 log, .int .i64 nodes] W3 fun e w' => ∃ (x : Int) (y : Option Addr) (yn yc : Nat) (k : Int), e = .returned (.tuple #[.agg #[.int .i64 x, .slice y yn yc], .int .i64 k]) ∧ Kept [] W3 w') := Lib.hid (by
        cases hg : geoOk D.S log nodes with
        | false => exact (fresh_bad D.S log nodes W3 hSp.2 H2.out H3.out hg).mono fun e w' ⟨h1, h2⟩ => ⟨_, _, _, _, _, h1, h2⟩
        | true =>
          obtain ⟨L, N, rfl, rfl⟩ := geo_nat hg
          exact (fresh_walk D.S L N W3 hg).mono fun e w' ⟨a, c, h1, _, _, h2⟩ => ⟨_, _, _, _, _, h1, h2⟩)
      have HDB := Lib.hid hdb
      clear hdb
      go_wp2_with fail
      refine HFR.out.mono ?_
      rintro e W4 ⟨x, y, yn, yc, k, rfl, hk4⟩
      have hnew := heap_alloc_new W4 (.cells #[.int .i64 0, .slice none 0 0] 32)
      have hks := ((Kept.refl [] W4).alloc (.cells #[.int .i64 0, .slice none 0 0] 32)).trans (kept_setRow _ W4.heap.size #[.int .i64 x, .slice y yn yc]) (by simp)
      have HNEW := Lib.hid hnew
      have HK5 := Lib.hid ((HKA.out.trans hk4 (by simp)).trans hks (by simp))
      have HD5 := Lib.hid ((HD1.out.kept0 hk4).kept0 hks)
      have HONE := Lib.hid (show ((#[.int .i64 x, .slice y yn yc] : Array Value).all (·.oneCell') = true) by simp [Value.oneCell'])
      clear hk4 hnew hks
      go_upto_region 9 with (refine wpList_store_row rfl 32 _ _ rfl W4.heap.size #[.int .i64 x, .slice y yn yc] rfl rfl 32 _ HNEW.out size32 rfl HONE.out ?_)
      clear HNEW HFR
      generalize (W4.alloc (.cells #[.int .i64 0, .slice none 0 0] 32)).setRow W4.heap.size #[.int .i64 x, .slice y yn yc] = W5 at *
      generalize W4.heap.size = t14 at *
      have HMK := Lib.hid (mkfs_burnt d du mp B D log nodes W5 HD5.out HDB.out)
      go_wp2_with fail
      refine HMK.out.mono ?_
      rintro e W6 ⟨rfl, hk6⟩
      have HK6 := Lib.hid (HK5.out.trans hk6 (by simp))
      have HD6 := Lib.hid (HD5.out.kept0 hk6)
      have HCT := Lib.hid (counts_walk d du mp B D W6 HD6.out)
      clear hk6 HMK
      go_wp2_with fail
      refine HCT.out.mono ?_
      rintro e W7 ⟨hk7, rfl⟩
      have hnew := heap_alloc_new W7 (.cells #[.int .i64 0, .int .i64 0, .int .i64 0, .int .i64 0, .int .i64 0] 37)
      have hks := ((Kept.refl [] W7).alloc (.cells #[.int .i64 0, .int .i64 0, .int .i64 0, .int .i64 0, .int .i64 0] 37)).trans (kept_setRow _ W7.heap.size #[.int .i64 D.rd, .int .i64 D.wr, .int .i64 D.fl, .int .i64 D.rf, .int .i64 D.pe]) (by simp)
      have hrow := setRow_heap _ W7.heap.size _ #[.int .i64 D.rd, .int .i64 D.wr, .int .i64 D.fl, .int .i64 D.rf, .int .i64 D.pe] 37 (0, 0) hnew
      have HNEW := Lib.hid hnew
      have HK8 := Lib.hid ((HK6.out.trans hk7 (by simp)).trans hks (by simp))
      have HD8 := Lib.hid ((HD6.out.kept0 hk7).kept0 hks)
      have HROW := Lib.hid hrow
      have HONE := Lib.hid (show ((#[.int .i64 D.rd, .int .i64 D.wr, .int .i64 D.fl, .int .i64 D.rf, .int .i64 D.pe] : Array Value).all (·.oneCell') = true) by simp [Value.oneCell'])
      clear hk7 hnew hks hrow HCT HD6 HK6 HD5 HK5
      go_upto_region 11 with (refine wpList_store_row rfl 37 _ _ rfl W7.heap.size #[.int .i64 D.rd, .int .i64 D.wr, .int .i64 D.fl, .int .i64 D.rf, .int .i64 D.pe] rfl rfl 37 _ HNEW.out size37 rfl HONE.out ?_)
      clear HNEW HONE
      generalize (W7.alloc (.cells #[.int .i64 0, .int .i64 0, .int .i64 0, .int .i64 0, .int .i64 0] 37)).setRow W7.heap.size #[.int .i64 D.rd, .int .i64 D.wr, .int .i64 D.fl, .int .i64 D.rf, .int .i64 D.pe] = W8 at *
      generalize W7.heap.size = t17 at *
      have c3 : W8.cell? ⟨t17, 3, none⟩ = some (.int .i64 D.rf) := cell_whole HROW.out 3
      rw [HFX.out.2.2.2.2.2] at c3
      have tl := lt_whole HROW.out
      have HLF := Lib.hid (life_walk d du mp B D W8 HD8.out)
      have HEND := Lib.hid (show LawPost w (.returned (.bool true)) W8 from ⟨rfl, HK8.out⟩)
      go_wp2_with fail
      refine HLF.out.mono ?_
      rintro e W9 ⟨rfl, rfl⟩
      go_wp2
      go_ret
      exact HEND.out
    · have hdb : D.burnt = false := by rw [HBU.out]; exact decide_eq_false hz
      have HDB := Lib.hid hdb
      have HZ := Lib.hid hz
      clear hdb
      cases hg : geoOk D.S log nodes with
      | false =>
        have HGG := Lib.hid hg
        have HFR := Lib.hid (fresh_bad D.S log nodes W3 hSp.2 H2.out H3.out hg)
        clear hg
        go_wp2_with fail
        refine HFR.out.mono ?_
        rintro e W4 ⟨rfl, hk4⟩
        have hnew := heap_alloc_new W4 (.cells #[.int .i64 0, .slice none 0 0] 32)
        have hks := ((Kept.refl [] W4).alloc (.cells #[.int .i64 0, .slice none 0 0] 32)).trans (kept_setRow _ W4.heap.size #[.int .i64 0, .slice none 0 0]) (by simp)
        have HNEW := Lib.hid hnew
        have HK5 := Lib.hid ((HKA.out.trans hk4 (by simp)).trans hks (by simp))
        have HD5 := Lib.hid ((HD1.out.kept0 hk4).kept0 hks)
        have HONE := Lib.hid (show ((#[.int .i64 0, .slice none 0 0] : Array Value).all (·.oneCell') = true) by simp [Value.oneCell'])
        clear hk4 hnew hks
        go_upto_region 9 with (refine wpList_store_row rfl 32 _ _ rfl W4.heap.size #[.int .i64 0, .slice none 0 0] rfl rfl 32 _ HNEW.out size32 rfl HONE.out ?_)
        clear HNEW HFR
        generalize (W4.alloc (.cells #[.int .i64 0, .slice none 0 0] 32)).setRow W4.heap.size #[.int .i64 0, .slice none 0 0] = W5 at *
        generalize W4.heap.size = t14 at *
        have HMK := Lib.hid (mkfs_bad d du mp B D log nodes W5 HD5.out H2.out H3.out HGG.out)
        go_wp2_with fail
        refine HMK.out.mono ?_
        rintro e W6 ⟨rfl, hk6⟩
        rw [if_neg (by rw [HDB.out]; decide)]
        have HK6 := Lib.hid (HK5.out.trans hk6 (by simp))
        have HD6 := Lib.hid (HD5.out.kept0 hk6)
        have HCT := Lib.hid (counts_walk d du mp B D W6 HD6.out)
        clear hk6 HMK
        go_wp2_with fail
        refine HCT.out.mono ?_
        rintro e W7 ⟨hk7, rfl⟩
        have hnew := heap_alloc_new W7 (.cells #[.int .i64 0, .int .i64 0, .int .i64 0, .int .i64 0, .int .i64 0] 37)
        have hks := ((Kept.refl [] W7).alloc (.cells #[.int .i64 0, .int .i64 0, .int .i64 0, .int .i64 0, .int .i64 0] 37)).trans (kept_setRow _ W7.heap.size #[.int .i64 D.rd, .int .i64 D.wr, .int .i64 D.fl, .int .i64 D.rf, .int .i64 D.pe]) (by simp)
        have hrow := setRow_heap _ W7.heap.size _ #[.int .i64 D.rd, .int .i64 D.wr, .int .i64 D.fl, .int .i64 D.rf, .int .i64 D.pe] 37 (0, 0) hnew
        have HNEW := Lib.hid hnew
        have HK8 := Lib.hid ((HK6.out.trans hk7 (by simp)).trans hks (by simp))
        have HD8 := Lib.hid ((HD6.out.kept0 hk7).kept0 hks)
        have HROW := Lib.hid hrow
        have HONE := Lib.hid (show ((#[.int .i64 D.rd, .int .i64 D.wr, .int .i64 D.fl, .int .i64 D.rf, .int .i64 D.pe] : Array Value).all (·.oneCell') = true) by simp [Value.oneCell'])
        clear hk7 hnew hks hrow HCT HD6 HK6 HD5 HK5
        go_upto_region 11 with (refine wpList_store_row rfl 37 _ _ rfl W7.heap.size #[.int .i64 D.rd, .int .i64 D.wr, .int .i64 D.fl, .int .i64 D.rf, .int .i64 D.pe] rfl rfl 37 _ HNEW.out size37 rfl HONE.out ?_)
        clear HNEW HONE
        generalize (W7.alloc (.cells #[.int .i64 0, .int .i64 0, .int .i64 0, .int .i64 0, .int .i64 0] 37)).setRow W7.heap.size #[.int .i64 D.rd, .int .i64 D.wr, .int .i64 D.fl, .int .i64 D.rf, .int .i64 D.pe] = W8 at *
        generalize W7.heap.size = t17 at *
        have c1 : W8.cell? ⟨t17, 1, none⟩ = some (.int .i64 D.wr) := cell_whole HROW.out 1
        have c2' : W8.cell? ⟨t17, 2, none⟩ = some (.int .i64 D.fl) := cell_whole HROW.out 2
        rw [HFX.out.2.2.2.1] at c1
        rw [HFX.out.2.2.2.2.1] at c2'
        have tl := lt_whole HROW.out
        have HLF := Lib.hid (life_walk d du mp B D W8 HD8.out)
        have HEND := Lib.hid (show LawPost w (.returned (.bool true)) W8 from ⟨rfl, HK8.out⟩)
        go_wp2_with fail
        refine HLF.out.mono ?_
        rintro e W9 ⟨rfl, rfl⟩
        go_wp2
        go_ret
        exact HEND.out
      | true =>
        obtain ⟨L, N, rfl, rfl⟩ := geo_nat hg
        have HGG := Lib.hid hg
        have HFR := Lib.hid (fresh_walk D.S L N W3 hg)
        clear hg
        go_wp2_with fail
        refine HFR.out.mono ?_
        rintro e W4 ⟨ta, tc, rfl, hta, hth, hk4⟩
        generalize hcap : ((layOf D.S L N).blocks : Int) - (layOf D.S L N).data = cap
        unfold treeC
        have hnew := heap_alloc_new W4 (.cells #[.int .i64 0, .slice none 0 0] 32)
        have hks := ((Kept.refl [] W4).alloc (.cells #[.int .i64 0, .slice none 0 0] 32)).trans (kept_setRow _ W4.heap.size #[.int .i64 cap, .slice (some ⟨ta, 0, none⟩) N tc]) (by simp)
        have hrow := setRow_heap _ W4.heap.size _ #[.int .i64 cap, .slice (some ⟨ta, 0, none⟩) N tc] 32 (0, 0) hnew
        have HNEW := Lib.hid hnew
        have HR14 := Lib.hid hrow
        have HK5 := Lib.hid ((HKA.out.trans hk4 (by simp)).trans hks (by simp))
        have HD5 := Lib.hid ((HD1.out.kept0 hk4).kept0 hks)
        have HT5 := Lib.hid (hth.kept hks)
        have hb3 := HD1.out.base_le
        have hlow := HD1.out.low
        have hs4 := hk4.size
        have HNE := Lib.hid (show ta ∉ [d, du, mp] ∧ W4.heap.size ∉ [d, du, mp] by simp; omega)
        have HONE := Lib.hid (show ((#[.int .i64 cap, .slice (some ⟨ta, 0, none⟩) N tc] : Array Value).all (·.oneCell') = true) by simp [Value.oneCell'])
        have HCAP := Lib.hid hcap
        clear hk4 hnew hks hrow hth hta hb3 hlow hs4 hcap
        go_upto_region 9 with (refine wpList_store_row rfl 32 _ _ rfl W4.heap.size #[.int .i64 cap, .slice (some ⟨ta, 0, none⟩) N tc] rfl rfl 32 _ HNEW.out size32 rfl HONE.out ?_)
        clear HNEW HFR
        generalize (W4.alloc (.cells #[.int .i64 0, .slice none 0 0] 32)).setRow W4.heap.size #[.int .i64 cap, .slice (some ⟨ta, 0, none⟩) N tc] = W5 at *
        generalize W4.heap.size = t14 at *
        have hw0 : 0 < w.heap.size := by
          rcases Nat.eq_zero_or_pos w.heap.size with h0 | h
          · have hg := HG.out
            unfold Glob at hg
            simp [World.cell?, h0] at hg
          · exact h
        have hlo := HLO.out
        have HMK := Lib.hid (mkfs_walk d du mp B D L N W5 HD5.out HGG.out HFX.out.1 HFX.out.2.1 (by rw [HFX.out.2.2.1]; omega) ((cell_kept HK5.out hw0 (by simp)).trans HG.out) (by simp; omega))
        clear hw0 hlo
        go_wp2_with fail
        refine HMK.out.mono ?_
        rintro e W6 (⟨rfl, hb, hk6⟩ | ⟨rfl, E, hE, hEb, hES, hEl, hk6⟩ | ⟨rfl, b6, E, hE, hES, hErf, hEl, hEpe, hEpd, him, hk6⟩)
        · rw [HDB.out] at hb; cases hb
        · have HK6 := Lib.hid (HK5.out.trans hk6 (by have := HLO.out; simp; omega))
          have HE6 := Lib.hid hE
          have HEB := Lib.hid hEb
          have HCT := Lib.hid (countsW_walk d du mp E W6 hE)
          clear hk6 HMK hE hEb hES
          go_wp2_with fail
          refine HCT.out.mono ?_
          rintro e W7 ⟨hk7, rfl⟩
          have hnew := heap_alloc_new W7 (.cells #[.int .i64 0, .int .i64 0, .int .i64 0, .int .i64 0, .int .i64 0] 37)
          have hks := ((Kept.refl [] W7).alloc (.cells #[.int .i64 0, .int .i64 0, .int .i64 0, .int .i64 0, .int .i64 0] 37)).trans (kept_setRow _ W7.heap.size #[.int .i64 E.rd, .int .i64 E.wr, .int .i64 E.fl, .int .i64 E.rf, .int .i64 E.pe]) (by simp)
          have HNEW := Lib.hid hnew
          have HK8 := Lib.hid ((HK6.out.trans hk7 (by simp)).trans hks (by simp))
          have HE8 := Lib.hid ((HE6.out.kept0 hk7).kept0 hks)
          have HONE := Lib.hid (show ((#[.int .i64 E.rd, .int .i64 E.wr, .int .i64 E.fl, .int .i64 E.rf, .int .i64 E.pe] : Array Value).all (·.oneCell') = true) by simp [Value.oneCell'])
          clear hk7 hnew hks HCT HE6 HK6 HD5 HK5
          go_upto_region 11 with (refine wpList_store_row rfl 37 _ _ rfl W7.heap.size #[.int .i64 E.rd, .int .i64 E.wr, .int .i64 E.fl, .int .i64 E.rf, .int .i64 E.pe] rfl rfl 37 _ HNEW.out size37 rfl HONE.out ?_)
          clear HNEW HONE
          generalize (W7.alloc (.cells #[.int .i64 0, .int .i64 0, .int .i64 0, .int .i64 0, .int .i64 0] 37)).setRow W7.heap.size #[.int .i64 E.rd, .int .i64 E.wr, .int .i64 E.fl, .int .i64 E.rf, .int .i64 E.pe] = W8 at *
          generalize W7.heap.size = t17 at *
          have HBW := Lib.hid (burntW_walk d du mp E W8 HE8.out HEB.out)
          have HLF := Lib.hid (lifeW_walk d du mp E W8 HE8.out)
          have HEND := Lib.hid (show LawPost w (.returned (.bool true)) W8 from ⟨rfl, HK8.out⟩)
          go_wp2_with fail
          refine HBW.out.mono ?_
          rintro e W9 ⟨rfl, rfl⟩
          go_wp2_with fail
          refine HLF.out.mono ?_
          rintro e W10 ⟨rfl, rfl⟩
          go_wp2
          go_ret
          exact HEND.out
        · rw [← hES] at HCAP HGG
          have HK6 := Lib.hid (HK5.out.trans hk6 (by have := HLO.out; simp; omega))
          have HE6 := Lib.hid hE
          have HT6 := Lib.hid (HT5.out.keep2 hk6 HNE.out.1)
          have hr6 := hk6.keep HR14.out HNE.out.2
          have HIM := Lib.hid him
          have hrf : E.rf = 0 := by rw [hErf]; exact HFX.out.2.2.2.2.2
          have HEP := Lib.hid hEpe
          have HRF := Lib.hid hrf
          have HR6 := Lib.hid hr6
          have HCT := Lib.hid (counts_walk d du mp b6 E W6 hE)
          clear hk6 HMK hE hES hErf hEpe hEpd him hrf hr6 HT5 HR14
          go_wp2_with fail
          refine HCT.out.mono ?_
          rintro e W7 ⟨hk7, rfl⟩
          have hnew := heap_alloc_new W7 (.cells #[.int .i64 0, .int .i64 0, .int .i64 0, .int .i64 0, .int .i64 0] 37)
          have hks := ((Kept.refl [] W7).alloc (.cells #[.int .i64 0, .int .i64 0, .int .i64 0, .int .i64 0, .int .i64 0] 37)).trans (kept_setRow _ W7.heap.size #[.int .i64 E.rd, .int .i64 E.wr, .int .i64 E.fl, .int .i64 E.rf, .int .i64 E.pe]) (by simp)
          have HROW := Lib.hid (setRow_heap _ W7.heap.size _ #[.int .i64 E.rd, .int .i64 E.wr, .int .i64 E.fl, .int .i64 E.rf, .int .i64 E.pe] 37 (0, 0) hnew)
          have HNEW := Lib.hid hnew
          have hk68 := hk7.trans hks (by simp)
          have HK8 := Lib.hid (HK6.out.trans hk68 (by simp))
          have HE8 := Lib.hid (HE6.out.kept0 hk68)
          have HT8 := Lib.hid (HT6.out.kept hk68)
          have HR8 := Lib.hid (hk68.keep HR6.out (by simp))
          have HONE := Lib.hid (show ((#[.int .i64 E.rd, .int .i64 E.wr, .int .i64 E.fl, .int .i64 E.rf, .int .i64 E.pe] : Array Value).all (·.oneCell') = true) by simp [Value.oneCell'])
          clear hk7 hnew hks hk68 HCT HE6 HK6 HD5 HK5 HT6 HR6
          go_upto_region 11 with (refine wpList_store_row rfl 37 _ _ rfl W7.heap.size #[.int .i64 E.rd, .int .i64 E.wr, .int .i64 E.fl, .int .i64 E.rf, .int .i64 E.pe] rfl rfl 37 _ HNEW.out size37 rfl HONE.out ?_)
          clear HNEW HONE
          generalize (W7.alloc (.cells #[.int .i64 0, .int .i64 0, .int .i64 0, .int .i64 0, .int .i64 0] 37)).setRow W7.heap.size #[.int .i64 E.rd, .int .i64 E.wr, .int .i64 E.fl, .int .i64 E.rf, .int .i64 E.pe] = W8 at *
          generalize W7.heap.size = t17 at *
          have HIG := Lib.hid (image_walk d du mp b6 E W8 HE8.out)
          go_wp2_with fail
          refine HIG.out.mono ?_
          rintro e W9 ⟨hk9, g, hg9, rfl, hB9⟩
          obtain ⟨hio, hho⟩ := img_ok HIM.out HGG.out HE8.out.len
          have hEp := HE8.out.pos
          have HFI := Lib.hid (rfrom_walk (secs E.dur E.S) E.S L N g 0 (512 * E.S) W9 hB9.at hio hho (Nat.le_refl _) (by omega))
          have HK9 := Lib.hid hk9
          clear hio hho hB9 hk9 HIG
          go_wp2_with fail
          refine HFI.out.mono ?_
          rintro e W10 ⟨ua, uc, rfl, hth, hk10⟩
          rw [HCAP.out]
          unfold treeC
          have hnew := heap_alloc_new W10 (.cells #[.int .i64 0, .slice none 0 0] 32)
          have hks := ((Kept.refl [] W10).alloc (.cells #[.int .i64 0, .slice none 0 0] 32)).trans (kept_setRow _ W10.heap.size #[.int .i64 cap, .slice (some ⟨ua, 0, none⟩) N uc]) (by simp)
          have HR18 := Lib.hid (setRow_heap _ W10.heap.size _ #[.int .i64 cap, .slice (some ⟨ua, 0, none⟩) N uc] 32 (0, 0) hnew)
          have HNEW := Lib.hid hnew
          have hk8 := (HK9.out.trans hk10 (by simp)).trans hks (by simp)
          have HK11 := Lib.hid (HK8.out.trans hk8 (by simp))
          have HE11 := Lib.hid (HE8.out.kept0 hk8)
          have HT11 := Lib.hid (HT8.out.kept hk8)
          have HU11 := Lib.hid (hth.kept hks)
          have HR11 := Lib.hid (hk8.keep HR8.out (by simp))
          have HRW := Lib.hid (hk8.keep HROW.out (by simp))
          have HONE := Lib.hid (show ((#[.int .i64 cap, .slice (some ⟨ua, 0, none⟩) N uc] : Array Value).all (·.oneCell') = true) by simp [Value.oneCell'])
          clear hnew hks hk8 hth hk10 HK9 HK8 HE8 HT8 HR8 HROW HFI
          go_upto_region 18 with (refine wpList_store_row rfl 32 _ _ rfl W10.heap.size #[.int .i64 cap, .slice (some ⟨ua, 0, none⟩) N uc] rfl rfl 32 _ HNEW.out size32 rfl HONE.out ?_)
          clear HNEW HONE
          generalize (W10.alloc (.cells #[.int .i64 0, .slice none 0 0] 32)).setRow W10.heap.size #[.int .i64 cap, .slice (some ⟨ua, 0, none⟩) N uc] = W11 at *
          generalize W10.heap.size = t18 at *
          have c3 : W11.cell? ⟨t17, 3, none⟩ = some (.int .i64 E.rf) := cell_whole HRW.out 3
          have c4 : W11.cell? ⟨t17, 4, none⟩ = some (.int .i64 E.pe) := cell_whole HRW.out 4
          rw [HRF.out] at c3
          rw [HEP.out] at c4
          have tl := lt_whole HRW.out
          have a0 : W11.cell? ⟨t14, 0, none⟩ = some (.int .i64 cap) := cell_whole HR11.out 0
          have a1 : W11.cell? ⟨t14, 1, none⟩ = some (.slice (some ⟨ta, 0, none⟩) N tc) := cell_whole HR11.out 1
          have al := lt_whole HR11.out
          have u0 : W11.cell? ⟨t18, 0, none⟩ = some (.int .i64 cap) := cell_whole HR18.out 0
          have u1 : W11.cell? ⟨t18, 1, none⟩ = some (.slice (some ⟨ua, 0, none⟩) N uc) := cell_whole HR18.out 1
          have ul := lt_whole HR18.out
          have HLF := Lib.hid (life_walk d du mp b6 E W11 HE11.out)
          have hsm := same_walk cap ta ua N tc uc W11 HT11.out HU11.out (Geo.of HGG.out).n2
          unfold treeC at hsm
          have HSM := Lib.hid hsm
          clear hsm
          go_wp2_with fail
          refine HLF.out.mono ?_
          rintro e W12 ⟨rfl, rfl⟩
          go_wp2_with fail
          refine HSM.out.mono ?_
          rintro e W13 ⟨rfl, hk13⟩
          have HEND := Lib.hid (show LawPost w (.returned (.bool true)) W13 from ⟨rfl, HK11.out.trans hk13 (by simp)⟩)
          clear hk13
          go_wp2
          go_ret
          exact HEND.out
end Go.Proofs.YtikfphojehgpjaaGreatDoor
